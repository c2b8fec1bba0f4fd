/- Each thing that is done in the small heap, in the great one: loads, stores, new blocks, places. -/
import Derived.Test.YtfieiaijdalkbaaGreatMD
namespace Go.Mini
def Out(ρ:Rho)(h:Hp)(w:World)(r:Result Value)(v:MV)(h':Hp):Prop:=
 ∃rv ρ' w',r=.ok rv w'∧VRel ρ' v rv∧HRel ρ' h' w'.heap∧HStp ρ h w ρ' h' w'
theorem Out.same{ρ:Rho}{h:Hp}{w:World}{r:Result Value}{v:MV}(k:HRel ρ h w.heap){rv:Value}(hr:r=.ok rv w)(hv:VRel ρ v rv):Out ρ h w r v h:=
 ⟨rv,ρ,w,hr,hv,k,HStp.refl _ _ _⟩
theorem CTy.enc_dec{t:CTy}{v:MV}{x:t.den}(h:t.dec v=some x):t.enc x=v:=by
 cases t with
 | bool=>cases v<;>first | (cases h;rfl) | cases h
 | int k=>
  cases v with
  | int k' n=>
   simp only[CTy.dec]at h;split at h
   ·rename_i e;subst e;cases h;rfl
   ·cases h
  | _=>cases h
 | str=>cases v<;>first | (cases h;rfl) | cases h
 | ptr=>cases v<;>first | (cases h;rfl) | cases h
 | sl e=>
  cases v with
  | sl p l e'=>
   simp only[CTy.dec]at h;split at h
   ·rename_i e;subst e;cases h;rfl
   ·cases h
  | _=>cases h
 | map=>cases v<;>first | (cases h;rfl) | cases h
 | any=>cases h;rfl
theorem HC.enc_dec(ts:List CTy):∀(vs:List MV)(x:HC ts),HC.dec ts vs=some x→HC.enc ts x=vs:=by
 induction ts with
 | nil=>
  intro vs x h;cases vs with
  | nil=>rfl
  | cons v vs=>cases h
 | cons t r ih=>
  intro vs x h;cases r with
  | nil=>
   match vs,h with
   | [],h=>cases h
   | [v],h=>exact congrArg (fun q=>[q]) (CTy.enc_dec h)
   | _::_::_,h=>cases h
  | cons u r=>
   cases vs with
   | nil=>cases h
   | cons v vs=>
    have h2:(match t.dec v with
     | none=>none
     | some x=>match HC.dec (u::r) vs with
      | some y=>some (x,y)
      | none=>none)=some x:=h
    cases ha:t.dec v with
    | none=>rw[ha]at h2;cases h2
    | some a=>
     rw[ha]at h2;cases hb:HC.dec (u::r) vs with
     | none=>simp only[hb]at h2;cases h2
     | some b=>
      simp only[hb]at h2;obtain rfl:(a,b)=x:=Option.some.inj h2;show t.enc a::HC.enc (u::r) b=v::vs;rw[CTy.enc_dec ha,ih _ _ hb]
theorem zgf{k:IntKind}:∀{cs:List MV}{xs:List Int},zfn k cs=some xs→xs.map (.int k)=cs
 | [],xs,h=>by simp[zfn]at h;subst h;rfl
 | c::r,xs,h=>by
  cases c<;>simp only[zfn]at h<;>try cases h
  split at h
  ·rename_i e;subst e;split at h
   ·rename_i l hl;cases h;simp[zgf hl]
   ·cases h
  ·cases h
theorem Ty.enc_dec{t:Ty}{v:MV}{x:t.den}(h:t.dec v=some x):t.enc x=v:=by
 cases t with
 | c t=>exact CTy.enc_dec h
 | st ts=>
  cases v with
  | agg cs=>
   have h2:HC.dec ts cs=some x:=h;exact congrArg MV.agg (HC.enc_dec ts cs x h2)
  | _=>exact nomatch h
 | agg n=>
  cases v with
  | agg cs=>exact congrArg MV.agg (Option.some.inj h).symm
  | _=>exact nomatch h
 | arr k=>
  cases v with
  | agg cs=>exact congrArg MV.agg (zgf h)
  | _=>exact nomatch h
 | fnc f caps=>
  cases v with
  | fn g cs=>
   have h2:(if g=f then HC.dec caps cs else none)=some x:=h;split at h2
   ·rename_i e;subst e;exact congrArg (MV.fn g) (HC.enc_dec caps cs x h2)
   ·cases h2
  | _=>exact nomatch h
theorem HT.enc_dec(ts:List Ty):∀(vs:List MV)(x:HT ts),HT.dec ts vs=some x→HT.enc ts x=vs:=by
 induction ts with
 | nil=>
  intro vs x h;cases vs with
  | nil=>rfl
  | cons v vs=>cases h
 | cons t r ih=>
  intro vs x h;cases r with
  | nil=>
   match vs,h with
   | [],h=>cases h
   | [v],h=>exact congrArg (fun q=>[q]) (Ty.enc_dec h)
   | _::_::_,h=>cases h
  | cons u r=>
   cases vs with
   | nil=>cases h
   | cons v vs=>
    have h2:(match t.dec v with
     | none=>none
     | some x=>match HT.dec (u::r) vs with
      | some y=>some (x,y)
      | none=>none)=some x:=h
    cases ha:t.dec v with
    | none=>rw[ha]at h2;cases h2
    | some a=>
     rw[ha]at h2;cases hb:HT.dec (u::r) vs with
     | none=>simp only[hb]at h2;cases h2
     | some b=>
      simp only[hb]at h2;obtain rfl:(a,b)=x:=Option.some.inj h2;show t.enc a::HT.enc (u::r) b=v::vs;rw[Ty.enc_dec ha,ih _ _ hb]
theorem z0f{α β:Type}{m:M α}{f:α→M β}{h:Hp}{r:β×Hp}(e:bd m f h=some r):∃a h1,m h=some (a,h1)∧f a h1=some r:=by
 unfold bd at e;split at e
 ·cases e
 ·rename_i a h1 hm;exact⟨a,h1,hm,e⟩
theorem z2z{α:Type}{o:Option α}{h h':Hp}{a:α}(e:z0p o h=some (a,h')):o=some a∧h'=h:=by
 unfold z0p at e;split at e
 ·cases e;exact⟨rfl,rfl⟩
 ·cases e
theorem z3m(b o n:Nat):(⟨b,o,none⟩:Addr).add n=⟨b,o+n,none⟩:=by
 unfold Addr.add;split<;>simp_all
theorem zfg{w:World}{r:Nat}{c:Array Value}{el:TypeId}{fz:Nat×Nat}(h:w.heap[r]? = some (.cells c el fz))(i:Nat):w.cell? ⟨r,i,none⟩=c[i]? :=by
 simp[World.cell?,h]
theorem z10j{ρ:Rho}{h:Hp}{w:World}(k:HRel ρ h w.heap){q:Option MA}{v:MV}{h':Hp}(e:ldc q h=some (v,h')){x:Value}(hx:VRel ρ (.ptr q) x) :
  ∃ra v',x=.pointer (some ra)∧w.cell? ra=some v'∧VRel ρ v v'∧h'=h:=by
 cases hx with
 | nil=>simp[ldc]at e
 | ptr a rb hb=>
  simp only[ldc]at e;split at e
  ·rename_i cs ro hg;split at e
   ·rename_i u hu;cases e;have hk:=k.blk _ _ hb;rw[hg]at hk;obtain⟨c,el,fz,h1,h2,h3,h4,_⟩:=hk;obtain⟨v',hv',hr⟩:=h4 _ _ hu;exact⟨_,v',rfl,by rw[zfg h1];exact hv',hr,rfl⟩
   ·cases e
  ·cases e
theorem zhv{ρ:Rho}{h:Hp}{w:World}(k:HRel ρ h w.heap){q:Option MA}{n:Nat}{vs:List MV}{h':Hp}(e:ldn n q h=some (vs,h')){x:Value}(hx:VRel ρ (.ptr q) x) :
  ∃r o xs,x=.pointer (some ⟨r,o,none⟩)∧xs.length=n∧(∀j y,xs[j]? = some y→w.cell? ((⟨r,o,none⟩:Addr).add j)=some y)∧VRels ρ vs xs∧h'=h:=by
 cases hx with
 | nil=>simp[ldn]at e
 | ptr a rb hb=>
  simp only[ldn]at e;split at e
  ·rename_i cs ro hg;split at e
   ·rename_i hle;cases e;have hk:=k.blk _ _ hb;rw[hg]at hk;obtain⟨c,el,fz,h1,h2,h3,h4,_⟩:=hk;refine⟨rb.r,rb.o+a.off,(c.toList.drop (rb.o+a.off)).take n,rfl,?_,?_,?_,rfl⟩
    ·simp;omega
    ·intro j y hy;rw[z3m,zfg h1];rw[List.getElem?_take]at hy;split at hy
     ·simpa using hy
     ·cases hy
    ·apply VRels.of_get
     ·simp;omega
     ·intro i v y hv hy;rw[List.getElem?_take]at hv hy;split at hv
      ·rename_i hi;rw[if_pos hi]at hy;simp at hv hy;obtain⟨v',hv',hr⟩:=h4 _ _ hv;rw[←Nat.add_assoc,hy]at hv';cases hv';exact hr
      ·cases hv
   ·cases e
  ·cases e
section
variable{P:Program}
theorem zva{t:TypeId}{d:TypeDesc}(h:P.underlying t=some d):∃i,P.info? t=some i:=by
 unfold Program.underlying at h;cases e:P.info? t with
 | none=>rw[e]at h;simp at h
 | some i=>exact⟨i,rfl⟩
theorem z1j{t:TypeId}{d:TypeDesc}(h:P.underlying t=some d)(w:World):(sizeOf t).run P w=.ok (P.cellsOf t) w:=by
 obtain⟨i,hi⟩:=zva h;simp[sizeOf,typeInfo,hi,Program.cellsOf]
theorem z0o{t:TypeId}{d:TypeDesc}(h:P.underlying t=some d)(w:World):(underlying t).run P w=.ok d w:=by
 simp[underlying,h]
def zal:TypeDesc→Bool
 | .struct _=>true
 | .array _ _=>true
 | _=>false
theorem za0{t:TypeId}{d:TypeDesc}(h:P.underlying t=some d)(w:World):(isAgg t).run P w=.ok (zal d) w:=by
 unfold isAgg;rw[Sem.run_bind,z0o h];cases d<;>rfl
theorem zba{t:TypeId}{ty:Ty}(h:vty P t=some ty):∃d,P.underlying t=some d ∧
  ((zal d=false∧∃c,ty=.c c∧cty P t=some c)∨(zal d=true∧((∃ts,ty=.st ts∧ts.length=P.cellsOf t)∨ty=.agg (P.cellsOf t)))):=by
 unfold vty at h;split at h
 ·rename_i fs hu;refine⟨_,hu,.inr ⟨rfl,?_⟩⟩;split at h
  ·cases h;exact .inr rfl
  ·split at h
   ·split at h
    ·cases h;rename_i ts _ hl;exact .inl ⟨ts,rfl,hl⟩
    ·cases h
   ·cases h
 ·rename_i n e hu;cases h;exact⟨_,hu,.inr ⟨rfl,.inr rfl⟩⟩
 ·rename_i hs ha;cases hc:cty P t with
  | none=>simp[hc]at h
  | some c=>
   rw[hc]at h;cases h;have hu:∃d,P.underlying t=some d:=by
    unfold cty at hc;cases e:P.underlying t with
    | none=>rw[e]at hc;simp at hc
    | some d=>exact⟨d,rfl⟩
   obtain⟨d,hd⟩:=hu;refine⟨d,hd,.inl ⟨?_,c,rfl,rfl⟩⟩;cases d<;>first | rfl | exact absurd hd (hs _) | exact absurd hd (ha _ _)
theorem zsa(t:CTy)(q:Option MA):ldC t q=bd (ldc q) fun v=>z0p (t.dec v):=by
 cases t<;>try rfl
 funext h;simp only[ldC,bd];cases ldc q h with
 | none=>rfl
 | some r=>cases r;rfl
theorem zd9{ρ:Rho}{h:Hp}{w:World}(k:HRel ρ h w.heap){T:TypeId}{t:Ty}(ht:vty P T=some t){q:Option MA}{x:Value}(hx:VRel ρ (.ptr q) x)
  {r:t.den} {h':Hp} (e:ld t q h=some (r,h')):h'=h∧∃rv,(Instr.loadAt T x).run P w=.ok rv w∧VRel ρ (t.enc r) rv:=by
 obtain⟨d,hu,hd⟩:=zba ht;rcases hd with⟨hd,c,rfl,hc⟩ | ⟨hd,hd2⟩
 ·simp only[ld,zsa]at e;obtain⟨v,h1,e1,e2⟩:=z0f e;obtain⟨ra,v',rfl,hcell,hv,rfl⟩:=z10j k e1 hx;obtain⟨e3,rfl⟩:=z2z e2;refine⟨rfl,v',?_,?_⟩
  ·simp[Instr.loadAt,Instr.sureAddr,loadVar,za0 hu,hd,hcell]
  ·rw[show(Ty.c c).enc r=v from CTy.enc_dec e3];exact hv
 ·have key:∀(n:Nat)(vs:List MV)(h1:Hp),n=P.cellsOf T→ldn n q h=some (vs,h1)→h1=h∧∃xs,(Instr.loadAt T x).run P w=.ok (.agg xs) w∧VRel ρ (.agg vs) (.agg xs):=by
   intro n vs h1 hn e1;obtain⟨b,o,xs,rfl,hl,hcell,hv,rfl⟩:=zhv k e1 hx;refine⟨rfl,xs.toArray,?_,.agg _ _ hv⟩;have hrun:=run_loadCells_list (P:=P) w ⟨b,o,none⟩ xs hcell;rw[hl,hn]at hrun;simp[Instr.loadAt,Instr.sureAddr,loadVar,za0 hu,hd,z1j hu,hrun]
  rcases hd2 with⟨ts,rfl,hl⟩ | rfl
  ·simp only[ld,z4f]at e;obtain⟨vs,h1,e1,e2⟩:=z0f e;obtain⟨e3,rfl⟩:=z2z e2;obtain⟨rfl,xs,h2,h3⟩:=key _ _ _ hl e1;refine⟨rfl,_,h2,?_⟩;simp only[Ty.enc];rw[HC.enc_dec _ _ _ e3];exact h3
  ·simp only[ld]at e;obtain⟨rfl,xs,h2,h3⟩:=key _ _ _ rfl e;exact⟨rfl,_,h2,h3⟩
theorem zsb{t:TypeId}{ty:Ty}(h:lty P t=some ty):vty P t=some ty∨∃f caps,ty=.fnc f caps∧vty P t=some (.c .any):=by
 unfold lty at h;split at h
 ·rename_i f n hv _;cases h;exact .inr ⟨_,_,rfl,hv⟩
 ·exact .inl h
theorem zvb{ρ:Rho}{h:Hp}{w:World}(k:HRel ρ h w.heap){T:TypeId}{t:Ty}(ht:lty P T=some t){q:Option MA}{x:Value}(hx:VRel ρ (.ptr q) x)
  {r:t.den} {h':Hp} (e:ld t q h=some (r,h')):h'=h∧∃rv,(Instr.loadAt T x).run P w=.ok rv w∧VRel ρ (t.enc r) rv:=by
 rcases zsb ht with ht | ⟨f,caps,rfl,ht2⟩
 ·exact zd9 k ht hx e
 ·simp only[ld]at e;obtain⟨v,h1,e1,e2⟩:=z0f e;obtain⟨e3,rfl⟩:=z2z e2;obtain⟨rfl,rv,h2,h3⟩:=zd9 (t :=.c .any) k ht2 hx (r:=v) e1;refine⟨rfl,rv,h2,?_⟩;rw[Ty.enc_dec e3];exact h3
theorem zxx(w:World)(g:Nat)(cur:Array Value)(t:TypeId)(fz:Nat×Nat)(hg:w.heap[g]? = some (.cells cur t fz)):w.setRow g cur=w:=by
 have:(w.setRow g cur).heap=w.heap:=by
  apply Array.ext_getElem?;intro i;by_cases e:i=g
  ·subst e;rw[setRow_heap w i cur cur t fz hg,hg]
  ·exact setRow_other w g i cur e
 have e:w.setRow g cur={w with heap:=(w.setRow g cur).heap}:=rfl;rw[e,this]
theorem z8u(g o:Nat)(t:TypeId)(fz:Nat×Nat):∀(vs:List Value)(i:Nat)(cur:Array Value)(w:World),w.heap[g]? = some (.cells cur t fz) →
  (∀j,i≤j→j<i+vs.length→¬(fz.1≤o+j∧o+j<fz.2))→o+i+vs.length≤cur.size→(∀v∈vs,v.oneCell'=true) →
  (storeCells ⟨g,o,none⟩ vs i).run P w=.ok () (w.setRow g (cur.toList.take (o+i)++vs++cur.toList.drop (o+i+vs.length)).toArray)
 | [],i,cur,w,hg,_,_,_=>by
  simp only[storeCells,List.append_nil,List.length_nil,Nat.add_zero,List.take_append_drop,Array.toArray_toList];rw[zxx w g cur t fz hg];rfl
 | v::rest,i,cur,w,hg,hfz,hl,h1=>by
  have hi:o+i<cur.size:=by simp at hl;omega
  have hcell:w.cell? ⟨g,o+i,none⟩=some cur[o+i]:=by simp[World.cell?,hg,hi]
  have hfro:w.frozen? ⟨g,o+i,none⟩=false:=by
   have:=hfz i (Nat.le_refl _) (by simp)
   obtain⟨lo,hi'⟩:=fz;simp only[World.frozen?,hg,Bool.and_eq_false_iff,decide_eq_false_iff_not];simp only at this;omega
  have hst:(store ((⟨g,o,none⟩:Addr).add i) v).run P w=.ok () (w.setRow g (cur.setIfInBounds (o+i) v)):=by
   rw[z3m,run_store P w _ v _ (h1 v (by simp)),hcell];simp[hfro,setCell_eq_setRow w g (o+i) cur t fz v hg]
  have ih:=z8u g o t fz rest (i+1) (cur.setIfInBounds (o+i) v) (w.setRow g (cur.setIfInBounds (o+i) v)) (setRow_heap w g cur _ t _ hg)
   (fun j hj hj2=>hfz j (by omega) (by simp;omega)) (by simp at hl ⊢;omega) (fun x hx=>h1 x (by simp[hx]))
  simp only[storeCells,Sem.run_bind,hst,Result.andThen_ok,ih,setRow_setRow];congr 3;apply List.ext_getElem?;intro j;simp only[Array.toList_setIfInBounds,List.getElem?_append,List.length_append,List.length_take,List.length_set,List.getElem?_take,List.getElem?_set,List.getElem?_drop,List.length_cons,Array.length_toList];simp at hl;by_cases a1:j<o+i
  ·simp[a1,show j<o+(i+1) by omega,show ¬(o+i=j) by omega,show min (o+i) cur.size=o+i by omega,show min (o+(i+1)) cur.size=o+(i+1) by omega];rw[if_pos (by omega),if_pos (by omega)]
  ·by_cases a2:j=o+i
   ·subst a2;simp[show min (o+i) cur.size=o+i by omega,show min (o+(i+1)) cur.size=o+(i+1) by omega];rw[if_pos (by omega),if_pos hi]
   ·have m1:min (o+i) cur.size=o+i:=by omega
    have m2:min (o+(i+1)) cur.size=o+(i+1):=by omega
    rw[m1,m2];by_cases a3:j<o+i+(rest.length+1)
    ·rw[if_pos (by omega),if_neg (by omega),if_pos (by omega),if_neg (by omega)];rw[show j - (o+i)=(j - (o+(i+1)))+1 by omega,List.getElem?_cons_succ]
    ·rw[if_neg (by omega),if_neg (by omega),if_neg (by omega)];congr 1;omega
end
end Go.Mini

/- Stores, new blocks, places, slices. -/
namespace Go.Mini
theorem zgn(cs vs:List MV)(off i:Nat)(h:off+vs.length≤cs.length) :
  (z11 cs off vs)[i]? = if off≤i∧i<off+vs.length then vs[i - off]? else cs[i]? :=by
 unfold z11;simp only[List.getElem?_append,List.length_append,List.length_take,List.getElem?_take,List.getElem?_drop];have m:min off cs.length=off:=by omega
 rw[m];by_cases a:i<off
 ·rw[if_pos (by omega),if_pos a,if_pos a,if_neg (by omega)]
 ·by_cases b:i<off+vs.length
  ·rw[if_pos b,if_neg a,if_pos ⟨by omega,b⟩]
  ·rw[if_neg b,if_neg (by omega)];congr 1;omega
theorem zc4(cs vs:List MV)(off:Nat)(h:off+vs.length≤cs.length):(z11 cs off vs).length=cs.length:=by
 unfold z11;simp;omega
theorem over_one(cs:List MV)(off:Nat)(v:MV)(h:off<cs.length):z11 cs off [v]=cs.set off v:=by
 apply List.ext_getElem?;intro i;rw[zgn _ _ _ _ (by simp;omega),List.getElem?_set];by_cases e:off=i
 ·subst e;simp[h]
 ·rw[if_neg (by simp;omega),if_neg e]
section
variable{P:Program}{ρ:Rho}{h:Hp}{w:World}
theorem zem(k:HRel ρ h w.heap){b:Nat}{rb:RB}{cs:List MV}(hb:ρ b=some rb)(hg:h.get b=.cells cs false)(off:Nat){vs:List MV}{xs:List Value}
  (hv:VRels ρ vs xs) (hc:vs.all z10=true) (hle:off+vs.length≤cs.length) :
  ∃w',(storeCells ⟨rb.r,rb.o+off,none⟩ xs).run P w=.ok () w'∧HRel ρ (h.set b (.cells (z11 cs off vs) false)) w'.heap∧HStp ρ h w ρ (h.set b (.cells (z11 cs off vs) false)) w':=by
 have hk:=k.blk _ _ hb;rw[hg]at hk;obtain⟨c,el,fz,h1,h2,h3,h4,h5⟩:=hk;have hlen:=hv.length;have hrun:=z8u (P:=P) rb.r (rb.o+off) el fz xs 0 c w h1 (fun j _ hj=>by have:=h5 rfl;omega) (by omega) (hv.oneCell hc);refine⟨_,hrun,?_⟩;refine k.write (b:=b) (rb:=rb) _ hb (.inl ⟨cs,hg⟩) (by simp) (by intro cs' e;cases e) (by simp) (fun i hi=>setRow_other w rb.r i _ hi) rfl rfl rfl ?_;refine⟨_,el,fz,setRow_heap w _ c _ el fz h1,?_,?_,?_,h5⟩
 ·simp;omega
 ·rw[zc4 _ _ _ hle];exact h3
 ·intro i v hv';rw[zgn _ _ _ _ hle]at hv';simp only[Nat.add_zero];by_cases hi:off≤i∧i<off+vs.length
  ·rw[if_pos hi]at hv';obtain⟨y,hy,hr⟩:=hv.get _ _ hv';refine⟨y,?_,hr⟩;rw[List.getElem?_toArray,List.getElem?_append_left (by simp;omega),List.getElem?_append_right (by simp;omega)];rw[←hy];congr 1;simp;omega
  ·rw[if_neg hi]at hv';obtain⟨y,hy,hr⟩:=h4 _ _ hv';refine⟨y,?_,hr⟩;have hib:i<cs.length:=(List.getElem?_eq_some_iff.1 hv').1;rw[List.getElem?_toArray];by_cases hlt:i<off
   ·rw[List.getElem?_append_left (by simp;omega),List.getElem?_append_left (by simp;omega),List.getElem?_take,if_pos (by omega)];simpa using hy
   ·rw[List.getElem?_append_right (by simp;omega),List.getElem?_drop];rw[←hy];simp only[List.length_append,List.length_take,Array.length_toList,Array.getElem?_toList];congr 1;omega
theorem z8f{x:Value}(h:x.oneCell'=true):x.cells = #[x]:=by
 cases x<;>first | rfl | simp[Value.oneCell']at h
theorem z10m(k:HRel ρ h w.heap){T:TypeId}{d:TypeDesc}(hu:P.underlying T=some d)(hsz:P.cellsOf T=1){q:Option MA}{x y:Value}{v:MV}(hx:VRel ρ (.ptr q) x)(hy:VRel ρ v y)
  {h':Hp} {u:Unit} (e:stc q v h=some (u,h')):∃w',(Instr.storeAt T x y).run P w=.ok () w'∧HRel ρ h' w'.heap∧HStp ρ h w ρ h' w':=by
 cases hx with
 | nil=>simp[stc]at e
 | ptr a rb hb=>
  simp only[stc]at e;split at e
  ·rename_i cs hg;split at e
   ·rename_i hc;cases e;obtain⟨w',hr,h1,h2⟩:=zem (P:=P) k hb hg a.off (.cons _ _ _ _ hy .nil) (by simp[hc.2]) (by have:=hc.1;simp;omega);refine⟨w',?_,?_,?_⟩
    ·have h1c:=hy.oneCell hc.2;simp[Instr.storeAt,Instr.sureAddr,storeVar,z8f h1c,z1j hu,hsz];exact hr
    ·rw[over_one _ _ _ hc.1]at h1;exact h1
    ·rw[over_one _ _ _ hc.1]at h2;exact h2
   ·cases e
  ·cases e
theorem z10n(k:HRel ρ h w.heap){T:TypeId}{d:TypeDesc}(hu:P.underlying T=some d){q:Option MA}{x y:Value}{vs:List MV}(hx:VRel ρ (.ptr q) x)(hy:VRel ρ (.agg vs) y)
  {h':Hp} {u:Unit} (e:stn (P.cellsOf T) q vs h=some (u,h')):∃w',(Instr.storeAt T x y).run P w=.ok () w'∧HRel ρ h' w'.heap∧HStp ρ h w ρ h' w':=by
 cases hx with
 | nil=>simp[stn]at e
 | ptr a rb hb=>
  simp only[stn]at e;split at e
  ·rename_i cs hg;split at e
   ·rename_i hc;cases e;cases hy with
    | agg _ xs hv=>
     obtain⟨w',hr,h1,h2⟩:=zem (P:=P) k hb hg a.off hv hc.2.2 hc.1;refine⟨w',?_,h1,h2⟩;have hl:=hv.length;simp[Instr.storeAt,Instr.sureAddr,storeVar,Value.cells,z1j hu,←hl,hc.2.1];exact hr
   ·cases e
  ·cases e
theorem zkb(k:HRel ρ h w.heap)(el:TypeId){cs:List MV}{xs:Array Value}(hl:cs.length≤xs.size)(hv:VRels ρ cs (xs.toList.take cs.length)) :
  ∃ρ',(newRow el xs).run P w=.ok ⟨w.heap.size,0,none⟩ (w.alloc (.cells xs el))∧ρ' h.size=some ⟨w.heap.size,0,xs.size⟩ ∧
   HRel ρ' (h.push (.cells cs false)) (w.alloc (.cells xs el)).heap∧HStp ρ h w ρ' (h.push (.cells cs false)) (w.alloc (.cells xs el)):=by
 refine⟨ρ.put h.size ⟨w.heap.size,0,xs.size⟩,by simp[newRow],Rho.put_same _ _ _,?_⟩;refine k.alloc _ (by simp) _ (.cells xs el) _ rfl rfl rfl rfl ?_;intro ρ' hx;refine⟨xs,el,(0,0),heap_alloc_new _ _,by simp,by simpa using hl,?_,fun _ =>.inl rfl⟩;intro i v hi;obtain⟨y,hy,hr⟩:=hv.get _ _ hi;rw[List.getElem?_take]at hy;split at hy
 ·exact⟨y,by simpa using hy,hr.mono hx⟩
 ·cases hy
theorem z8g(k:HRel ρ h w.heap)(el:TypeId){cs:List MV}{xs:Array Value}(hv:VRels ρ cs xs.toList) :
  ∃ρ',(newRow el xs).run P w=.ok ⟨w.heap.size,0,none⟩ (w.alloc (.cells xs el))∧ρ' h.size=some ⟨w.heap.size,0,xs.size⟩ ∧
   HRel ρ' (h.push (.cells cs false)) (w.alloc (.cells xs el)).heap∧HStp ρ h w ρ' (h.push (.cells cs false)) (w.alloc (.cells xs el)):=by
 have hl:=hv.length;refine zkb k el (by simp at hl;omega) ?_;rw[List.take_of_length_le (by omega)];exact hv
theorem zsn{c:CTy}{v:Value}{m:MV}(e:zhw c v=some m)(ρ:Rho):VRel ρ m v:=by
 cases c<;>cases v<;>simp only[zhw]at e<;>try cases e
 ·constructor
 ·split at e
  ·rename_i hk;subst hk;cases e;constructor
  ·cases e
 ·rename_i s;have:VRel ρ (.str s.data.toList) (.string ⟨s.data.toList.toArray⟩) :=.str _
  simpa using this
 ·rename_i a;cases a<;>simp only[zhw]at e<;>cases e;constructor
 ·rename_i e0 a l c;cases a<;>cases l<;>cases c<;>simp only[zhw]at e<;>cases e;constructor
 ·rename_i r;cases r<;>simp only[zhw]at e<;>cases e;constructor
 ·constructor
 ·constructor
theorem zi5:∀{ts:List CTy}{vs:List Value}{ms:List MV},zda ts vs=some ms→∀(ρ:Rho),VRels ρ ms vs
 | [],[],ms,e,ρ=>by simp[zda]at e;subst e;exact .nil
 | t::ts,v::vs,ms,e,ρ=>by
  simp only[zda]at e;split at e
  ·rename_i x xs h1 h2;cases e;exact .cons _ _ _ _ (zsn h1 ρ) (zi5 h2 ρ)
  ·cases e
 | [],_::_,ms,e,ρ=>by simp[zda]at e
 | _::_,[],ms,e,ρ=>by simp[zda]at e
theorem zeroOf_spec{t:TypeId}{z:List MV}(e:z56 P t=some z):∃i v,P.info? t=some i∧i.zero=some v∧∀ρ,VRels ρ z v.cells.toList:=by
 unfold z56 at e;split at e
 ·rename_i i hi;split at e
  ·rename_i v ts hz ht;exact⟨i,v,hi,hz,fun ρ=>zi5 e ρ⟩
  ·cases e
 ·cases e
theorem z38{t:TypeId}{i:TypeInfo}{v:Value}(hi:P.info? t=some i)(hz:i.zero=some v)(w:World):(zeroValue t).run P w=.ok v w:=by
 simp[zeroValue,typeInfo,hi,hz]
theorem zvc(k:HRel ρ h w.heap){t:TypeId}{z:List MV}(hz:z56 P t=some z){p:Option MA}{h':Hp}(e:alloc z h=some (p,h')) :
  Out ρ h w ((Instr.alloc t true (.tuple #[])).run P w) (.ptr p) h':=by
 cases e;obtain⟨i,v,hi,hv,hr⟩:=zeroOf_spec hz;obtain⟨ρ',h1,h2,h3,h4⟩:=z8g (P:=P) k t (hr ρ);refine⟨_,ρ',_,?_,.ptr ⟨h.size,0⟩ _ h2,h3,h4⟩;simp[Instr.alloc,z38 hi hv,newVar,h1]
theorem z10o(k:HRel ρ h w.heap){t:TypeId}{cs:List MV}{y:Value}(hy:VRel ρ (.agg cs) y){p:Option MA}{h':Hp}(e:alloc cs h=some (p,h')) :
  Out ρ h w ((Instr.box t y).run P w) (.ptr p) h':=by
 cases e;cases hy with
 | agg _ xs hv=>
  obtain⟨ρ',h1,h2,h3,h4⟩:=z8g (P:=P) (xs:=xs.toArray) k t hv;refine⟨_,ρ',_,?_,.ptr ⟨h.size,0⟩ _ h2,h3,h4⟩;simp[Instr.box,newVar,Value.cells,h1]
theorem zy1(k:HRel ρ h w.heap){t:TypeId}{v:MV}{y:Value}(hy:VRel ρ v y){p:Option MA}{h':Hp}(e:z8d v h=some (p,h')) :
  Out ρ h w ((Instr.box t y).run P w) (.ptr p) h':=by
 unfold z8d at e;split at e
 ·rename_i hc;cases e;obtain⟨ρ',h1,h2,h3,h4⟩:=z8g (P:=P) (xs := #[y]) k t (.cons _ _ _ _ hy .nil);refine⟨_,ρ',_,?_,.ptr ⟨h.size,0⟩ _ h2,h3,h4⟩;simp[Instr.box,newVar,z8f (hy.oneCell hc),h1]
 ·cases e
theorem zl0{z:List MV}{v:Value}(n:Nat)(hz:VRels ρ z v.cells.toList)(e:Nat)(he:z.length=e) :
  VRels ρ (z0t n z) ((Array.range (n * e)).map fun x=>v.cells[x%v.cells.size]!).toList:=by
 have hl:=hz.length;have hsz:v.cells.size=e:=by rw[←he,hl];simp
 have hlen:∀n,(z0t n z).length=n * e:=by
  intro n;induction n with
  | zero=>simp[z0t]
  | succ n ih=>simp[z0t,ih,he,Nat.succ_mul,Nat.add_comm]
 have hget:∀n i,i<n * e→(z0t n z)[i]? = z[i%e]? :=by
  intro n;induction n with
  | zero=>intro i hi;omega
  | succ n ih=>
   intro i hi;rw[Nat.succ_mul]at hi;simp only[z0t];by_cases hlt:i<e
   ·rw[List.getElem?_append_left (by omega),Nat.mod_eq_of_lt hlt]
   ·rw[List.getElem?_append_right (by omega),he,ih _ (by omega),Nat.mod_eq_sub_mod (by omega:e≤i)]
 apply VRels.of_get
 ·simp[hlen]
 ·intro i m x hm hx;have hi:i<n * e:=by
   have:=(List.getElem?_eq_some_iff.1 hm).1
   rw[hlen]at this;exact this
  have he0:0<e:=by
   rcases Nat.eq_zero_or_pos e with h0 | h0
   ·subst h0;simp at hi
   ·exact h0
  rw[hget _ _ hi]at hm;have hmod:i%e<e:=Nat.mod_lt _ he0;obtain⟨y,hy,hr⟩:=hz.get _ _ hm;simp[hi,hsz]at hx;have hyy:v.cells[i%e]! = y:=by
   rw[getElem!_pos v.cells (i%e) (by omega)];simp at hy;have:=hy
   rw[Array.getElem?_eq_getElem (by omega)]at this;exact Option.some.inj this
  rw[hyy]at hx;subst hx;exact hr
theorem zi6{ρ':Rho}{b:Nat}{r o e n z:Nat}(h:ρ' b=some ⟨r,o,e⟩)(cap:Nat)(hn:n≤cap)(hc:cap * z≤e)(hm:cap≤9223372036854775807:=by omega):VRel ρ' (.sl (some ⟨b,0⟩) n z) (.slice (some ⟨r,o,none⟩) n cap):=by
 refine .sl _ _ n z cap _ h hn (.inr ⟨by simp,?_⟩);simpa using hc
theorem zmg{n:Int}(h0:0≤n)(h1:n≤9223372036854775807):IntKind.i64.wrap n=n:=by
 unfold IntKind.wrap IntKind.bits IntKind.signed;simp only[Bool.true_and];have e64:(2:Int)^64=18446744073709551616:=by decide
 have e63:(2:Int)^(64 - 1)=9223372036854775808:=by decide
 rw[e64,e63];have h2:n%18446744073709551616=n:=Int.emod_eq_of_lt h0 (by omega);rw[h2,if_neg];simp;omega
theorem zy2(k:HRel ρ h w.heap){T E:TypeId}(hu:P.underlying T=some (.slice E)){z:List MV}(hz:z56 P E=some z){kl kc:IntKind}{l c:Int}{s:Sl}{h':Hp}
  (e:mkSl (P.cellsOf E) (P.bytesOf E) z l c h=some (s,h')) (hb:0<P.bytesOf E) :
  Out ρ h w ((Instr.makeSlice T (.int kl l) (.int kc c)).run P w) (.sl s.p s.len (P.cellsOf E)) h':=by
 unfold mkSl at e;split at e
 ·rename_i hc;obtain⟨h0,h1,h2,h3⟩:=hc;cases e;obtain⟨i,v,hi,hv,hr⟩:=zeroOf_spec hz;have hbi:i.bytes=P.bytesOf E:=by simp[Program.bytesOf,hi]
  have hsi:i.size=P.cellsOf E:=by simp[Program.cellsOf,hi]
  have hmost:(most:Int)=70368744177664:=rfl;have hcle:c≤70368744177664:=by
   have:c * 1≤c * (P.bytesOf E:Int):=Int.mul_le_mul_of_nonneg_left (by omega) (by omega)
   omega
  have w1:IntKind.i64.wrap l=l:=zmg h0 (by omega);have w2:IntKind.i64.wrap c=c:=zmg (by omega) (by omega);have hrel:=zl0 (ρ:=ρ) c.toNat (hr ρ) (P.cellsOf E) h3;obtain⟨ρ',g1,g2,g3,g4⟩:=z8g (P:=P) k E hrel;refine⟨.slice (some ⟨w.heap.size,0,none⟩) l.toNat c.toNat,ρ',_,?_,?_,g3,g4⟩
  ·have hmul:((P.bytesOf E:Int) * c > 2^48)=False:=by
    apply eq_false;have:(P.bytesOf E:Int) * c=c * P.bytesOf E:=Int.mul_comm _ _
    rw[this];have:(2:Int)^48=281474976710656:=by decide
    omega
   have c1:(c<0)=False:=eq_false (by omega);have c2:(l<0)=False:=eq_false (by omega);have c3:(l > c)=False:=eq_false (by omega);simp only[Instr.makeSlice,Sem.run_bind,z0o hu,Result.andThen_ok,asInt,asIntOf,Sem.run_pure,typeInfo,run_program,hi,hbi,w1,w2,hmul,c1,c2,c3,decide_false,Bool.or_self,Bool.false_eq_true,if_false,run_askRoom,sizeOf,hsi];by_cases hn:c.toNat * P.cellsOf E=0
   ·have hg:(Array.range (c.toNat * P.cellsOf E)).map (fun x=>v.cells[x%v.cells.size]!) = #[]:=by rw[hn];simp
    rw[hg]at g1 ⊢;simp only[hn,if_true,Sem.run_pure,Result.andThen_ok,show Array.range 0 = #[] by simp,List.map_toArray,List.map_nil,Sem.run_bind,g1]
   ·simp[hn,z38 hi hv,g1]
  ·refine zi6 g2 _ (show l.toNat≤c.toNat by omega) ?_;simp
 ·cases e
end
end Go.Mini
