/- Single operations, second part: structs, arrays, private variables, maps. -/
import Derived.ChangeKeysEq
import Derived.Test.YtfieiaijdalkbaaGreatMI
namespace Go.Mini
section
variable{P:Program}{β:Type}{ρ:Rho}{h:Hp}{w:World}{res:β×Hp}
theorem zm8{t:TypeId}{d:TypeDesc}(hu:P.underlying t=some d):z9b P t=zal d:=by
 unfold z9b;rw[hu];cases d<;>rfl
theorem z81{t:TypeId}(h:isSome (P.underlying t)=true):∃d,P.underlying t=some d:=by
 cases e:P.underlying t with
 | none=>rw[e]at h;cases h
 | some d=>exact⟨d,rfl⟩
theorem zdv{T:TypeId}{d:TypeDesc}(hu:P.underlying T=some d)(hd:zal d=true)(cs:Array Value)(off:Nat) :
  (part T cs off).run P w=.ok (.agg (cs.extract off (off+P.cellsOf T))) w:=by
 simp[part,za0 hu,hd,z1j hu]
theorem z73{T:TypeId}{d:TypeDesc}(hu:P.underlying T=some d)(hd:zal d=false){cs:Array Value}{off:Nat}{v:Value}(hv:cs[off]? = some v) :
  (part T cs off).run P w=.ok v w:=by
 simp[part,za0 hu,hd,hv]
theorem zs6{cs:List MV}{vs:List Value}(hv:VRels ρ cs vs)(off n:Nat)(hle:off+n≤cs.length):VRel ρ (.agg ((cs.drop off).take n)) (.agg (vs.toArray.extract off (off+n))):=by
 have:=VRel.agg _ _ ((hv.drop off).take n)
 have e:vs.toArray.extract off (off+n)=((vs.drop off).take n).toArray:=by
  apply Array.ext';simp[List.take_drop]
 rw[e];exact this
theorem zp9{T:TypeId}{t:Ty}(ht:vty P T=some t){pv:PV}{o:Nat}{k:MV→M β}{Run:Value→Prop}{d:TypeDesc}(hu:P.underlying T=some d)
  (one:zal d=false→∀v,pv.cells[o]? = some v→∃rv,VRel ρ v rv∧Run rv) (many:zal d=true→o+P.cellsOf T≤pv.cells.length→∃rv,VRel ρ (.agg ((pv.cells.drop o).take (P.cellsOf T))) rv∧Run rv)
  (e:z6l pv t o k h=some res):∃v rv,k v h=some res∧VRel ρ v rv∧Run rv:=by
 obtain⟨d',hu',hd⟩:=zba ht;rw[hu]at hu';cases hu';unfold z6l at e;split at e
 ·rename_i cs ct;rcases hd with⟨hd,_⟩ | ⟨hd,⟨ts,h1,_⟩ | h1⟩
  ·obtain⟨v,hv,e'⟩:=z0i e;obtain⟨rv,h1,h2⟩:=one hd v hv;exact⟨v,rv,e',h1,h2⟩
  ·cases h1
  ·cases h1
 ·rename_i cs ts;rcases hd with⟨hd,_,h1,_⟩ | ⟨hd,⟨ts',h1,hl⟩ | h1⟩
  ·cases h1
  ·cases h1;split at e
   ·rename_i hle;rw[hl]at e hle;obtain⟨rv,h1,h2⟩:=many hd hle;exact⟨_,rv,e,h1,h2⟩
   ·cases e
  ·cases h1
 ·rename_i kd xs kd';rcases hd with⟨hd,_⟩ | ⟨hd,⟨ts,h1,_⟩ | h1⟩
  ·split at e
   ·obtain⟨n,h1,e1,e2⟩:=z0f e;obtain⟨e3,rfl⟩:=z2z e1;obtain⟨rv,h3,h4⟩:=one hd (.int kd n) (by simp[PV.cells,e3]);exact⟨_,rv,e2,h3,h4⟩
   ·cases e
  ·cases h1
  ·cases h1
 ·rename_i cs ct;rcases hd with⟨hd,_⟩ | ⟨hd,⟨ts,h1,_⟩ | h1⟩
  ·obtain⟨v,h1,e1,e2⟩:=z0f e;obtain⟨e3,rfl⟩:=z2z e1;obtain⟨x,h1,e4,e5⟩:=z0f e2;obtain⟨e6,rfl⟩:=z2z e4;obtain⟨rv,h3,h4⟩:=one hd v e3;exact⟨_,rv,e5,by rw[CTy.enc_dec e6];exact h3,h4⟩
  ·cases h1
  ·cases h1
 ·rename_i cs ts;rcases hd with⟨hd,_,h1,_⟩ | ⟨hd,⟨ts',h1,hl⟩ | h1⟩
  ·cases h1
  ·cases h1;obtain⟨l,h1,e1,e2⟩:=z0f e;split at e1
   ·rename_i hle;cases e1;obtain⟨x,h2,e3,e4⟩:=z0f e2;obtain⟨e5,rfl⟩:=z2z e3;rw[hl]at e5 hle;obtain⟨rv,h1,h2⟩:=many hd hle;exact⟨_,rv,e4,by rw[HC.enc_dec _ _ _ e5];exact h1,h2⟩
   ·cases e1
  ·cases h1
 ·rename_i cs n;rcases hd with⟨hd,_,h1,_⟩ | ⟨hd,⟨ts',h1,hl⟩ | h1⟩
  ·cases h1
  ·cases h1
  ·cases h1;obtain⟨l,h1,e1,e2⟩:=z0f e;split at e1
   ·rename_i hle;cases e1;obtain⟨rv,h1,h2⟩:=many hd hle;exact⟨_,rv,e2,h1,h2⟩
   ·cases e1
 ·cases e
theorem zka{T:TypeId}{t:Ty}(ht:vty P T=some t){pv:PV}{g:Nat}{c:Array Value}{el:TypeId}(hg:w.heap[g]? = some (.cells c el (0,0)))(hc:VRels ρ pv.cells c.toList){o:Nat}{k:MV→M β}
  (e:z6l pv t o k h=some res):∃v rv,k v h=some res∧VRel ρ v rv∧(Instr.loadAt T (.pointer (some ⟨g,o,none⟩))).run P w=.ok rv w:=by
 obtain⟨d,hu,_⟩:=zba ht;refine zp9 (Run:=fun rv=>(Instr.loadAt T (.pointer (some ⟨g,o,none⟩))).run P w=.ok rv w) ht hu ?_ ?_ e
 ·intro hd v hv;obtain⟨y,hy,hr⟩:=hc.get _ _ hv;refine⟨y,hr,?_⟩;have:w.cell? ⟨g,o,none⟩=some y:=by rw[zfg hg];simpa using hy
  simp[Instr.loadAt,Instr.sureAddr,loadVar,za0 hu,hd,this]
 ·intro hd hle;have hl:=hc.length;simp at hl;have hr:=VRel.agg _ _ ((hc.drop o).take (P.cellsOf T));refine⟨_,hr,?_⟩;have hlen:((c.toList.drop o).take (P.cellsOf T)).length=P.cellsOf T:=by simp;omega
  have:=run_loadCells_list (P:=P) w ⟨g,o,none⟩ ((c.toList.drop o).take (P.cellsOf T)) (by
   intro j v hj;rw[z3m,zfg hg];rw[List.getElem?_take]at hj;split at hj
   ·simpa using hj
   ·cases hj)
  rw[hlen]at this;simp[Instr.loadAt,Instr.sureAddr,loadVar,za0 hu,hd,z1j hu,this]
theorem zs7{T:TypeId}{ty:Ty}(ht:vty P T=some ty){pv:PV}{off:Nat}{kk:MV→M β}(e:z6l pv ty off kk h=some res){q:Value}(hq:VRel ρ (.agg pv.cells) q) :
  ∃v rv,kk v h=some res∧VRel ρ v rv∧∀xs:Array Value,q=.agg xs→(part T xs off).run P w=.ok rv w:=by
 obtain⟨d,hu,_⟩:=zba ht;cases hq with
 | agg _ xs hxs=>
  refine zp9 (Run:=fun rv=>∀ys:Array Value,Value.agg xs.toArray=.agg ys→(part T ys off).run P w=.ok rv w) ht hu ?_ ?_ e
  ·intro hd v hv;obtain⟨y,hy,hr⟩:=hxs.get _ _ hv;refine⟨y,hr,fun ys he=>?_⟩;cases he;exact z73 hu hd (by simpa using hy)
  ·intro hd hle;refine⟨_,zs6 hxs off _ hle,fun ys he=>?_⟩;cases he;exact zdv hu hd _ _
theorem z14g{xs:List Value}{o:Nat}{ys:List Value}(h:o+ys.length≤xs.length)(i:Nat):(xs.take o++ys++xs.drop (o+ys.length))[i]? = if o≤i∧i<o+ys.length then ys[i - o]? else xs[i]? :=by
 simp only[List.getElem?_append,List.length_append,List.length_take,List.getElem?_take,List.getElem?_drop];have m:min o xs.length=o:=by omega
 rw[m];by_cases a:i<o
 ·rw[if_pos (by omega),if_pos a,if_pos a,if_neg (by omega)]
 ·by_cases b:i<o+ys.length
  ·rw[if_pos b,if_neg a,if_pos ⟨by omega,b⟩]
  ·rw[if_neg b,if_neg (by omega)];congr 1;omega
theorem zs8{T:TypeId}{d:TypeDesc}(hu:P.underlying T=some d){n:Option Nat}(hn:(n=none∧zal d=false∧P.cellsOf T=1)∨(n=some (P.cellsOf T)∧zal d=true)){pv:PV}{g:Nat}{c:Array Value}{el:TypeId}
  (hg:w.heap[g]? = some (.cells c el (0,0))) (hc:VRels ρ pv.cells c.toList) {o:Nat} {x:MV} {rx:Value} (hx:VRel ρ x rx) {k:PV→M β}
  (e:pstore pv n o x k h=some res):∃pv' c',k pv' h=some res∧VRels ρ pv'.cells c'.toList∧(Instr.storeAt T (.pointer (some ⟨g,o,none⟩)) rx).run P w=.ok () (w.setRow g c'):=by
 have hl:=hc.length;simp at hl;have key:∀(vs:List MV)(xs:List Value),VRels ρ vs xs→vs.all z10=true→rx.cells.toList=xs→vs.length=P.cellsOf T→o+vs.length≤pv.cells.length →
   ∃c':Array Value,VRels ρ (z11 pv.cells o vs) c'.toList∧(Instr.storeAt T (.pointer (some ⟨g,o,none⟩)) rx).run P w=.ok () (w.setRow g c'):=by
  intro vs xs hv hcl hrx hlen hle;have hvl:=hv.length;have hst:=z8u (P:=P) g o el (0,0) xs 0 c w hg (fun j _ _=>by simp) (by omega) (hv.oneCell hcl);refine⟨(c.toList.take (o+0)++xs++c.toList.drop (o+0+xs.length)).toArray,?_,?_⟩;rotate_left
  ·have hsz:rx.cells.size=P.cellsOf T:=by
    have:rx.cells.toList.length=xs.length:=by rw[hrx]
    simp at this;omega
   simp only[Instr.storeAt,Instr.sureAddr,Sem.run_bind,Sem.run_pure,Result.andThen_ok,storeVar,z1j hu,hsz,ne_eq,not_true_eq_false,if_false,hrx];exact hst
  ·apply VRels.of_get
   ·rw[zc4 _ _ _ hle];simp;omega
   ·intro i v y hv1 hy1;rw[zgn _ _ _ _ hle]at hv1;simp only[Nat.add_zero]at hy1;rw[z14g (by simp;omega)]at hy1;rw[←hvl]at hy1;split at hv1
    ·rename_i hi;rw[if_pos hi]at hy1;obtain⟨y',hy',hr⟩:=hv.get _ _ hv1;rw[hy']at hy1;cases hy1;exact hr
    ·rename_i hi;rw[if_neg hi]at hy1;obtain⟨y',hy',hr⟩:=hc.get _ _ hv1;rw[hy']at hy1;cases hy1;exact hr
 have one:n=none→z10 x=true→o<pv.cells.length→∃c':Array Value,VRels ρ (pv.cells.set o x) c'.toList∧(Instr.storeAt T (.pointer (some ⟨g,o,none⟩)) rx).run P w=.ok () (w.setRow g c'):=by
  intro hn0 hc1 hlt;rcases hn with⟨_,hd,h1⟩ | ⟨h0,_⟩
  ·obtain⟨c',h2,h3⟩:=key [x] [rx] (.cons _ _ _ _ hx .nil) (by simp[hc1]) (by rw[z8f (hx.oneCell hc1)]) (by simp[h1]) (by simp;omega);rw[over_one _ _ _ hlt]at h2;exact⟨c',h2,h3⟩
  ·rw[hn0]at h0;cases h0
 unfold pstore at e;split at e
 ·rename_i cs v;split at e
  ·rename_i hlt;obtain⟨c',h1,h2⟩:=one rfl hlt.2 hlt.1;exact⟨_,c',e,h1,h2⟩
  ·cases e
 ·rename_i cs m vs;split at e
  ·rename_i hle;rcases hn with⟨h0,_⟩ | ⟨h0,_⟩
   ·cases h0
   ·cases h0;cases hx with
    | agg _ xs hv=>
     obtain⟨c',h1,h2⟩:=key vs xs hv hle.2.2 (by simp[Value.cells]) hle.1 (by simp[PV.cells];omega);exact⟨_,c',e,h1,h2⟩
  ·cases e
 ·rename_i kd xs kd' v;split at e
  ·rename_i hk;subst hk;obtain⟨u,h1,e1,e2⟩:=z0f e;split at e1
   ·rename_i hlt;cases e1;obtain⟨c',h1,h2⟩:=one rfl rfl (by simp[PV.cells];exact hlt);refine⟨_,c',e2,?_,h2⟩;simp only[PV.cells]at h1 ⊢;rw[List.map_set];exact h1
   ·cases e1
  ·cases e
 ·rename_i cs v;obtain⟨u,h1,e1,e2⟩:=z0f e;split at e1
  ·rename_i hlt;cases e1;obtain⟨c',h1,h2⟩:=one rfl hlt.2 hlt.1;exact⟨_,c',e2,h1,h2⟩
  ·cases e1
 ·rename_i cs m vs;obtain⟨u,h1,e1,e2⟩:=z0f e;split at e1
  ·rename_i hle;cases e1;rcases hn with⟨h0,_⟩ | ⟨h0,_⟩
   ·cases h0
   ·cases h0;cases hx with
    | agg _ xs hv=>
     obtain⟨c',h1,h2⟩:=key vs xs hv hle.2.2 (by simp[Value.cells]) hle.1 (by simp[PV.cells];omega);exact⟨_,c',e2,h1,h2⟩
  ·cases e1
 ·cases e
end
section
variable{P:Program}{ρ:Rho}{w:World}
theorem zs9{ma mb:List MV}:∀{L1 L2:List (Nat×CTy)}{r:Bool},z9r (L1++L2) ma mb=some r→∃p q,z9r L1 ma mb=some p∧z9r L2 ma mb=some q∧r=(p&&q)
 | [],L2,r,e=>⟨true,r,rfl,e,by simp⟩
 | (o,c)::L1,L2,r,e=>by
  simp only[List.cons_append,z9r]at e ⊢;split at e
  ·split at e
   ·rename_i p q hp hq;cases e;obtain⟨p',q',h1,h2,rfl⟩:=zs9 hq;exact⟨p&&p',q',by rw[hp,h1],h2,by rw[Bool.and_assoc]⟩
   ·cases e
  ·cases e
theorem zhn{ma mb:List MV}{as bs:List Value}(ha:VRels ρ ma as)(hb:VRels ρ mb bs){e:TypeId}{c:CTy}(hc:cty P e=some c)(off n d:Nat):∀(m k:Nat){r:Bool},k+m≤n→z9r (zxy c (off+k) m) ma mb=some r →
  (Op.eqItems (d+1) e 1 (as.toArray.extract off (off+n)) (bs.toArray.extract off (off+n)) (List.range' k m)).run P w=.ok r w
 | 0,k,r,_,h=>by cases h;simp[Op.eqItems]
 | m+1,k,r,hk,h=>by
  simp only[zxy,z9r]at h;split at h
  ·rename_i x y hx hy;split at h
   ·rename_i p q hp hq;cases h;obtain⟨rx,hrx,h1⟩:=ha.get _ _ hx;obtain⟨ry,hry,h2⟩:=hb.get _ _ hy;obtain⟨dd,hu,hd⟩:=zod hc;have ih:=zhn ha hb hc off n d m (k+1) (by omega) hq;have g1:(as.toArray.extract off (off+n))[k * 1]? = some rx:=by
     rw[Array.getElem?_extract,if_pos (by have:=(List.getElem?_eq_some_iff.1 hrx).1;simp;omega)];simpa using hrx
    have g2:(bs.toArray.extract off (off+n))[k * 1]? = some ry:=by
     rw[Array.getElem?_extract,if_pos (by have:=(List.getElem?_eq_some_iff.1 hry).1;simp;omega)];simpa using hry
    rw[List.range'_succ,Op.eqItems];simp only[Sem.run_bind,z73 hu hd g1,z73 hu hd g2,zpg hc h1 h2 hp,Result.andThen_ok];cases p
    ·simp
    ·simpa using ih
   ·cases h
  ·cases h
theorem zgc{ma mb:List MV}{as bs:List Value}(ha:VRels ρ ma as)(hb:VRels ρ mb bs)(n0:Nat):∀(fs:List Field)(L:List (Nat×CTy)),eqF P fs=some L→∀{r:Bool},z9r L ma mb=some r→(Op.eqFields (n0+2) as.toArray bs.toArray fs).run P w=.ok r w
 | [],L,h,r,e=>by
  cases h;cases e;simp[Op.eqFields]
 | f::fs,L,h,r,e=>by
  simp only[eqF]at h;split at h
  ·rename_i c l hc hl;cases hfk : (zr6 c && !(f.name == "_")) with
   | false=>rw[hfk]at h;cases h
   | true=>
    rw[hfk]at h;cases h;simp only[Bool.and_eq_true,Bool.not_eq_true']at hfk;simp only[z9r]at e;split at e
    ·rename_i x y hx hy;split at e
     ·rename_i p q hp hq;cases e;obtain⟨rx,hrx,h1⟩:=ha.get _ _ hx;obtain⟨ry,hry,h2⟩:=hb.get _ _ hy;obtain⟨dd,hu,hd⟩:=zod hc;have ih:=zgc ha hb n0 fs l hl hq;have hn' : f.name ≠ "_" := by simpa using hfk.2
      rw[Op.eqFields];simp only[if_pos hn',Sem.run_bind,z73 hu hd (cs:=as.toArray) (off:=f.offset) (v:=rx) (by simpa using hrx),z73 hu hd (cs:=bs.toArray) (off:=f.offset) (v:=ry) (by simpa using hry),zpg hc h1 h2 hp,Result.andThen_ok];cases p
      ·simp
      ·simpa using ih
     ·cases e
    ·cases e
  ·rename_i l hc hl;split at h
   ·rename_i n el hu;split at h
    ·rename_i c hce;cases hfk : ((zr6 c && Nat.beq (P.cellsOf el) 1) && (!(f.name == "_") && Nat.beq (P.cellsOf f.type) n)) with
     | false=>rw[hfk]at h;cases h
     | true=>
      rw[hfk]at h;cases h;simp only[Bool.and_eq_true,Bool.not_eq_true',Nat.beq_eq]at hfk;obtain⟨p,q,hp,hq,rfl⟩:=zs9 e;have ih:=zgc ha hb n0 fs l hl hq;have hn' : f.name ≠ "_" := by simpa using hfk.2.1
      obtain⟨dd,hue,hd⟩:=zod hce;obtain⟨i,hi⟩:∃i,P.info? el=some i:=by
       cases hh:P.info? el with
       | some i=>exact⟨i,rfl⟩
       | none=>simp[Program.underlying,hh]at hue
      rw[Op.eqFields];have k1:=zhn (w:=w) ha hb hce f.offset n n0 n 0 (by omega) hp;have k2:=run_equalIn_array (P:=P) w (n0+1) (as.toArray.extract f.offset (f.offset+n)) (bs.toArray.extract f.offset (f.offset+n)) hu hi;rw[hfk.1.2,List.range_eq_range',k1]at k2;simp only[if_pos hn',Sem.run_bind,zdv hu rfl,hfk.2.2,k2,Result.andThen_ok];cases p
      ·simp
      ·simpa using ih
    ·cases h
   ·cases h
  ·cases h
theorem zm9{t:TypeId}{fs:Array Field}(hu:P.underlying t=some (.struct fs)){L:List (Nat×CTy)}(hL:eqF P fs.toList=some L)(hs:P.stoodInHeld t=false)(hg:P.eqGuardType P.depth t=false){ma mb:List MV}{rx ry:Value}
  (ha:VRel ρ (.agg ma) rx) (hb:VRel ρ (.agg mb) ry) {r:Bool} (e:z9r L ma mb=some r) (neg:Bool) (x y:Operand) :
  (do eqGuard (bif neg then .neq else .eql) t x y rx ry;binOp (bif neg then .neq else .eql) t rx ry).run P w=.ok (.bool (bif neg then !r else r)) w:=by
 cases ha with
 | agg _ as ha=>
  cases hb with
  | agg _ bs hb=>
   have h1:(Op.equal t (.agg as.toArray) (.agg bs.toArray)).run P w=.ok r w:=by
    have hf:P.fieldsOf t=fs:=by simp[Program.fieldsOf,hu]
    show(Op.equalIn (9999+1) t _ _).run P w=_;rw[run_equalIn_struct (P:=P) w 9999 t as.toArray bs.toArray (by rw[hf];exact hu) hs,hf];exact zgc ha hb 9997 _ _ hL e
   cases neg<;>simp[eqGuard,hg,binOp,h1]
theorem zma{t u:TypeId}{ms:Array (String×TypeId)}(hu:P.underlying t=some (.interface ms)){y:Operand}(hb:opd P u y=some (.c .nilIface)){v:MV}{rx:Value}(hx:VRel ρ v rx){h h':Hp}{r:Bool}(e:zi3 v h=some (r,h'))(neg:Bool)(x:Operand) :
  ∀{a:Act},h'=h∧(do eqGuard (bif neg then .neq else .eql) t x y rx (a.eval y);binOp (bif neg then .neq else .eql) t rx (a.eval y)).run P w=.ok (.bool (bif neg then !r else r)) w:=by
 intro a;have hy:∃cv,y=.const cv∧cv=.nilIface:=by
  unfold opd at hb;cases y with
  | const cv=>
   refine⟨cv,rfl,?_⟩;dsimp only at hb;obtain⟨m,hm,h1⟩:=Option.map_eq_some_iff.1 hb;cases h1;unfold zfh at hm;split at hm
   ·split at hm
    ·obtain⟨_,_,h2⟩:=Option.map_eq_some_iff.1 hm;cases h2
    ·cases hm
   ·split at hm
    ·unfold zhw at hm;split at hm<;>first | (cases hm;done) | rfl | (split at hm<;>cases hm)
    ·cases hm
  | tmp n=>cases hb
  | global g=>cases hb
  | func f=>cases hb
 obtain⟨cv,rfl,rfl⟩:=hy;have he:a.eval (.const .nilIface)=.nilIface:=rfl;rw[he];have key:∀(q:Value)(b:Bool),(∀n:Nat,(Op.equalIn (n+1) t q .nilIface).run P w=.ok b w)→(Op.equal t q .nilIface).run P w=.ok b w:=fun q b h=>h 9999;unfold zi3 at e;split at e
 ·cases e;cases hx;have h1:=key .nilIface true (fun n=>by simp[Op.equalIn,z0o hu]);exact⟨rfl,by
   cases neg<;>simp only[cond_true,cond_false,Sem.run_bind,show ∀o v,(eqGuard o t x (.const .nilIface) v .nilIface).run P w=.ok () w from fun o v=>by cases o<;>cases v<;>cases x<;>rfl,Result.andThen_ok,binOp,h1,Sem.run_pure,Sem.run_map]<;>rfl⟩
 ·cases e;cases hx with
  | iface _ _ x1 hx1=>
  rename_i tt vv;have h1:=key (.iface tt x1) false (fun n=>by simp[Op.equalIn,z0o hu]);exact⟨rfl,by
   cases neg<;>simp only[cond_true,cond_false,Sem.run_bind,show ∀o v,(eqGuard o t x (.const .nilIface) v .nilIface).run P w=.ok () w from fun o v=>by cases o<;>cases v<;>cases x<;>rfl,Result.andThen_ok,binOp,h1,Sem.run_pure,Sem.run_map]<;>rfl⟩
 ·cases e
end
end Go.Mini
