/- Layer 15: what is not so on the disk, as patches. -/
import Derived.Test.YtcaaljlhljemoaaGreatP15jb
namespace Go.Mini
section
variable{α β:Type}{l:List HA}{S:β→HA}{T:HA}{s:Sl}{cs:List MV}
theorem zjh{A:HA}{m m':M α}{Q:α→HA}(e:∀h q,A q→Has h q→m h=m' h)(k:Tri A m' Q):Tri A m Q:=by
 intro h q hq hh;rw[e h q hq hh];exact k h q hq hh
theorem z110{m:M α}{Q:α→HA}(k:∀q0,T q0→Tri (z00 [fun q=>q=q0]) m fun r=>z00 [Q r,fun q=>q=q0]):Tri (z00 [T]) (frz m) fun r=>z00 [Q r,T]:=by
 intro h q hq hh;rw[z0y]at hq;obtain⟨a,h',q',e,h1,h2,h3,h4,h5⟩:=k q hq h q (by rw[z0y]) hh;have h6:=h1;rw[stars_pick 1 _ rfl]at h6;obtain⟨q1,q2,rfl,_,d,rfl⟩:=h6;have h7:=((z6v d).1 h2).1;refine⟨a,h',_,zp5 e ⟨h3,fun b hb=>?_⟩,?_,h2,h3,h4,h5⟩
 ·cases hx:q1 b with
  | none=>exact h4 b hb hx
  | some x=>rw[(h7 b x hx).2,(hh b x hx).2]
 ·exact z54 (.cons (fun _ k=>k) (.cons (fun q k=>by rw[k];exact hq) .nil)) _ h1
theorem zi0(n:Nat)(hl:l[n]? = some T){v k o:Nat}(hr:RdC T ⟨some ⟨v,0⟩,k⟩ 1 cs){x:MV}(hv:cs[o]? = some x){m:M α}{a:α}(hm:∀(h:Hp)(r:List MV)(ro:Bool),h.get v=.cells r ro→r[o]? = some x→m h=some (a,h)){f:α→M β}(kk:Tri (z00 l) (f a) S):Tri (z00 l) (bd m f) S:=by
 refine z6y n hl (fun h q hq hh=>?_) kk;have ho:=(List.getElem?_eq_some_iff.1 hv).1;have hk:=hr.1;rcases hr.2 h q hq hh with⟨h1,_⟩ | ⟨a',r,ro,h1,h2,h3,h4⟩
 ·cases h1
 ·cases h1;refine hm h r ro h2 ?_;rw[←h4,List.getElem?_take]at hv;dsimp only at hv;rw[if_pos (by dsimp only at hk;omega),List.drop_zero]at hv;exact hv
end
end Go.Mini
namespace Go.Moat
open Go.Mini
section
variable{N:Nat}{β:Type}{l:List HA}{S:β→HA}{d v:Nat}{T:HA}{g:Geo}
def mP(g:Geo)(L:List (Sl×List UInt8))(i:Nat):Pat:=match L[i]? with
 | some e=>⟨g.lab+i,e.1,e.2,0⟩
 | none=>⟨0,⟨none,0⟩,[],0⟩
def mPs(g:Geo)(L:List (Sl×List UInt8))(sf:List (List UInt8))(k:Nat):List Pat:=((List.range k).filter fun i => !decide ((L[i]?.map (·.2)).getD []=sf[i]?.getD [])).map (mP g L)
def dP(g:Geo)(L:List (Int×DV))(k:Int):Pat:=match z3o L k with
 | some x=>⟨(g.blk+k).toNat,x.s,x.b,x.t⟩
 | none=>⟨0,⟨none,0⟩,[],0⟩
def zba(l:List Int):List Int:=l.mergeSort fun x y=>decide (x≤y)
theorem za9(l:List Int):(zba l).Perm l:=List.mergeSort_perm l _
def dPs(g:Geo)(L:List (Int×DV)):List Pat:=(zba (L.map (·.1))).map (dP g L)
structure PIn(T:HA)(g:Geo)(v:Nat)(x:VC)(sec:Sl)(L sf:List (Sl×List UInt8))(Ld:List (Int×DV)):Prop where
 sec:RdC T sec 1 (z3r L)
 secs:∀e∈L,RdC T e.1 1 (bytesOf e.2)
 vol:RdC T ⟨some ⟨v,0⟩,21⟩ 1 (volC g x)
 safe:RdC T x.safe 1 (z3r sf)
 safes:∀e∈sf,RdC T e.1 1 (bytesOf e.2)
 mp:∀h q,T q→Has h q→h.get x.mp=.map (kvC .i64 (dkv g Ld))
theorem z111(L:List (Sl×List UInt8))(sf:List (List UInt8))(k:Nat):mPs g L sf (k+1)=mPs g L sf k++(if(!decide ((L[k]?.map (·.2)).getD []=sf[k]?.getD []))=true then[mP g L k]else[]):=by
 unfold mPs;rw[List.range_succ,List.filter_append,List.map_append];congr 1;rw[List.filter_cons];split<;>rfl
theorem zld(L:List (Sl×List UInt8))(sf:List (List UInt8))(k:Nat):(mPs g L sf k).length≤k:=by
 unfold mPs;rw[List.length_map];exact Nat.le_trans (List.length_filter_le _ _) (by simp)
theorem z112{x:VC}{sec:Sl}{L sf:List (Sl×List UInt8)}{Ld:List (Int×DV)}(P:PIn T g v x sec L sf Ld)(hl:L.length=sf.length)(hL:L.length≤40)(hlab:g.lab≤2000):∀(K k:Nat)(acc:Sl),L.length - k<K→k≤L.length →
  Tri (z00 [z08 acc 3 (z1j z2n (mPs g L (sf.map (·.2)) k)),T]) (z0l K (F_3f N (some ⟨v,0⟩) sec) (acc,(k:Int))) fun r=>z00 [z08 r 3 (z1j z2n (mPs g L (sf.map (·.2)) L.length)),T]:=by
 have hmost:most=70368744177664:=rfl;have hsl:sec.len=L.length:=by have:=P.sec.1;simp[z3r]at this;omega
 intro K;induction K with
 | zero=>intro k acc h;omega
 | succ K ih=>
  intro k acc hK hk;rw[z18];generalize z0l K (F_3f N (some ⟨v,0⟩) sec)=go at ih ⊢;unfold F_3f;by_cases hkl:k<L.length
  case neg=>
   obtain rfl:k=L.length:=by omega
   exact z05 (by simp;omega) (z03 [0,0] fun q hq=>hq)
  have hks:k<sf.length:=by omega
  refine z07 (by simp;omega) ?_;refine z0c 0 rfl fun la=>?_;have hle:=zld (g:=g) L (sf.map (·.2)) k;rw[z0p z2h]at la;refine zkz 1 rfl P.sec (i:=k) (p:=L[k].1.p) (ln:=L[k].1.len) (by simp[z3r,hkl]) ?_;refine z4t 1 rfl (P.secs _ (List.getElem_mem hkl)) ?_;refine z0m (z06 ?_);refine zi0 1 rfl P.vol (o:=18) (x :=.sl x.safe.p x.safe.len 1) rfl (fun h r ro h1 h2=>zh4 h1 h2) ?_;refine zkz 1 rfl P.safe (i:=k) (p:=sf[k].1.p) (ln:=sf[k].1.len) (by simp[z3r,hks]) ?_;refine z4t 1 rfl (P.safes _ (List.getElem_mem hks)) ?_;have e1:(L[k]?.map (·.2)).getD []=L[k].2:=by rw[List.getElem?_eq_getElem hkl];rfl
  have e2:(sf.map (·.2))[k]?.getD []=sf[k].2:=by rw[List.getElem?_map,List.getElem?_eq_getElem hks];rfl
  have e3:=z111 (g:=g) L (sf.map (·.2)) k;rw[e1,e2]at e3;have e4:mP g L k=⟨g.lab+k,L[k].1,L[k].2,0⟩:=by unfold mP;rw[List.getElem?_eq_getElem hkl]
  rw[e4]at e3;refine z02 [0,0] (Q:=fun r=>z00 [z08 r 3 (z1j z2n (mPs g L (sf.map (·.2)) (k+1))),T]) ?_ fun j20=>z01 ?_
  ·by_cases hne:(!decide (L[k].2=sf[k].2))=true
   case neg=>
    rw[if_neg hne,List.append_nil]at e3;rw[e3];exact z05 hne (z03 [0,0] fun q hq=>hq)
   rw[if_pos hne]at e3;refine z07 hne ?_;refine z0m (z06 (z06 ?_));refine zi0 1 rfl P.vol (o:=11) (x :=.int .i64 g.lab) rfl (fun h r ro h1 h2=>zh3 h1 h2) ?_;rw[z0i (n:=(g.lab:Int)+(k:Int)) (by omega) (by omega)];refine z0z fun b=>?_;refine z02 [1,0] (z2y (s:=acc) (by':=40) (T:=pts b (.cells (z2n ⟨g.lab+k,L[k].1,L[k].2,0⟩) false)) (rd_pts0 (by simp[z2n])) (by omega) (zda _) (by dsimp only;omega)) fun l19=>z01 ?_;dsimp only[sel,rem,nth,del,cat,upd];rw[←zff (c:=z2n),←z87,←e3];exact z03 [0,1] fun q hq=>hq
  dsimp only[sel,rem,nth,del,cat,upd];rw[z0i (n:=(k:Int)+1) (by omega) (by omega)];exact tri_last [0,0] (ih (k+1) _ (by omega) (by omega))
theorem zr0:∀{kvs:List (Int×MV)},(∀e∈kvs,-9223372036854775808≤e.1∧e.1≤9223372036854775807)→zc5 (kvC .i64 kvs)=some (kvs.map (·.1))
 | [],_=>rfl
 | e::r,h=>by
  show(if _ then(zc5 (kvC .i64 r)).map (e.1 :: ·)else none)=_;rw[if_pos (h e (List.mem_cons_self ..)),zr0 fun x hx=>h x (List.mem_cons_of_mem _ hx)];rfl
theorem zs1{c mp:Nat}{kvs:List (Int×MV)}(hm:∀h q,T q→Has h q→h.get mp=.map (kvC .i64 kvs))(hk:∀e∈kvs,-9223372036854775808≤e.1∧e.1≤9223372036854775807)(hl:kvs.length≤100000)(f:FuncId) :
  Tri (z00 [pts c (.cells [.map (some mp)] false),T]) (z9g f (.fn f [.ptr (some ⟨c,0⟩)])) fun r=>z00 [z08 r 1 (i64s (zba (kvs.map (·.1)))),pts c (.cells [.map (some mp)] false),T]:=by
 have key:∀h q,z00 [pts c (.cells [.map (some mp)] false),T] q→Has h q→z9g f (.fn f [.ptr (some ⟨c,0⟩)]) h=(match kvs.map (·.1)with
   | []=>some ((⟨none,0⟩:Sl),h)
   | ks=>some ((⟨some ⟨h.size,0⟩,ks.length⟩:Sl),h.push (.cells (i64s (zba ks)) false))):=by
  intro h q hq hh;obtain⟨q1,q2,h1,h2,d,rfl⟩:=hq;obtain⟨q3,q4,h3,h4,d2,rfl⟩:=h2;have k1:=(z8l h1 ((z6v d).1 hh).1).2;have k2:=hm h q3 h3 ((z6v d2).1 ((z6v d).1 hh).2).1;unfold z9g;dsimp only;rw[if_pos rfl,k1];show(match h.get mp with
    | .map es=>match zc5 es with
     | some []=>some ((⟨none,0⟩:Sl),h)
     | some ks=>if ks.length≤100000 then some ((⟨some ⟨h.size,0⟩,ks.length⟩:Sl),h.push (.cells ((ks.mergeSort fun x y=>decide (x≤y)).map (.int .i64)) false))else none
     | none=>none
    | _=>none)=_
  rw[k2];dsimp only;rw[zr0 hk];cases hx:kvs.map (·.1)with
  | nil=>rfl
  | cons a b=>
   dsimp only;rw[if_pos (by rw[←hx,List.length_map];exact hl)];rfl
 cases hx:kvs.map (·.1)with
 | nil=>
  refine zjh (m':=ret ⟨none,0⟩) (fun h q hq hh=>by rw[key h q hq hh,hx];rfl) ?_;have e:zba []=[]:=by simp[zba]
  rw[e];refine z1l fun q hq=>z2z (fun q h =>.nil 1 h) hq
 | cons a b=>
  refine zjh (m':=bd (alloc (i64s (zba (a::b)))) fun p=>ret ⟨p,(a::b).length⟩) (fun h q hq hh=>by rw[key h q hq hh,hx];rfl) ?_;refine z0z fun p=>?_;refine z86 0 (B:=z08 ⟨some ⟨p,0⟩,(a::b).length⟩ 1 (i64s (zba (a::b)))) rfl (fun q hq =>.mk (by rw[zav,(za9 _).length_eq,Nat.mul_one]) hq) ?_;exact z03 [0,0,0] fun q hq=>hq
structure DIn(g:Geo)(L:List (Int×DV)):Prop where
 key:∀e∈L,0≤e.1∧e.1<g.B
 nd:(L.map (·.1)).Nodup
theorem znc{α:Type}{L:List (Int×α)}{k:Int}(h:k∈L.map (·.1)):∃x,z3o L k=some x:=by
 induction L with
 | nil=>cases h
 | cons e r ih=>
  unfold z3o;split
  ·exact⟨_,rfl⟩
  ·rename_i hn;rcases List.mem_cons.1 h with h | h
   ·exact absurd h hn
   ·exact ih h
theorem zcw(L:List (Int×DV)):(dkv g L).map (·.1)=L.map (·.1):=by
 unfold dkv;rw[List.map_map];rfl
theorem zm5{L:List (Int×DV)}{k:Int}{x:DV}(h:z3o L k=some x):dP g L k=⟨(g.blk+k).toNat,x.s,x.b,x.t⟩:=by
 unfold dP;rw[h]
theorem z113{x:VC}{sec:Sl}{L sf:List (Sl×List UInt8)}{Ld:List (Int×DV)}(P:PIn T g v x sec L sf Ld)(hd:DIn g Ld)(hg:g.ok){ks:List Int}(hks:∀k∈ks,k∈Ld.map (·.1))(hkl:ks.length≤1000){A:List Pat}(hA:A.length≤40){r27:Sl}:∀(K k:Nat)(acc:Sl),ks.length - k<K→k≤ks.length →
  Tri (z00 [z08 acc 3 (z1j z2n (A++(ks.take k).map (dP g Ld))),z08 r27 1 (i64s ks),T]) (z0l K (F_3g N (some ⟨v,0⟩) r27) (acc,(k:Int))) fun r=>z00 [z08 r 3 (z1j z2n (A++ks.map (dP g Ld))),T]:=by
 have hmost:most=70368744177664:=rfl;have hblk:g.blk=4+g.J+g.I / 2:=rfl;have hj1:=hg.j1;have hj2:=hg.j2;have hi2:=hg.i2;have hpp:=hg.gp;have hga:g.B=g.G * g.P:=rfl;intro K;induction K with
 | zero=>intro k acc h;omega
 | succ K ih=>
  intro k acc hK hk;rw[z18];generalize z0l K (F_3g N (some ⟨v,0⟩) r27)=go at ih ⊢;unfold F_3g;refine z0c 1 rfl fun lk=>?_;rw[zav]at lk;by_cases hkl:k<ks.length
  case neg=>
   obtain rfl:k=ks.length:=by omega
   rw[List.take_length];exact z05 (by simp;omega) (z03 [0,1] fun q hq=>hq)
  refine z07 (by simp;omega) ?_;refine z0c 0 rfl fun la=>?_;rw[z0p z2h,List.length_append,List.length_map,List.length_take]at la;refine z3h 1 rfl (z0k (by rw[zav];omega)) (i:=k) (v:=ks[k]) (zjd hkl) ?_;refine z0m (z06 (z06 ?_));refine zi0 2 rfl P.vol (o:=4) (x :=.map (some x.mp)) rfl (fun h r ro h1 h2=>zkw h1 h2) ?_;have hmem:=hks _ (List.getElem_mem hkl);obtain⟨y,hy⟩:=znc hmem;have hke:=hd.key _ (zcn hy);have hgk:z6x (dkv g Ld) ks[k]=some (dvC g ks[k] y):=by
   rw[show z6x (dkv g Ld) ks[k]=(z3o Ld ks[k]).map (dvC g ks[k])from zq2 (fun k z=>dvC g k z) Ld ks[k],hy];rfl
  refine z6y 2 rfl (a:=some (dvC g ks[k] y)) (fun h q hq hh=>?_) ?_
  ·unfold z8j;simp only[bd,z7w,P.mp h q hq hh,zfb];have:=zm0 (dkv g Ld) ks[k]
   rw[hgk]at this;cases hx:atK (dkv g Ld) ks[k]with
   | none=>rw[hx]at this;cases this
   | some z=>
    rw[hx]at this;obtain⟨z1,z2⟩:=z;have e9:z2=dvC g ks[k] y:=Option.some.inj this;subst e9;rfl
  refine Tri.bd (Q:=fun z=>pu (z=((g.blk:Int)+ks[k],y.s,(y.t:Int))) (z00 [z08 acc 3 (z1j z2n (A++(ks.take k).map (dP g Ld))),z08 r27 1 (i64s ks),T])) (z1l fun q hq=>⟨rfl,hq⟩) fun z=>z11i fun hz=>?_;subst hz;dsimp only at hke ⊢;have e1:z2n (dP g Ld ks[k])=[.int .i64 ((g.blk:Int)+ks[k]),.sl y.s.p y.s.len 1,.int .u16 y.t]:=by
   rw[zm5 hy];unfold z2n;rw[show(((g.blk+ks[k]).toNat:Nat):Int)=(g.blk:Int)+ks[k] by omega]
  refine z0z fun b=>?_;rw[←e1];refine z02 [1,0] (z2y (s:=acc) (by':=40) (T:=pts b (.cells (z2n (dP g Ld ks[k])) false)) (rd_pts0 (by rw[z2h])) (by omega) (zda _) (by dsimp only;omega)) fun l39=>z01 ?_;dsimp only[sel,rem,nth,del,cat,upd];rw[←zff (c:=z2n),←z87,List.append_assoc,show(ks.take k).map (dP g Ld)++[dP g Ld ks[k]]=(ks.take (k+1)).map (dP g Ld) by rw[List.take_succ_eq_append_getElem hkl,List.map_append];rfl];rw[z0i (n:=(k:Int)+1) (by omega) (by omega)];exact tri_last [0,1,1] (ih (k+1) _ (by omega) (by omega))
theorem zr1{x:VC}{sec:Sl}{L sf:List (Sl×List UInt8)}{Ld:List (Int×DV)}(P:PIn T g v x sec L sf Ld)(hd:DIn g Ld)(hg:g.ok)(hl:L.length=sf.length)(hL:L.length≤40)(hlen:Ld.length≤1000)(hN:5000<N) :
  Tri (z00 [T]) (F_2v N (some ⟨v,0⟩) sec) fun r=>z00 [z08 r 3 (z1j z2n (mPs g L (sf.map (·.2)) L.length++dPs g Ld)),T]:=by
 have hlab:g.lab=1+g.J:=rfl;have hj1:=hg.j1;have hj2:=hg.j2;have hga:g.B≤512:=hg.gp;unfold F_2v;refine z02 [0] (Tri.pre (z112 (N:=N) P hl hL (by omega) N 0 ⟨none,0⟩ (by omega) (by omega)) fun q hq=>z2z (fun q h =>.nil 3 h) hq) fun j21=>z01 ?_;dsimp only[sel,rem,nth,del,cat,upd];refine z0m (z06 (z06 ?_));refine zi0 1 rfl P.vol (o:=4) (x :=.map (some x.mp)) rfl (fun h r ro h1 h2=>zkw h1 h2) ?_;unfold F_3y F_44;rw[bd_bd];refine z8m (g:=fun b=>some ⟨b,0⟩) (x :=.cells [.map (some x.mp)] false) (fun _=>rfl) fun c=>?_;refine show Tri _ (bd (z9g _ (.fn _ [.ptr (some ⟨c,0⟩)])) _) _ from ?_;have hkl:((dkv g Ld).map (·.1)).length=Ld.length:=by rw[zcw,List.length_map]
 refine z02 [0,1] (zs1 (kvs:=dkv g Ld) P.mp (fun e he=>by
  have:=List.mem_map_of_mem (f:=(·.1)) he
  rw[zcw]at this;obtain⟨e',h1,h2⟩:=List.mem_map.1 this;have:=hd.key _ h1
  omega) (by rw[←List.length_map (f:=(·.1)),hkl];omega) _) fun r27=>z01 ?_
 rw[zcw];dsimp only[sel,rem,nth,del,cat,upd];have hp:=za9 (Ld.map (·.1));refine z02 [3,0,1] (Tri.pre (z113 (N:=N) P hd hg (ks:=zba (Ld.map (·.1))) (fun k hk=>hp.mem_iff.1 hk) (by rw[hp.length_eq,List.length_map];omega) (A:=mPs g L (sf.map (·.2)) L.length) (by have:=zld (g:=g) L (sf.map (·.2)) L.length;omega) N 0 j21 (by rw[hp.length_eq,List.length_map];omega) (by omega)) fun q hq=>by rw[List.take_zero,List.map_nil,List.append_nil];exact hq) fun j40=>z01 ?_;exact z03 [0,0] fun q hq=>hq
end
end Go.Moat

/- Layer 15: Sync. -/
namespace Go.Mini
section
variable{α β:Type}{l:List HA}{S:β→HA}{b o:Nat}{cs:List MV}{ro:Bool}{kd:IntKind}{kvs:List (Int×MV)}
theorem zcx(n:Nat)(hl:l[n]? = some (pts b (.cells cs ro))){ts:List CTy}(hm:o+ts.length≤cs.length){x:HC ts}(hx:HC.dec ts ((cs.drop o).take ts.length)=some x){f:HC ts→M β}(kk:Tri (z00 l) (f x) S):Tri (z00 l) (bd (ldSt ts (some ⟨b,o⟩)) f) S:=by
 refine z3g n hl (fun h hg=>?_) kk;unfold ldSt;simp only[bd,zco hg hm,hx];rfl
theorem z114(n:Nat)(hl:l[n]? = some (z5v kd b kvs)){f:Unit→M β}(kk:Tri (z00 (upd l n (z5v kd b []))) (f ()) S):Tri (z00 l) (bd (mapClr (some b)) f) S:=by
 refine ze5 n hl fun hn=>?_;refine z9j n (z30 l n _ hl) (a:=()) (y :=.map []) (fun h hg=>by unfold mapClr;simp only[hg]) ?_;rw[z3p];refine kk.pre fun q hq=>?_;have:=z2x n (l:=upd l n (pts b (.map []))) (B:=z5v kd b []) (z30 l n _ hl) (fun q h=>⟨List.nodup_nil,h⟩) q hq
 rwa [z3p]at this
end
end Go.Mini
namespace Go.Moat
open Go.Mini
section
variable{N:Nat}{β:Type}{l:List HA}{S:β→HA}{d v:Nat}{D:DskS}{T:HA}{g:Geo}{V:VolS}
theorem PIn.pre{T':HA}{x:VC}{sec:Sl}{L sf:List (Sl×List UInt8)}{Ld:List (Int×DV)}(h:PIn T g v x sec L sf Ld)(k:∀q,T' q→T q):PIn T' g v x sec L sf Ld:=
 ⟨h.sec.pre k,fun e he=>(h.secs e he).pre k,h.vol.pre k,h.safe.pre k,fun e he=>(h.safes e he).pre k,fun hp q hq hh=>h.mp hp q (k q hq) hh⟩
theorem zfw:∀{l:List Pat}{secs:List SecS}{p:Pat},p∈l→(∀q∈l,q.sec=p.sec→q=p)→p.sec<secs.length→(z70 secs l)[p.sec]? = some ⟨p.b,p.t⟩
 | q::l,secs,p,hp,hu,hs=>by
  show(z70 (secs.set q.sec ⟨q.b,q.t⟩) l)[p.sec]? = _;by_cases h:p∈l
  ·exact zfw h (fun q hq=>hu q (List.mem_cons_of_mem _ hq)) (by rw[List.length_set];exact hs)
  ·rcases List.mem_cons.1 hp with hp | hp
   ·subst hp;rw[z8q (secs:=secs) fun q hq e=>h (by rw[←hu q (List.mem_cons_of_mem _ hq) e];exact hq),List.getElem?_set,if_pos rfl,if_pos hs]
   ·exact absurd hp h
def z11m(g:Geo)(D:DskS)(ps:List Pat)(sq:Nat)(x:DskS×Nat):Prop:=(ps=[]∧x=(D,sq))∨(0<ps.length∧Comm g D ps (sq+1) x.1∧x.2=sq+1)
structure SyncIn(g:Geo)(V:VolS):Prop where
 inv:Inv g V.n.m
 dead:V.dead=false
 ddead:V.disk.dead=false
 fuse:V.disk.fuse = -1
 len:g.all≤V.disk.secs.length
 n:V.disk.secs.length≤4096
 safe:V.safe.length=g.M
 key:∀e∈V.n.dirty,0≤e.1∧e.1<g.B
 room:g.M+V.n.dirty.length≤z4n g.J
 done:0≤V.disk.done∧V.disk.done<1000000000000000000
 waits:V.disk.waits.length<1000000000
 seq:V.seq<1000000000000000000
structure Synced(g:Geo)(V V':VolS):Prop where
 n:V'.n=⟨V.n.m,[]⟩
 safe:V'.safe=z1z V.n.m
 before:V'.before=none
 dead:V'.dead=false
 ddead:V'.disk.dead=false
 fuse:V'.disk.fuse = -1
 len:V'.disk.secs.length=V.disk.secs.length
 blk:∀b:Nat,b<g.B→V'.disk.secs[g.blk+b]? = match z3o V.n.dirty b with
  | some x=>some ⟨x.1,x.2⟩
  | none=>V.disk.secs[g.blk+b]?
 known:∀i,i<g.M→(V.disk.secs[g.lab+i]?).map (·.b)=V.safe[i]? → (V'.disk.secs[g.lab+i]?).map (·.b)=(z1z V.n.m)[i]?
 sup:V'.disk.secs[0]? = V.disk.secs[0]?
 head:za1 (getS V.disk 1).b V.seq→za1 (getS V'.disk 1).b V'.seq
 done:V.disk.done≤V'.disk.done∧V'.disk.done≤V.disk.done+16000
 waits:V'.disk.waits.length≤V.disk.waits.length
 seq:V.seq≤V'.seq∧V'.seq≤V.seq+1
theorem zed{L:List (Sl×List UInt8)}{sf:List (List UInt8)}{k:Nat}{p:Pat}(h:p∈mPs g L sf k)(hk:k≤L.length):∃i,∃hi:i<L.length,i<k∧p=⟨g.lab+i,L[i].1,L[i].2,0⟩∧L[i].2≠sf[i]?.getD []:=by
 unfold mPs at h;obtain⟨i,h1,rfl⟩:=List.mem_map.1 h;obtain⟨h1,h2⟩:=List.mem_filter.1 h1;have hik:=List.mem_range.1 h1;have hi:i<L.length:=by omega
 refine⟨i,hi,hik,by unfold mP;rw[List.getElem?_eq_getElem hi],?_⟩;rw[List.getElem?_eq_getElem hi]at h2;simpa using h2
theorem z13d{L:List (Sl×List UInt8)}{sf:List (List UInt8)}{k i:Nat}(hi:i<L.length)(hk:i<k)(h:L[i].2≠sf[i]?.getD []):(⟨g.lab+i,L[i].1,L[i].2,0⟩:Pat)∈mPs g L sf k:=by
 unfold mPs;refine List.mem_map.2 ⟨i,List.mem_filter.2 ⟨List.mem_range.2 hk,by rw[List.getElem?_eq_getElem hi];simpa using h⟩,by unfold mP;rw[List.getElem?_eq_getElem hi]⟩
theorem zee{L:List (Int×DV)}(hd:DIn g L){p:Pat}(h:p∈dPs g L):∃(b:Nat)(x:DV),b<g.B∧z3o L b=some x∧p=⟨g.blk+b,x.s,x.b,x.t⟩:=by
 unfold dPs at h;obtain⟨k,h1,rfl⟩:=List.mem_map.1 h;obtain⟨x,hx⟩:=znc ((za9 _).mem_iff.1 h1);have hk:=hd.key _ (zcn hx);dsimp only at hk;obtain⟨b,rfl⟩:∃b:Nat,k=b:=⟨k.toNat,by omega⟩;exact⟨b,x,by omega,hx,by rw[zm5 hx];congr 1⟩
theorem z13e{L:List (Int×DV)}{b:Nat}{x:DV}(h:z3o L b=some x):(⟨g.blk+b,x.s,x.b,x.t⟩:Pat)∈dPs g L:=by
 unfold dPs;refine List.mem_map.2 ⟨(b:Int),(za9 _).mem_iff.2 (List.mem_map_of_mem (f:=(·.1)) (zcn h)),by rw[zm5 h];congr 1⟩
theorem zta(L:List (Int×DV)):(dPs g L).length=L.length:=by
 unfold dPs;rw[List.length_map,(za9 _).length_eq,List.length_map]
theorem synced(hg:g.ok)(hi:SyncIn g V){L sf:List (Sl×List UInt8)}{Ld:List (Int×DV)}(hL:L.map (·.2)=z1z V.n.m)(hsf:sf.map (·.2)=V.safe)(hLd:z5t Ld=V.n.dirty)(hd:DIn g Ld){x:DskS×Nat}(hc:z11m g V.disk (mPs g L (sf.map (·.2)) L.length++dPs g Ld) V.seq x) :
  Synced g V ⟨⟨V.n.m,[]⟩,x.1,x.2,z1z V.n.m,none,false⟩:=by
 have hM:(z1z V.n.m).length=g.M:=by
  rw[z9p hi.inv.ok,hi.inv.ok.inol];rfl
 have hLl:L.length=g.M:=by rw[←hM,←hL,List.length_map]
 have hga:g.all=g.blk+g.B:=rfl;have hblk:g.blk=g.lab+g.M:=by
  show 4+g.J+g.I / 2=1+g.J+(3+g.I / 2);omega
 have hlab:g.lab=1+g.J:=rfl;have hgl:∀b:Nat,z3o V.n.dirty b=(z3o Ld b).map DV.f:=fun b=>by
  rw[←hLd];exact zj9 DV.f Ld b
 have hln:=hi.len
 -- the sectors that are not the journal's
 have hsec:∀i,1+g.J≤i→x.1.secs[i]? = (z70 V.disk.secs (mPs g L (sf.map (·.2)) L.length++dPs g Ld))[i]? :=by
  intro i h;rcases hc with⟨h1,h2⟩ | ⟨_,h1,_⟩
  ·rw[h1,h2];rfl
  ·exact h1.secs i h
 have hm:∀p∈mPs g L (sf.map (·.2)) L.length,p.sec<g.blk:=by
  intro p hp;obtain⟨i,h1,h2,rfl,_⟩:=zed hp (Nat.le_refl _);dsimp only;omega
 have hdp:∀p∈dPs g Ld,g.blk≤p.sec:=by
  intro p hp;obtain⟨b,y,_,_,rfl⟩:=zee hd hp;dsimp only;omega
 have hx:x.1.dead=false∧x.1.fuse = -1∧x.1.secs.length=V.disk.secs.length∧x.1.secs[0]? = V.disk.secs[0]? ∧ (V.disk.done≤x.1.done∧x.1.done≤V.disk.done+16000)∧x.1.waits.length≤V.disk.waits.length∧(V.seq≤x.2∧x.2≤V.seq+1):=by
  rcases hc with⟨_,rfl⟩ | ⟨_,h1,h2⟩
  ·exact⟨hi.ddead,hi.fuse,rfl,rfl,⟨by dsimp only;omega,by dsimp only;omega⟩,Nat.le_refl _,by dsimp only;omega,by dsimp only;omega⟩
  ·exact⟨h1.dead,h1.fuse,h1.len,h1.sup,h1.done,by rw[h1.waits];simp,by omega,by omega⟩
 obtain⟨x1,x2,x3,x4,x5,x6,x7⟩:=hx;refine⟨rfl,rfl,rfl,rfl,x1,x2,x3,fun b hb=>?_,fun i h h1=>?_,x4,fun hh=>?_,x5,x6,x7⟩
 ·show x.1.secs[g.blk+b]? = _;rw[hsec _ (by omega),zla,hgl];cases hy:z3o Ld (b:Int)with
  | none=>
   rw[z8q (secs:=[]) fun p hp e=>?_,z8q (secs:=[]) fun p hp e=>by have:=hm p hp;omega]
   ·rfl
   ·obtain⟨b',y,_,h2,rfl⟩:=zee hd hp;obtain rfl:b'=b:=by dsimp only at e;omega
    rw[hy]at h2;cases h2
  | some y=>
   refine zfw (p:=⟨g.blk+b,y.s,y.b,y.t⟩) (z13e hy) (fun p hp e=>?_) (by rw[zv1];dsimp only;omega);obtain⟨b',y',_,h2,rfl⟩:=zee hd hp;obtain rfl:b'=b:=by dsimp only at e;omega
   rw[hy]at h2;cases h2;rfl
 ·show(x.1.secs[g.lab+i]?).map (·.b)=_;have hil:i<L.length:=by omega
  have e1:(z1z V.n.m)[i]? = some L[i].2:=by rw[←hL,List.getElem?_map,List.getElem?_eq_getElem hil];rfl
  rw[hsec _ (by omega),zla,z8q (secs:=[]) fun p hp e=>by have:=hdp p hp;omega,e1];by_cases hne:L[i].2=(sf.map (·.2))[i]?.getD []
  ·rw[z8q (secs:=[]) fun p hp e=>?_]
   ·have hs:i<V.safe.length:=by rw[hi.safe];exact h
    rw[h1,hne,hsf,List.getElem?_eq_getElem hs];rfl
   ·obtain⟨i',h2,h3,rfl,h4⟩:=zed hp (Nat.le_refl _);obtain rfl:i'=i:=by dsimp only at e;omega
    exact h4 hne
  ·rw[zfw (p:=⟨g.lab+i,L[i].1,L[i].2,0⟩) (z13d hil hil hne) (fun p hp e=>?_) (by dsimp only;omega)]
   ·rfl
   ·obtain⟨i',h2,h3,rfl,h4⟩:=zed hp (Nat.le_refl _);obtain rfl:i'=i:=by dsimp only at e;omega
    rfl
 ·show za1 (getS x.1 1).b x.2;rcases hc with⟨_,rfl⟩ | ⟨_,h1,h2⟩
  ·exact hh
  ·have e:getS x.1 1=⟨z4m (V.seq+1) 0,0⟩:=by
    unfold getS;have:=hg.j1
    rw[if_pos (show z6d x.1 1=0 from z9o x1 (i:=1) (by rw[x3];omega))];rw[show(1:Int).toNat=1 from rfl,h1.head];rfl
   rw[e,h2];exact .inr ⟨rfl,by have:=hi.seq;omega⟩
theorem z115(a b:List (Sl×List UInt8)):z1r (a++b)=z1a (z1r a) (z1r b):=by
 unfold z1r;rw[List.map_append,z3x]
theorem zyh{a b:List (Sl×List UInt8)}{l:List HA}{q:PH}(h:z00 (z1r a::z1r b::l) q):z00 (z1r (a++b)::l) q:=by
 show z1a (z1r (a++b)) (z00 l) q;rw[z115,z4b];exact h
theorem z116{l:List HA}{q:PH}(h:z00 l q):z00 (l++[emp]) q:=by
 rw[z3x,z0y,z40];exact h
theorem zyi(n:Nat){x:VC}{m:Unit→M β}{b:Bool}(hl:l[n]? = some (pts v (.cells (volC g x) false)))(kk:Tri (z00 (upd l n (pts v (.cells (volC g {x with dead:=b}) false)))) (m ()) S):Tri (z00 l) (bd (nonNil (some ⟨v,0⟩)) fun q=>bd (fld q 20) fun q=>bd (stc q (.bool b)) m) S:=
 z0m (z06 (z1v n hl (by simp[volC]) rfl kk))
theorem zyj(n:Nat){x:VC}{m:Unit→M β}{s:Sl}(hl:l[n]? = some (pts v (.cells (volC g x) false)))(kk:Tri (z00 (upd l n (pts v (.cells (volC g {x with safe:=s}) false)))) (m ()) S):Tri (z00 l) (bd (nonNil (some ⟨v,0⟩)) fun q=>bd (fld q 18) fun q=>bd (stc q (.sl s.p s.len 1)) m) S:=
 z0m (z06 (z1v n hl (by simp[volC]) rfl kk))
theorem zr2(n:Nat){x:VC}{m:Unit→M β}{p:Option MA}(hl:l[n]? = some (pts v (.cells (volC g x) false)))(kk:Tri (z00 (upd l n (pts v (.cells (volC g {x with bp:=p}) false)))) (m ()) S):Tri (z00 l) (bd (nonNil (some ⟨v,0⟩)) fun q=>bd (fld q 19) fun q=>bd (stc q (.ptr p)) m) S:=
 z0m (z06 (z1v n hl (by simp[volC]) rfl kk))
end
end Go.Moat

/- Layer 15: what there is, copied; Begin, Abort. -/
namespace Go.Moat
open Go.Mini
section
variable{N:Nat}{β:Type}{l:List HA}{S:β→HA}{d v:Nat}{D:DskS}{T:HA}{g:Geo}{V:VolS}
theorem zv6{b:Nat}{kvs:List (Int×MV)}:Tri (z00 [z5v .i64 b kvs]) (zal (some b)) fun r=>exA fun b'=>pu (r=some b') (z00 [z5v .i64 b' kvs,z5v .i64 b kvs]):=by
 refine ze5 0 rfl fun hn=>?_;refine zjh (m':=bd (fun h=>some (some h.size,h.push (.map (kvC .i64 kvs)))) ret) (fun h q hq hh=>?_) ?_
 ·have hq:z00 [pts b (.map (kvC .i64 kvs))] q:=hq;rw[z0y]at hq;unfold zal bd ret;dsimp only;rw[(z8l hq hh).2]
 ·refine z8m (g:=fun b=>some b) (x :=.map (kvC .i64 kvs)) (fun _=>rfl) fun b'=>?_;refine z1l fun q hq=>⟨b',rfl,?_⟩;exact ent_head (fun q h=>⟨hn,h⟩) (z1d (fun q=>ent_head fun q h=>⟨hn,h⟩) hq)
theorem znd(hg:g.ok){n:NowS}(ok:MetaOk g n.m)(x:NC)(Ld:List (Int×DV)):Tri (z00 (zf5 g x n Ld)) (F_0u N (x.rows,x.own,x.used,x.ino,some x.mp)) fun r=>exA fun x':NC=>pu (r=(x'.rows,x'.own,x'.used,x'.ino,some x'.mp)) (z00 (cat (zf5 g x' n Ld) (zf5 g x n Ld))):=by
 unfold F_0u zf5;refine z4g fun _=>?_;refine z0c 0 rfl fun l1=>z0c 1 rfl fun l2=>z0c 2 rfl fun l3=>z0c 3 rfl fun l4=>?_;refine z8b [0,0,0,0] ?_;dsimp only[sel,rem,nth,del,cat,upd];refine z02 [0] (zv0 (m:=(x.rows,x.own,x.used,x.ino)) hg ok ⟨RdC.at 0 rfl (z0k l1),RdC.at 1 rfl (z0k l2),RdC.at 2 rfl (z0k l3),RdC.at 3 rfl (z0k l4)⟩) fun r3=>z01 ?_;dsimp only[sel,rem,nth,del,cat,upd];refine z5l 4 rfl ?_;dsimp only[sel,rem,nth,del,cat,upd];refine z02 [8] (show Tri _ (zal _) _ from zv6) fun r4=>z1w fun b'=>z04 fun h4=>z01 ?_;subst h4;dsimp only[sel,rem,nth,del,cat,upd];exact z03 [6,6,6,6,0,1,1,1,1,0] fun q hq=>⟨⟨r3.1,r3.2.1,r3.2.2.1,r3.2.2.2,b'⟩,rfl,hq⟩
theorem z15a{α:Type}{c:Prop}[Decidable c]{m m':M α}(h:RO m)(k:RO m'):RO (if c then m else m'):=by
 split
 ·exact h
 ·exact k
theorem zv7:Tri (z00 [z1f v d g V]) (F_0t N (some ⟨v,0⟩)) fun r=>pu (r=V.n.dirty.length) (z00 [z1f v d g V]):=by
 unfold F_0t;refine z05 (by simp) ?_;refine z2m 0 rfl fun y hy hd=>?_;dsimp only[sel,rem,nth,del,cat,upd,z2f];refine zq6 0 rfl (z10e 5 rfl ?_);refine z03 [0,0,0,0,0,0,0,0,0,0,0] fun q hq=>⟨?_,z1o hy hd hq⟩;rw[←hy.dirty];simp[dkv,z5t]
theorem z117(p:Option MA):RO (F_0t N p):=by
 unfold F_0t;exact z15a (z5c _) (z60 (zd5 _) fun _=>z60 (zgw _ _) fun _=>z60 (zgw _ _) fun _=>z60 (z14x _) fun _=>z60 (zx8 _) fun _=>z5c _)
def VolS.tight(g:Geo)(V:VolS):Bool:=decide ((z4n g.J:Int) - g.M - 80<V.n.dirty.length)
def zo2(g:Geo)(V V':VolS):Prop:=if V.tight g=true then ∃V1,Synced g V V1∧V'={V1 with before:=some V1.n}else V'={V with before:=some V.n}
theorem zyk(hg:g.ok)(ok:MetaOk g V.n.m):Tri (z00 [z1f v d g V]) (bd (nonNil (some ⟨v,0⟩)) fun q_15=>bd (fld q_15 0) fun q_16=>bd (ldSt [.sl 2,.sl 1,.sl 1,.sl 14,.map] q_16) fun(y_17:Sl×Sl×Sl×Sl×Option Nat)=>bd (F_0u N (y_17.1,y_17.2.1,y_17.2.2.1,y_17.2.2.2.1,y_17.2.2.2.2)) fun r_18=>bd (alloc [MV.sl (none:Option MA) 0 2,MV.sl (none:Option MA) 0 1,MV.sl (none:Option MA) 0 1,MV.sl (none:Option MA) 0 14,MV.map (none:Option Nat)]) fun was_19=>bd (stn 5 was_19 [MV.sl r_18.1.p r_18.1.len 2,MV.sl r_18.2.1.p r_18.2.1.len 1,MV.sl r_18.2.2.1.p r_18.2.2.1.len 1,MV.sl r_18.2.2.2.1.p r_18.2.2.2.1.len 14,MV.map r_18.2.2.2.2]) fun _=>bd (nonNil (some ⟨v,0⟩)) fun q_20=>bd (fld q_20 19) fun q_21=>bd (stc q_21 (MV.ptr was_19)) fun _=>ret (0:Int)) fun r=>pu (r=0) (z00 [z1f v d g {V with before:=some V.n}]):=by
 refine z2m 0 rfl fun y hy hd=>?_;dsimp only[sel,rem,nth,del,cat,upd,z2f];refine z0m (z06 (zcx 0 rfl (ts:=[.sl 2,.sl 1,.sl 1,.sl 14,.map]) (x:=(y.x.rows,y.x.own,y.x.used,y.x.ino,some y.x.mp)) (by simp[volC]) rfl ?_));refine z02 [1,1,1,1,1] (znd (x:=⟨y.x.rows,y.x.own,y.x.used,y.x.ino,y.x.mp⟩) (Ld:=y.L) hg ok) fun r18=>z1w fun x'=>z04 fun h18=>z01 ?_;subst h18;dsimp only[sel,rem,nth,del,cat,upd,zf5];refine z0z fun w=>?_;refine z5n 0 rfl rfl (by simp) rfl ?_;dsimp only[sel,rem,nth,del,cat,upd];refine zr2 11 rfl ?_;dsimp only[sel,rem,nth,del,cat,upd];rw[z84 (by rfl)];refine z8b [0,0,0,0,0,0] ?_;dsimp only[sel,rem,nth,del,cat,upd];refine z86 0 (B:=zgx g y.P (some ⟨w,0⟩) (some V.n)) rfl (fun q h=>⟨(x',y.L),⟨rfl,hy.dirty,hy.dok⟩,h⟩) ?_;dsimp only[sel,rem,nth,del,cat,upd];refine z03 [6,1,1,1,1,1,1,1,1,1,0] fun q hq=>⟨rfl,?_⟩;exact z1o (V:={V with before:=some V.n}) (y:={y with x:={y.x with bp:=some ⟨w,0⟩}}) ⟨hy.1,hy.2,hy.3,hy.4,hy.5⟩ hd hq
def VolS.abort(V:VolS):VolS:=match V.before with
 | some n=>{V with n:=n}
 | none=>V
theorem zle(hg:g.ok)(ok:∀n,V.before=some n→MetaOk g n.m):Tri (z00 [z1f v d g V]) (F_1l N (some ⟨v,0⟩)) fun _=>z00 [z1f v d g V.abort]:=by
 unfold F_1l VolS.abort;refine z2m 0 rfl fun y hy hd=>?_;dsimp only[sel,rem,nth,del,cat,upd,z2f];refine z02 [0,0,0,0,0,0,0,0,0,0,0] (Q:=fun c=>pu (c = !(Option.isNone y.x.bp)) (z00 (z2f v d g V y))) (z07 rfl (zcq 0 rfl (o:=19) (v:=y.x.bp) rfl (z03 [0,0,0,0,0,0,0,0,0,0,0] fun q hq=>⟨rfl,hq⟩))) fun c=>z04 fun hc=>z01 ?_;subst hc;dsimp only[sel,rem,nth,del,cat,upd,z2f];cases hb:V.before with
 | none=>
  cases hp:y.x.bp with
  | some a=>exact z5u 10 rfl (φ:=False) (fun q h=>h) fun h=>h.elim
  | none=>
   refine z02 [0,0,0,0,0,0,0,0,0,0,0] (Q:=fun _=>z00 [pts v (.cells (volC g y.x) false),z08 y.x.rows 2 (z13 V.n.m.rows),z08 y.x.own 1 (z3i V.n.m.own),z08 y.x.used 1 (bytesOf V.n.m.used),z08 y.x.ino 14 (z2b V.n.m.ino),z5v .i64 y.x.mp (dkv g y.L),z1r y.P,z1b d V.disk,pts y.x.j (.cells (z3f d g V.seq) false),z08 y.x.safe 1 (z3r y.sf),zgx g y.P none none]) (z05 (by simp) (z03 [0,0,0,0,0,0,0,0,0,0,0] fun q hq=>hq)) fun _=>z01 ?_;dsimp only[sel,rem,nth,del,cat,upd];refine z03 [0,0,0,0,0,0,0,0,0,0,0] fun q hq=>?_;refine z1o hy hd ?_;unfold z2f;rw[hp,hb];exact hq
 | some n=>
  cases hp:y.x.bp with
  | none=>exact z5u 10 rfl (φ:=False) (fun q h=>h) fun h=>h.elim
  | some a=>
   refine zf9 (γ:=NC×List (Int×DV)) (φ:=fun x=>a.off=0∧z5t x.2=n.dirty∧DOk y.P x.2) (L:=fun x=>pts a.blk (.cells (nowC x.1) false)::zf5 g x.1 n x.2) 10 rfl (fun _ ⟨x,h1,h2⟩=>⟨x,h1,h2⟩) fun x hx=>?_;obtain⟨h1,h2,h3⟩:=hx;obtain⟨x,Ld⟩:=x;obtain⟨ab,ao⟩:=a;dsimp only at h1;subst h1;dsimp only[sel,rem,nth,del,cat,upd,zf5];refine z02 [0,0,0,0,0,0,0,0,0,0,0,0,0,0,0,0] (Q:=fun _=>z00 [z1f v d g {V with n:=n}]) (z07 rfl ?_) fun _=>z01 (z03 [0] fun q hq=>by rw[hb]at hq;exact hq);refine zcq 6 rfl (o:=19) (v:=y.x.bp) rfl ?_;rw[hp];refine z0m (zcx 0 rfl (ts:=[.sl 2,.sl 1,.sl 1,.sl 14,.map]) (x:=(x.rows,x.own,x.used,x.ino,some x.mp)) (by simp[nowC]) rfl ?_);refine z02 [1,1,1,1,1] (znd (x:=x) (Ld:=Ld) hg (ok n hb)) fun r11=>z1w fun x'=>z04 fun h11=>z01 ?_;subst h11;dsimp only[sel,rem,nth,del,cat,upd,zf5];refine z0m (z06 (z5n 11 rfl rfl (by simp[volC]) rfl ?_));dsimp only[sel,rem,nth,del,cat,upd];refine z8b [10,5,5,5,5,5] ?_;dsimp only[sel,rem,nth,del,cat,upd];refine z86 0 (B:=zgx g y.P (some ⟨ab,0⟩) (some n)) rfl (fun q h=>⟨(x,Ld),⟨rfl,h2,h3⟩,h⟩) ?_;dsimp only[sel,rem,nth,del,cat,upd];have ev:z0w (volC g y.x) (0+0) [MV.sl x'.rows.p x'.rows.len 2,MV.sl x'.own.p x'.own.len 1,MV.sl x'.used.p x'.used.len 1,MV.sl x'.ino.p x'.ino.len 14,MV.map (some x'.mp)]=volC g {y.x with rows:=x'.rows,own:=x'.own,used:=x'.used,ino:=x'.ino,mp:=x'.mp}:=rfl;rw[ev];refine z03 [6,1,1,1,1,1,6,6,6,6,0] fun q hq=>?_;refine z1o (V:={V with n:=n}) (y:=⟨{y.x with rows:=x'.rows,own:=x'.own,used:=x'.used,ino:=x'.ino,mp:=x'.mp},Ld,y.P,y.sf⟩) ⟨h2,h3,hy.safe,hy.smem,hy.dead⟩ hd ?_;rw[←hp,←hb]at hq;exact hq
end
end Go.Moat
