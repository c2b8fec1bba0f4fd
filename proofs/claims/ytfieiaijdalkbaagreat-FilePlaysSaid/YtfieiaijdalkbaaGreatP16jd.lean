/- Layer 15: what is not so on the disk, as patches. -/
import Derived.Test.YtfieiaijdalkbaaGreatP16ja
import Derived.Test.YtfieiaijdalkbaaGreatP16ku
namespace Go.Mini
section
variable{α β:Type}{l:List HA}{S:β→HA}{T:HA}{s:Sl}{cs:List MV}
theorem zln{A:HA}{m m':M α}{Q:α→HA}(e:∀h q,A q→Has h q→m h=m' h)(k:Tri A m' Q):Tri A m Q:=by
 intro h q hq hh;rw[e h q hq hh];exact k h q hq hh
theorem zum{m:M α}{Q:α→HA}(k:∀q0,T q0→Tri (z00 [fun q=>q=q0]) m fun r=>z00 [Q r,fun q=>q=q0]):Tri (z00 [T]) (frz m) fun r=>z00 [Q r,T]:=by
 intro h q hq hh;rw[stars_one]at hq;obtain⟨a,h',q',e,h1,h2,h3,h4,h5⟩:=k q hq h q (by rw[stars_one]) hh;have h6:=h1;rw[z3f 1 _ rfl]at h6;obtain⟨q1,q2,rfl,_,d,rfl⟩:=h6;have h7:=((z77 d).1 h2).1;refine⟨a,h',_,z10l e ⟨h3,fun b hb=>?_⟩,?_,h2,h3,h4,h5⟩
 ·cases hx:q1 b with
  | none=>exact h4 b hb hx
  | some x=>rw[(h7 b x hx).2,(hh b x hx).2]
 ·exact z4r (.cons (fun _ k=>k) (.cons (fun q k=>by rw[k];exact hq) .nil)) _ h1
theorem zk0(n:Nat)(hl:l[n]? = some T){v k o:Nat}(hr:RdC T ⟨some ⟨v,0⟩,k⟩ 1 cs){x:MV}(hv:cs[o]? = some x){m:M α}{a:α}(hm:∀(h:Hp)(r:List MV)(ro:Bool),h.get v=.cells r ro→r[o]? = some x→m h=some (a,h)){f:α→M β}(kk:Tri (z00 l) (f a) S):Tri (z00 l) (bd m f) S:=by
 refine z6j n hl (fun h q hq hh=>?_) kk;have ho:=(List.getElem?_eq_some_iff.1 hv).1;have hk:=hr.1;rcases hr.2 h q hq hh with⟨h1,_⟩ | ⟨a',r,ro,h1,h2,h3,h4⟩
 ·cases h1
 ·cases h1;refine hm h r ro h2 ?_;rw[←h4,List.getElem?_take]at hv;dsimp only at hv;rw[if_pos (by dsimp only at hk;omega),List.drop_zero]at hv;exact hv
end
end Go.Mini
namespace Go.Moat
open Go.Mini
section
variable{N:Nat}{β:Type}{l:List HA}{S:β→HA}{d v:Nat}{T:HA}{g:Geo}
def mP(g:Geo)(L:List (Sl×List UInt8))(i:Nat):Pat:=match L[i]? with
 | some e=>⟨g.lab+i,e.1,e.2,0⟩
 | none=>⟨0,⟨none,0⟩,[],0⟩
def mPs(g:Geo)(L:List (Sl×List UInt8))(sf:List (List UInt8))(k:Nat):List Pat:=((List.range k).filter fun i => !decide ((L[i]?.map (·.2)).getD []=sf[i]?.getD [])).map (mP g L)
def dP(g:Geo)(L:List (Int×DV))(k:Int):Pat:=match z43 L k with
 | some x=>⟨(g.blk+k).toNat,x.s,x.b,x.t⟩
 | none=>⟨0,⟨none,0⟩,[],0⟩
def zdi(l:List Int):List Int:=l.mergeSort fun x y=>decide (x≤y)
theorem zb3(l:List Int):(zdi l).Perm l:=List.mergeSort_perm l _
def dPs(g:Geo)(L:List (Int×DV)):List Pat:=(zdi (L.map (·.1))).map (dP g L)
structure PIn(T:HA)(g:Geo)(v:Nat)(x:VC)(sec:Sl)(L sf:List (Sl×List UInt8))(Ld:List (Int×DV)):Prop where
 sec:RdC T sec 1 (z3u L)
 secs:∀e∈L,RdC T e.1 1 (bytesOf e.2)
 vol:RdC T ⟨some ⟨v,0⟩,21⟩ 1 (z39 g x)
 safe:RdC T x.safe 1 (z3u sf)
 safes:∀e∈sf,RdC T e.1 1 (bytesOf e.2)
 mp:∀h q,T q→Has h q→h.get x.mp=.map (kvC .i64 (dkv g Ld))
theorem z15y(L:List (Sl×List UInt8))(sf:List (List UInt8))(k:Nat):mPs g L sf (k+1)=mPs g L sf k++(if(!decide ((L[k]?.map (·.2)).getD []=sf[k]?.getD []))=true then[mP g L k]else[]):=by
 unfold mPs;rw[List.range_succ,List.filter_append,List.map_append];congr 1;rw[List.filter_cons];split<;>rfl
theorem zun(L:List (Sl×List UInt8))(sf:List (List UInt8))(k:Nat):(mPs g L sf k).length≤k:=by
 unfold mPs;rw[List.length_map];exact Nat.le_trans (List.length_filter_le _ _) (by simp)
theorem z15z{x:VC}{sec:Sl}{L sf:List (Sl×List UInt8)}{Ld:List (Int×DV)}(P:PIn T g v x sec L sf Ld)(hl:L.length=sf.length)(hL:L.length≤40)(hlab:g.lab≤2000):∀(K k:Nat)(acc:Sl),L.length - k<K→k≤L.length →
  Tri (z00 [z06 acc 3 (z0x z2y (mPs g L (sf.map (·.2)) k)),T]) (z0e K (F_3y N (some ⟨v,0⟩) sec) (acc,(k:Int))) fun r=>z00 [z06 r 3 (z0x z2y (mPs g L (sf.map (·.2)) L.length)),T]:=by
 have hmost:most=70368744177664:=rfl;have hsl:sec.len=L.length:=by have:=P.sec.1;simp[z3u]at this;omega
 intro K;induction K with
 | zero=>intro k acc h;omega
 | succ K ih=>
  intro k acc hK hk;rw[z13];generalize z0e K (F_3y N (some ⟨v,0⟩) sec)=go at ih ⊢;unfold F_3y;by_cases hkl:k<L.length
  case neg=>
   obtain rfl:k=L.length:=by omega
   exact z05 (by simp;omega) (z03 [0,0] fun q hq=>hq)
  have hks:k<sf.length:=by omega
  refine z07 (by simp;omega) ?_;refine z0c 0 rfl fun la=>?_;have hle:=zun (g:=g) L (sf.map (·.2)) k;rw[z0u z2j]at la;refine zn8 1 rfl P.sec (i:=k) (p:=L[k].1.p) (ln:=L[k].1.len) (by simp[z3u,hkl]) ?_;refine z4l 1 rfl (P.secs _ (List.getElem_mem hkl)) ?_;refine z0r (z0b ?_);refine zk0 1 rfl P.vol (o:=18) (x :=.sl x.safe.p x.safe.len 1) rfl (fun h r ro h1 h2=>ziu h1 h2) ?_;refine zn8 1 rfl P.safe (i:=k) (p:=sf[k].1.p) (ln:=sf[k].1.len) (by simp[z3u,hks]) ?_;refine z4l 1 rfl (P.safes _ (List.getElem_mem hks)) ?_;have e1:(L[k]?.map (·.2)).getD []=L[k].2:=by rw[List.getElem?_eq_getElem hkl];rfl
  have e2:(sf.map (·.2))[k]?.getD []=sf[k].2:=by rw[List.getElem?_map,List.getElem?_eq_getElem hks];rfl
  have e3:=z15y (g:=g) L (sf.map (·.2)) k;rw[e1,e2]at e3;have e4:mP g L k=⟨g.lab+k,L[k].1,L[k].2,0⟩:=by unfold mP;rw[List.getElem?_eq_getElem hkl]
  rw[e4]at e3;refine z02 [0,0] (Q:=fun r=>z00 [z06 r 3 (z0x z2y (mPs g L (sf.map (·.2)) (k+1))),T]) ?_ fun j20=>z01 ?_
  ·by_cases hne:(!decide (L[k].2=sf[k].2))=true
   case neg=>
    rw[if_neg hne,List.append_nil]at e3;rw[e3];exact z05 hne (z03 [0,0] fun q hq=>hq)
   rw[if_pos hne]at e3;refine z07 hne ?_;refine z0r (z0b (z0b ?_));refine zk0 1 rfl P.vol (o:=11) (x :=.int .i64 g.lab) rfl (fun h r ro h1 h2=>zit h1 h2) ?_;rw[z09 (n:=(g.lab:Int)+(k:Int)) (by omega) (by omega)];refine z0v fun b=>?_;refine z02 [1,0] (z3a (s:=acc) (by':=40) (T:=pts b (.cells (z2y ⟨g.lab+k,L[k].1,L[k].2,0⟩) false)) (rd_pts0 (by simp[z2y])) (by omega) (zey _) (by dsimp only;omega)) fun l19=>z01 ?_;dsimp only[sel,rem,nth,del,cat,upd];rw[←zbo (c:=z2y),←z8p,←e3];exact z03 [0,1] fun q hq=>hq
  dsimp only[sel,rem,nth,del,cat,upd];rw[z09 (n:=(k:Int)+1) (by omega) (by omega)];exact z1u [0,0] (ih (k+1) _ (by omega) (by omega))
theorem zuo:∀{kvs:List (Int×MV)},(∀e∈kvs,-9223372036854775808≤e.1∧e.1≤9223372036854775807)→zde (kvC .i64 kvs)=some (kvs.map (·.1))
 | [],_=>rfl
 | e::r,h=>by
  show(if _ then(zde (kvC .i64 r)).map (e.1 :: ·)else none)=_;rw[if_pos (h e (List.mem_cons_self ..)),zuo fun x hx=>h x (List.mem_cons_of_mem _ hx)];rfl
theorem zvx{c mp:Nat}{kvs:List (Int×MV)}(hm:∀h q,T q→Has h q→h.get mp=.map (kvC .i64 kvs))(hk:∀e∈kvs,-9223372036854775808≤e.1∧e.1≤9223372036854775807)(hl:kvs.length≤100000)(f:FuncId) :
  Tri (z00 [pts c (.cells [.map (some mp)] false),T]) (za6 f (.fn f [.ptr (some ⟨c,0⟩)])) fun r=>z00 [z06 r 1 (z1w (zdi (kvs.map (·.1)))),pts c (.cells [.map (some mp)] false),T]:=by
 have key:∀h q,z00 [pts c (.cells [.map (some mp)] false),T] q→Has h q→za6 f (.fn f [.ptr (some ⟨c,0⟩)]) h=(match kvs.map (·.1)with
   | []=>some ((⟨none,0⟩:Sl),h)
   | ks=>some ((⟨some ⟨h.size,0⟩,ks.length⟩:Sl),h.push (.cells (z1w (zdi ks)) false))):=by
  intro h q hq hh;obtain⟨q1,q2,h1,h2,d,rfl⟩:=hq;obtain⟨q3,q4,h3,h4,d2,rfl⟩:=h2;have k1:=(z92 h1 ((z77 d).1 hh).1).2;have k2:=hm h q3 h3 ((z77 d2).1 ((z77 d).1 hh).2).1;unfold za6;dsimp only;rw[if_pos rfl,k1];show(match h.get mp with
    | .map es=>match zde es with
     | some []=>some ((⟨none,0⟩:Sl),h)
     | some ks=>if ks.length≤100000 then some ((⟨some ⟨h.size,0⟩,ks.length⟩:Sl),h.push (.cells ((ks.mergeSort fun x y=>decide (x≤y)).map (.int .i64)) false))else none
     | none=>none
    | _=>none)=_
  rw[k2];dsimp only;rw[zuo hk];cases hx:kvs.map (·.1)with
  | nil=>rfl
  | cons a b=>
   dsimp only;rw[if_pos (by rw[←hx,List.length_map];exact hl)];rfl
 cases hx:kvs.map (·.1)with
 | nil=>
  refine zln (m':=ret ⟨none,0⟩) (fun h q hq hh=>by rw[key h q hq hh,hx];rfl) ?_;have e:zdi []=[]:=by simp[zdi]
  rw[e];refine z1m fun q hq=>z2h (fun q h =>.nil 1 h) hq
 | cons a b=>
  refine zln (m':=bd (alloc (z1w (zdi (a::b)))) fun p=>ret ⟨p,(a::b).length⟩) (fun h q hq hh=>by rw[key h q hq hh,hx];rfl) ?_;refine z0v fun p=>?_;refine z6s 0 (B:=z06 ⟨some ⟨p,0⟩,(a::b).length⟩ 1 (z1w (zdi (a::b)))) rfl (fun q hq =>.mk (by rw[z9u,(zb3 _).length_eq,Nat.mul_one]) hq) ?_;exact z03 [0,0,0] fun q hq=>hq
structure DIn(g:Geo)(L:List (Int×DV)):Prop where
 key:∀e∈L,0≤e.1∧e.1<g.B
 nd:(L.map (·.1)).Nodup
theorem zqn{α:Type}{L:List (Int×α)}{k:Int}(h:k∈L.map (·.1)):∃x,z43 L k=some x:=by
 induction L with
 | nil=>cases h
 | cons e r ih=>
  unfold z43;split
  ·exact⟨_,rfl⟩
  ·rename_i hn;rcases List.mem_cons.1 h with h | h
   ·exact absurd h hn
   ·exact ih h
theorem zeh(L:List (Int×DV)):(dkv g L).map (·.1)=L.map (·.1):=by
 unfold dkv;rw[List.map_map];rfl
theorem zox{L:List (Int×DV)}{k:Int}{x:DV}(h:z43 L k=some x):dP g L k=⟨(g.blk+k).toNat,x.s,x.b,x.t⟩:=by
 unfold dP;rw[h]
theorem z160{x:VC}{sec:Sl}{L sf:List (Sl×List UInt8)}{Ld:List (Int×DV)}(P:PIn T g v x sec L sf Ld)(hd:DIn g Ld)(hg:g.ok){ks:List Int}(hks:∀k∈ks,k∈Ld.map (·.1))(hkl:ks.length≤1000){A:List Pat}(hA:A.length≤40){r27:Sl}:∀(K k:Nat)(acc:Sl),ks.length - k<K→k≤ks.length →
  Tri (z00 [z06 acc 3 (z0x z2y (A++(ks.take k).map (dP g Ld))),z06 r27 1 (z1w ks),T]) (z0e K (F_3z N (some ⟨v,0⟩) r27) (acc,(k:Int))) fun r=>z00 [z06 r 3 (z0x z2y (A++ks.map (dP g Ld))),T]:=by
 have hmost:most=70368744177664:=rfl;have hblk:g.blk=4+g.J+g.I / 2:=rfl;have hj1:=hg.j1;have hj2:=hg.j2;have hi2:=hg.i2;have hpp:=hg.gp;have hga:g.B=g.G * g.P:=rfl;intro K;induction K with
 | zero=>intro k acc h;omega
 | succ K ih=>
  intro k acc hK hk;rw[z13];generalize z0e K (F_3z N (some ⟨v,0⟩) r27)=go at ih ⊢;unfold F_3z;refine z0c 1 rfl fun lk=>?_;rw[z9u]at lk;by_cases hkl:k<ks.length
  case neg=>
   obtain rfl:k=ks.length:=by omega
   rw[List.take_length];exact z05 (by simp;omega) (z03 [0,1] fun q hq=>hq)
  refine z07 (by simp;omega) ?_;refine z0c 0 rfl fun la=>?_;rw[z0u z2j,List.length_append,List.length_map,List.length_take]at la;refine z2a 1 rfl (z0k (by rw[z9u];omega)) (i:=k) (v:=ks[k]) (zld hkl) ?_;refine z0r (z0b (z0b ?_));refine zk0 2 rfl P.vol (o:=4) (x :=.map (some x.mp)) rfl (fun h r ro h1 h2=>zn5 h1 h2) ?_;have hmem:=hks _ (List.getElem_mem hkl);obtain⟨y,hy⟩:=zqn hmem;have hke:=hd.key _ (ze0 hy);have hgk:z6t (dkv g Ld) ks[k]=some (dvC g ks[k] y):=by
   rw[show z6t (dkv g Ld) ks[k]=(z43 Ld ks[k]).map (dvC g ks[k])from zl9 (fun k z=>dvC g k z) Ld ks[k],hy];rfl
  refine z6j 2 rfl (a:=some (dvC g ks[k] y)) (fun h q hq hh=>?_) ?_
  ·unfold z84;simp only[bd,z8e,P.mp h q hq hh,zh2];have:=zoo (dkv g Ld) ks[k]
   rw[hgk]at this;cases hx:atK (dkv g Ld) ks[k]with
   | none=>rw[hx]at this;cases this
   | some z=>
    rw[hx]at this;obtain⟨z1,z2⟩:=z;have e9:z2=dvC g ks[k] y:=Option.some.inj this;subst e9;rfl
  refine Tri.bd (Q:=fun z=>pu (z=((g.blk:Int)+ks[k],y.s,(y.t:Int))) (z00 [z06 acc 3 (z0x z2y (A++(ks.take k).map (dP g Ld))),z06 r27 1 (z1w ks),T])) (z1m fun q hq=>⟨rfl,hq⟩) fun z=>zrf fun hz=>?_;subst hz;dsimp only at hke ⊢;have e1:z2y (dP g Ld ks[k])=[.int .i64 ((g.blk:Int)+ks[k]),.sl y.s.p y.s.len 1,.int .u16 y.t]:=by
   rw[zox hy];unfold z2y;rw[show(((g.blk+ks[k]).toNat:Nat):Int)=(g.blk:Int)+ks[k] by omega]
  refine z0v fun b=>?_;rw[←e1];refine z02 [1,0] (z3a (s:=acc) (by':=40) (T:=pts b (.cells (z2y (dP g Ld ks[k])) false)) (rd_pts0 (by rw[z2j])) (by omega) (zey _) (by dsimp only;omega)) fun l39=>z01 ?_;dsimp only[sel,rem,nth,del,cat,upd];rw[←zbo (c:=z2y),←z8p,List.append_assoc,show(ks.take k).map (dP g Ld)++[dP g Ld ks[k]]=(ks.take (k+1)).map (dP g Ld) by rw[List.take_succ_eq_append_getElem hkl,List.map_append];rfl];rw[z09 (n:=(k:Int)+1) (by omega) (by omega)];exact z1u [0,1,1] (ih (k+1) _ (by omega) (by omega))
theorem zup{x:VC}{sec:Sl}{L sf:List (Sl×List UInt8)}{Ld:List (Int×DV)}(P:PIn T g v x sec L sf Ld)(hd:DIn g Ld)(hg:g.ok)(hl:L.length=sf.length)(hL:L.length≤40)(hlen:Ld.length≤1000)(hN:5000<N) :
  Tri (z00 [T]) (F_3e N (some ⟨v,0⟩) sec) fun r=>z00 [z06 r 3 (z0x z2y (mPs g L (sf.map (·.2)) L.length++dPs g Ld)),T]:=by
 have hlab:g.lab=1+g.J:=rfl;have hj1:=hg.j1;have hj2:=hg.j2;have hga:g.B≤512:=hg.gp;unfold F_3e;refine z02 [0] (Tri.pre (z15z (N:=N) P hl hL (by omega) N 0 ⟨none,0⟩ (by omega) (by omega)) fun q hq=>z2h (fun q h =>.nil 3 h) hq) fun j21=>z01 ?_;dsimp only[sel,rem,nth,del,cat,upd];refine z0r (z0b (z0b ?_));refine zk0 1 rfl P.vol (o:=4) (x :=.map (some x.mp)) rfl (fun h r ro h1 h2=>zn5 h1 h2) ?_;unfold F_4o F_4q;rw[bd_bd];refine z5e (g:=fun b=>some ⟨b,0⟩) (x :=.cells [.map (some x.mp)] false) (fun _=>rfl) fun c=>?_;refine show Tri _ (bd (za6 _ (.fn _ [.ptr (some ⟨c,0⟩)])) _) _ from ?_;have hkl:((dkv g Ld).map (·.1)).length=Ld.length:=by rw[zeh,List.length_map]
 refine z02 [0,1] (zvx (kvs:=dkv g Ld) P.mp (fun e he=>by
  have:=List.mem_map_of_mem (f:=(·.1)) he
  rw[zeh]at this;obtain⟨e',h1,h2⟩:=List.mem_map.1 this;have:=hd.key _ h1
  omega) (by rw[←List.length_map (f:=(·.1)),hkl];omega) _) fun r27=>z01 ?_
 rw[zeh];dsimp only[sel,rem,nth,del,cat,upd];have hp:=zb3 (Ld.map (·.1));refine z02 [3,0,1] (Tri.pre (z160 (N:=N) P hd hg (ks:=zdi (Ld.map (·.1))) (fun k hk=>hp.mem_iff.1 hk) (by rw[hp.length_eq,List.length_map];omega) (A:=mPs g L (sf.map (·.2)) L.length) (by have:=zun (g:=g) L (sf.map (·.2)) L.length;omega) N 0 j21 (by rw[hp.length_eq,List.length_map];omega) (by omega)) fun q hq=>by rw[List.take_zero,List.map_nil,List.append_nil];exact hq) fun j40=>z01 ?_;exact z03 [0,0] fun q hq=>hq
end
end Go.Moat

/- Layer 15: Sync. -/
namespace Go.Mini
section
variable{α β:Type}{l:List HA}{S:β→HA}{b o:Nat}{cs:List MV}{ro:Bool}{kd:IntKind}{kvs:List (Int×MV)}
theorem zbx(n:Nat)(hl:l[n]? = some (pts b (.cells cs ro))){ts:List CTy}(hm:o+ts.length≤cs.length){x:HC ts}(hx:HC.dec ts ((cs.drop o).take ts.length)=some x){f:HC ts→M β}(kk:Tri (z00 l) (f x) S):Tri (z00 l) (bd (z4f ts (some ⟨b,o⟩)) f) S:=by
 refine tri_read n hl (fun h hg=>?_) kk;unfold z4f;simp only[bd,ze3 hg hm,hx];rfl
theorem z163(n:Nat)(hl:l[n]? = some (z65 kd b kvs)){f:Unit→M β}(kk:Tri (z00 (upd l n (z65 kd b []))) (f ()) S):Tri (z00 l) (bd (mapClr (some b)) f) S:=by
 refine zfw n hl fun hn=>?_;refine zab n (z60 l n _ hl) (a:=()) (y :=.map []) (fun h hg=>by unfold mapClr;simp only[hg]) ?_;rw[z79];refine kk.pre fun q hq=>?_;have:=z5j n (l:=upd l n (pts b (.map []))) (B:=z65 kd b []) (z60 l n _ hl) (fun q h=>⟨List.nodup_nil,h⟩) q hq
 rwa [z79]at this
end
end Go.Mini
namespace Go.Moat
open Go.Mini
section
variable{N:Nat}{β:Type}{l:List HA}{S:β→HA}{d v:Nat}{D:DskS}{T:HA}{g:Geo}{V:VolS}
theorem PIn.pre{T':HA}{x:VC}{sec:Sl}{L sf:List (Sl×List UInt8)}{Ld:List (Int×DV)}(h:PIn T g v x sec L sf Ld)(k:∀q,T' q→T q):PIn T' g v x sec L sf Ld:=
 ⟨h.sec.pre k,fun e he=>(h.secs e he).pre k,h.vol.pre k,h.safe.pre k,fun e he=>(h.safes e he).pre k,fun hp q hq hh=>h.mp hp q (k q hq) hh⟩
theorem zhi:∀{l:List Pat}{secs:List SecS}{p:Pat},p∈l→(∀q∈l,q.sec=p.sec→q=p)→p.sec<secs.length→(z2r secs l)[p.sec]? = some ⟨p.b,p.t⟩
 | q::l,secs,p,hp,hu,hs=>by
  show(z2r (secs.set q.sec ⟨q.b,q.t⟩) l)[p.sec]? = _;by_cases h:p∈l
  ·exact zhi h (fun q hq=>hu q (List.mem_cons_of_mem _ hq)) (by rw[List.length_set];exact hs)
  ·rcases List.mem_cons.1 hp with hp | hp
   ·subst hp;rw[z3v (secs:=secs) fun q hq e=>h (by rw[←hu q (List.mem_cons_of_mem _ hq) e];exact hq),List.getElem?_set,if_pos rfl,if_pos hs]
   ·exact absurd hp h
def z16q(g:Geo)(D:DskS)(ps:List Pat)(sq:Nat)(x:DskS×Nat):Prop:=(ps=[]∧x=(D,sq))∨(0<ps.length∧Comm g D ps (sq+1) x.1∧x.2=sq+1)
theorem zut(hg:g.ok){j sq:Nat}{sl:Sl}{ps:List Pat}(hp:PatsOk T D.secs.length sl ps)(ho:∀p∈ps,1+g.J≤p.sec)(hroom:ps.length≤z5d g.J)(hlen:1+g.J≤D.secs.length)(h0:D.dead=false)(h1:D.fuse = -1)(h2:0≤D.done)(h3:D.done<3000000000000000000)(hw:D.waits.length<300000000000)(hsq:sq<9000000000000000000)(hN:5000<N) :
  Tri (z00 [pts j (.cells (z3d d g sq) false),z1e d D,T]) (F_12 N (some ⟨j,0⟩) sl) fun r=>exA fun x:DskS×Nat=>pu (r=0∧z16q g D ps sq x) (z00 [pts j (.cells (z3d d g x.2) false),z1e d x.1,T]):=by
 by_cases hne:0<ps.length
 ·refine(zw2 hg hp ho hne hroom hlen h0 h1 h2 h3 hw hsq hN).post fun r q hq=>?_;obtain⟨D',⟨a1,a2⟩,hq⟩:=hq;exact⟨(D',sq+1),⟨a1,.inr ⟨hne,a2,rfl⟩⟩,hq⟩
 ·have hz:ps=[]:=List.length_eq_zero_iff.1 (by omega);have hln:sl.len=0:=by have:=hp.h.rd.1;rw[z0u z2j,hz]at this;simp at this;omega
  unfold F_12;exact z05 (by simp) (z07 (by simp;omega) (z03 [0,0,0] fun q hq=>⟨(D,sq),⟨rfl,.inl ⟨hz,rfl⟩⟩,hq⟩))
structure SyncIn(g:Geo)(V:VolS):Prop where
 inv:Inv g V.n.m
 dead:V.dead=false
 ddead:V.disk.dead=false
 fuse:V.disk.fuse = -1
 len:g.all≤V.disk.secs.length
 n:V.disk.secs.length≤4096
 safe:V.safe.length=g.M
 key:∀e∈V.n.dirty,0≤e.1∧e.1<g.B
 room:g.M+V.n.dirty.length≤z5d g.J
 done:0≤V.disk.done∧V.disk.done<1000000000000000000
 waits:V.disk.waits.length<1000000000
 seq:V.seq<1000000000000000000
structure Synced(g:Geo)(V V':VolS):Prop where
 n:V'.n=⟨V.n.m,[]⟩
 safe:V'.safe=z3b V.n.m
 before:V'.before=none
 dead:V'.dead=false
 ddead:V'.disk.dead=false
 fuse:V'.disk.fuse = -1
 len:V'.disk.secs.length=V.disk.secs.length
 blk:∀b:Nat,b<g.B→V'.disk.secs[g.blk+b]? = match z43 V.n.dirty b with
  | some x=>some ⟨x.1,x.2⟩
  | none=>V.disk.secs[g.blk+b]?
 known:∀i,i<g.M→(V.disk.secs[g.lab+i]?).map (·.b)=V.safe[i]? → (V'.disk.secs[g.lab+i]?).map (·.b)=(z3b V.n.m)[i]?
 sup:V'.disk.secs[0]? = V.disk.secs[0]?
 head:zcq (z48 V.disk 1).b V.seq→zcq (z48 V'.disk 1).b V'.seq
 done:V.disk.done≤V'.disk.done∧V'.disk.done≤V.disk.done+16000
 waits:V'.disk.waits.length≤V.disk.waits.length
 seq:V.seq≤V'.seq∧V'.seq≤V.seq+1
theorem zk1{L:List (Sl×List UInt8)}{sf:List (List UInt8)}{k:Nat}{p:Pat}(h:p∈mPs g L sf k)(hk:k≤L.length):∃i,∃hi:i<L.length,i<k∧p=⟨g.lab+i,L[i].1,L[i].2,0⟩∧L[i].2≠sf[i]?.getD []:=by
 unfold mPs at h;obtain⟨i,h1,rfl⟩:=List.mem_map.1 h;obtain⟨h1,h2⟩:=List.mem_filter.1 h1;have hik:=List.mem_range.1 h1;have hi:i<L.length:=by omega
 refine⟨i,hi,hik,by unfold mP;rw[List.getElem?_eq_getElem hi],?_⟩;rw[List.getElem?_eq_getElem hi]at h2;simpa using h2
theorem z18i{L:List (Sl×List UInt8)}{sf:List (List UInt8)}{k i:Nat}(hi:i<L.length)(hk:i<k)(h:L[i].2≠sf[i]?.getD []):(⟨g.lab+i,L[i].1,L[i].2,0⟩:Pat)∈mPs g L sf k:=by
 unfold mPs;refine List.mem_map.2 ⟨i,List.mem_filter.2 ⟨List.mem_range.2 hk,by rw[List.getElem?_eq_getElem hi];simpa using h⟩,by unfold mP;rw[List.getElem?_eq_getElem hi]⟩
theorem zk2{L:List (Int×DV)}(hd:DIn g L){p:Pat}(h:p∈dPs g L):∃(b:Nat)(x:DV),b<g.B∧z43 L b=some x∧p=⟨g.blk+b,x.s,x.b,x.t⟩:=by
 unfold dPs at h;obtain⟨k,h1,rfl⟩:=List.mem_map.1 h;obtain⟨x,hx⟩:=zqn ((zb3 _).mem_iff.1 h1);have hk:=hd.key _ (ze0 hx);dsimp only at hk;obtain⟨b,rfl⟩:∃b:Nat,k=b:=⟨k.toNat,by omega⟩;exact⟨b,x,by omega,hx,by rw[zox hx];congr 1⟩
theorem z18j{L:List (Int×DV)}{b:Nat}{x:DV}(h:z43 L b=some x):(⟨g.blk+b,x.s,x.b,x.t⟩:Pat)∈dPs g L:=by
 unfold dPs;refine List.mem_map.2 ⟨(b:Int),(zb3 _).mem_iff.2 (List.mem_map_of_mem (f:=(·.1)) (ze0 h)),by rw[zox h];congr 1⟩
theorem z18k(L:List (Int×DV)):(dPs g L).length=L.length:=by
 unfold dPs;rw[List.length_map,(zb3 _).length_eq,List.length_map]
theorem synced(hg:g.ok)(hi:SyncIn g V){L sf:List (Sl×List UInt8)}{Ld:List (Int×DV)}(hL:L.map (·.2)=z3b V.n.m)(hsf:sf.map (·.2)=V.safe)(hLd:forget Ld=V.n.dirty)(hd:DIn g Ld){x:DskS×Nat}(hc:z16q g V.disk (mPs g L (sf.map (·.2)) L.length++dPs g Ld) V.seq x) :
  Synced g V ⟨⟨V.n.m,[]⟩,x.1,x.2,z3b V.n.m,none,false⟩:=by
 have hM:(z3b V.n.m).length=g.M:=by
  rw[zcz hi.inv.ok,hi.inv.ok.inol];rfl
 have hLl:L.length=g.M:=by rw[←hM,←hL,List.length_map]
 have hga:g.all=g.blk+g.B:=rfl;have hblk:g.blk=g.lab+g.M:=by
  show 4+g.J+g.I / 2=1+g.J+(3+g.I / 2);omega
 have hlab:g.lab=1+g.J:=rfl;have hgl:∀b:Nat,z43 V.n.dirty b=(z43 Ld b).map DV.f:=fun b=>by
  rw[←hLd];exact zla DV.f Ld b
 have hln:=hi.len
 -- the sectors that are not the journal's
 have hsec:∀i,1+g.J≤i→x.1.secs[i]? = (z2r V.disk.secs (mPs g L (sf.map (·.2)) L.length++dPs g Ld))[i]? :=by
  intro i h;rcases hc with⟨h1,h2⟩ | ⟨_,h1,_⟩
  ·rw[h1,h2];rfl
  ·exact h1.secs i h
 have hm:∀p∈mPs g L (sf.map (·.2)) L.length,p.sec<g.blk:=by
  intro p hp;obtain⟨i,h1,h2,rfl,_⟩:=zk1 hp (Nat.le_refl _);dsimp only;omega
 have hdp:∀p∈dPs g Ld,g.blk≤p.sec:=by
  intro p hp;obtain⟨b,y,_,_,rfl⟩:=zk2 hd hp;dsimp only;omega
 have hx:x.1.dead=false∧x.1.fuse = -1∧x.1.secs.length=V.disk.secs.length∧x.1.secs[0]? = V.disk.secs[0]? ∧ (V.disk.done≤x.1.done∧x.1.done≤V.disk.done+16000)∧x.1.waits.length≤V.disk.waits.length∧(V.seq≤x.2∧x.2≤V.seq+1):=by
  rcases hc with⟨_,rfl⟩ | ⟨_,h1,h2⟩
  ·exact⟨hi.ddead,hi.fuse,rfl,rfl,⟨by dsimp only;omega,by dsimp only;omega⟩,Nat.le_refl _,by dsimp only;omega,by dsimp only;omega⟩
  ·exact⟨h1.dead,h1.fuse,h1.len,h1.sup,h1.done,by rw[h1.waits];simp,by omega,by omega⟩
 obtain⟨x1,x2,x3,x4,x5,x6,x7⟩:=hx;refine⟨rfl,rfl,rfl,rfl,x1,x2,x3,fun b hb=>?_,fun i h h1=>?_,x4,fun hh=>?_,x5,x6,x7⟩
 ·show x.1.secs[g.blk+b]? = _;rw[hsec _ (by omega),z80,hgl];cases hy:z43 Ld (b:Int)with
  | none=>
   rw[z3v (secs:=[]) fun p hp e=>?_,z3v (secs:=[]) fun p hp e=>by have:=hm p hp;omega]
   ·rfl
   ·obtain⟨b',y,_,h2,rfl⟩:=zk2 hd hp;obtain rfl:b'=b:=by dsimp only at e;omega
    rw[hy]at h2;cases h2
  | some y=>
   refine zhi (p:=⟨g.blk+b,y.s,y.b,y.t⟩) (z18j hy) (fun p hp e=>?_) (by rw[setAll_len];dsimp only;omega);obtain⟨b',y',_,h2,rfl⟩:=zk2 hd hp;obtain rfl:b'=b:=by dsimp only at e;omega
   rw[hy]at h2;cases h2;rfl
 ·show(x.1.secs[g.lab+i]?).map (·.b)=_;have hil:i<L.length:=by omega
  have e1:(z3b V.n.m)[i]? = some L[i].2:=by rw[←hL,List.getElem?_map,List.getElem?_eq_getElem hil];rfl
  rw[hsec _ (by omega),z80,z3v (secs:=[]) fun p hp e=>by have:=hdp p hp;omega,e1];by_cases hne:L[i].2=(sf.map (·.2))[i]?.getD []
  ·rw[z3v (secs:=[]) fun p hp e=>?_]
   ·have hs:i<V.safe.length:=by rw[hi.safe];exact h
    rw[h1,hne,hsf,List.getElem?_eq_getElem hs];rfl
   ·obtain⟨i',h2,h3,rfl,h4⟩:=zk1 hp (Nat.le_refl _);obtain rfl:i'=i:=by dsimp only at e;omega
    exact h4 hne
  ·rw[zhi (p:=⟨g.lab+i,L[i].1,L[i].2,0⟩) (z18i hil hil hne) (fun p hp e=>?_) (by dsimp only;omega)]
   ·rfl
   ·obtain⟨i',h2,h3,rfl,h4⟩:=zk1 hp (Nat.le_refl _);obtain rfl:i'=i:=by dsimp only at e;omega
    rfl
 ·show zcq (z48 x.1 1).b x.2;rcases hc with⟨_,rfl⟩ | ⟨_,h1,h2⟩
  ·exact hh
  ·have e:z48 x.1 1=⟨z6a (V.seq+1) 0,0⟩:=by
    unfold z48;have:=hg.j1
    rw[if_pos (show z7y x.1 1=0 from zbt x1 (i:=1) (by rw[x3];omega))];rw[show(1:Int).toNat=1 from rfl,h1.head];rfl
   rw[e,h2];exact .inr ⟨rfl,by have:=hi.seq;omega⟩
theorem z164(a b:List (Sl×List UInt8)):z1v (a++b)=z18 (z1v a) (z1v b):=by
 unfold z1v;rw[List.map_append,z4i]
theorem z138{a b:List (Sl×List UInt8)}{l:List HA}{q:PH}(h:z00 (z1v a::z1v b::l) q):z00 (z1v (a++b)::l) q:=by
 show z18 (z1v (a++b)) (z00 l) q;rw[z164,z4h];exact h
theorem z165{l:List HA}{q:PH}(h:z00 l q):z00 (l++[emp]) q:=by
 rw[z4i,stars_one,star_emp];exact h
theorem z139(n:Nat){x:VC}{m:Unit→M β}{b:Bool}(hl:l[n]? = some (pts v (.cells (z39 g x) false)))(kk:Tri (z00 (upd l n (pts v (.cells (z39 g {x with dead:=b}) false)))) (m ()) S):Tri (z00 l) (bd (nonNil (some ⟨v,0⟩)) fun q=>bd (fld q 20) fun q=>bd (stc q (.bool b)) m) S:=
 z0r (z0b (z21 n hl (by simp[z39]) rfl kk))
theorem z13a(n:Nat){x:VC}{m:Unit→M β}{s:Sl}(hl:l[n]? = some (pts v (.cells (z39 g x) false)))(kk:Tri (z00 (upd l n (pts v (.cells (z39 g {x with safe:=s}) false)))) (m ()) S):Tri (z00 l) (bd (nonNil (some ⟨v,0⟩)) fun q=>bd (fld q 18) fun q=>bd (stc q (.sl s.p s.len 1)) m) S:=
 z0r (z0b (z21 n hl (by simp[z39]) rfl kk))
theorem zuu(n:Nat){x:VC}{m:Unit→M β}{p:Option MA}(hl:l[n]? = some (pts v (.cells (z39 g x) false)))(kk:Tri (z00 (upd l n (pts v (.cells (z39 g {x with bp:=p}) false)))) (m ()) S):Tri (z00 l) (bd (nonNil (some ⟨v,0⟩)) fun q=>bd (fld q 19) fun q=>bd (stc q (.ptr p)) m) S:=
 z0r (z0b (z21 n hl (by simp[z39]) rfl kk))
theorem zqp(hg:g.ok)(hi:SyncIn g V)(hN:5000<N):Tri (z00 [z0l v d g V]) (F_21 N (some ⟨v,0⟩)) fun r=>exA fun V':VolS=>pu (r=0∧Synced g V V') (z00 [z0l v d g V']):=by
 have hM:(z3b V.n.m).length=g.M:=by
  rw[zcz hi.inv.ok,hi.inv.ok.inol];rfl
 have hgM:g.M=3+g.I / 2:=rfl;have hi2:=hg.i2;have hlab:g.lab=1+g.J:=rfl;have hga:g.all=g.blk+g.B:=rfl;have hblk:g.blk=4+g.J+g.I / 2:=rfl;have hln:=hi.len;unfold F_21;refine z05 (by simp) ?_;refine tri_vol 0 rfl fun y hy hd=>?_;dsimp only[sel,rem,nth,del,cat,upd,z2c];refine z0r (z0b (zx0 0 rfl (v:=y.x.dead) rfl ?_));refine z05 (by rw[hy.dead,hi.dead];simp) ?_;refine z0r (z0b (zbx 0 rfl (ts:=[.int .i64,.int .i64,.int .i64,.int .i64]) (x:=g.t) (by simp[z39]) rfl ?_));refine z0r (z0b (z0b (zbx 0 rfl (ts:=[.sl 2,.sl 1,.sl 1,.sl 14]) (x:=(y.x.rows,y.x.own,y.x.used,y.x.ino)) (by simp[z39]) rfl ?_)));refine z0c 1 rfl fun l1=>z0c 2 rfl fun l2=>z0c 3 rfl fun l3=>z0c 4 rfl fun l4=>?_;refine z6w [1,1,1,1] ?_;dsimp only[sel,rem,nth,del,cat,upd];refine z02 [0] (z137 (m:=(y.x.rows,y.x.own,y.x.used,y.x.ino)) hg hi.inv.ok ⟨RdC.at 0 rfl (z0k l1),RdC.at 1 rfl (z0k l2),RdC.at 2 rfl (z0k l3),RdC.at 3 rfl (z0k l4)⟩ hN) fun r12=>z12 fun L=>z04 fun h12=>z01 ?_;obtain⟨_,hL,hL2⟩:=h12;dsimp only[sel,rem,nth,del,cat,upd];refine ztv fun vb=>?_;refine zct 4 rfl (o:=17) (v:=some ⟨y.x.j,0⟩) rfl ?_;refine z0c 1 rfl fun ls=>z0c 9 rfl fun lsf=>?_;refine z7v 5 rfl (φ:=(y.L.map (·.1)).Nodup) (fun q h=>by have:=h.1;rwa [zeh]at this) fun hnd=>?_;have hLl:L.length=g.M:=by rw[←hM,←hL,List.length_map]
 have hsl:y.sf.length=g.M:=by rw[←hi.safe,←hy.safe,List.length_map]
 have hdl:y.L.length=V.n.dirty.length:=by rw[←hy.dirty];simp[forget]
 have hdin:DIn g y.L:=⟨fun e he=>by
  have:(e.1,e.2.f)∈V.n.dirty:=by rw[←hy.dirty];exact List.mem_map_of_mem (f:=fun e:Int×DV=>(e.1,e.2.f)) he
  exact hi.key _ this,hnd⟩
 have hroom:=hi.room;have hr2:z5d g.J≤g.J:=by unfold z5d;omega
 have hj2:=hg.j2;refine z6w [1,1,2,2,2,4] ?_;dsimp only[sel,rem,nth,del,cat,upd];refine z02 [0] (zum (Q:=fun r=>z06 r 3 (z0x z2y (mPs g L (y.sf.map (·.2)) L.length++dPs g y.L))) fun q0 hq0=>zup (N:=N) (x:=y.x) (sec:=r12.1) (L:=L) (sf:=y.sf) (Ld:=y.L) (PIn.pre (T:=z00 [z06 r12.1 1 (z3u L),z1v L,pts v (.cells (z39 g y.x) false),z65 .i64 y.x.mp (dkv g y.L),z1v y.P,z06 y.x.safe 1 (z3u y.sf)]) ⟨RdC.at 0 rfl (z0k ls),fun e he=>RdC.at 1 rfl (zbk he (by have:=hL2 e he;omega)),RdC.at 2 rfl (rd_pts0 (by simp[z39])),RdC.at 5 rfl (z0k lsf),fun e he=>RdC.at 4 rfl (zbk (hy.smem e he).1 (by have:=(hy.smem e he).2;omega)),fun h q hq hh=>?_⟩ (fun q hq=>hq ▸ hq0)) hdin hg (by omega) (by omega) (by omega) hN) fun r17=>z01 ?_
 ·rw[z3f 3 _ rfl]at hq;obtain⟨q1,q2,h1,_,dd,rfl⟩:=hq;exact(z92 h1.2 ((z77 dd).1 hh).1).2
 dsimp only[sel,rem,nth,del,cat,upd];refine z8r 1 rfl ?_;dsimp only[sel,rem,nth,del,cat,upd];refine z0c 6 rfl fun l17=>?_;refine z6w [6,1,3] ?_;dsimp only[sel,rem,nth,del,cat,upd];have hsync:∀p∈mPs g L (y.sf.map (·.2)) L.length++dPs g y.L,RdC (z00 [z06 r17 3 (z0x z2y (mPs g L (y.sf.map (·.2)) L.length++dPs g y.L)),z1v L,z1v y.P]) p.s 1 (bytesOf p.b)∧p.b.length=64∧p.sec<V.disk.secs.length∧p.t<65536∧1+g.J≤p.sec:=by
  intro p hp;rcases List.mem_append.1 hp with hp | hp
  ·obtain⟨i,h1,h2,rfl,_⟩:=zk1 hp (Nat.le_refl _);have:=hL2 _ (List.getElem_mem h1)
   exact⟨RdC.at 1 rfl (zbk (s:=L[i].1) (bs:=L[i].2) (List.getElem_mem h1) (by omega)),this.2,by dsimp only;omega,by dsimp only;omega,by dsimp only;omega⟩
  ·obtain⟨b,z,h1,h2,rfl⟩:=zk2 hdin hp;have h3:=ze0 h2;have h4:=hy.dok.mem _ h3;have h5:=hy.dok.len _ h3;have h6:=hy.dok.tag _ h3;dsimp only at h4 h5 h6;exact⟨RdC.at 2 rfl (zbk (s:=z.s) (bs:=z.b) h4 (by omega)),h5.2,by dsimp only;omega,h6,by dsimp only;omega⟩
 have hpl:(mPs g L (y.sf.map (·.2)) L.length++dPs g y.L).length≤z5d g.J:=by
  have:=zun (g:=g) L (y.sf.map (·.2)) L.length
  rw[List.length_append,z18k];omega
 have hdone:=hi.done;have hwaits:=hi.waits;have hseq:=hi.seq;refine z02 [8,7,0] (zut hg (sq:=V.seq) (D:=V.disk) ⟨⟨RdC.at 0 rfl (z0k l17),fun p hp=>⟨(hsync p hp).1,(hsync p hp).2.1,(hsync p hp).2.2.1⟩⟩,fun p hp=>(hsync p hp).2.2.2.1,hi.n⟩ (fun p hp=>(hsync p hp).2.2.2.2) hpl (by omega) hi.ddead hi.fuse (by omega) (by omega) (by omega) (by omega) hN) fun r18=>z12 fun x=>z04 fun h18=>z01 ?_;obtain⟨h18,hc⟩:=h18;subst h18;dsimp only[sel,rem,nth,del,cat,upd];refine z139 4 rfl ?_;refine z05 (by simp) ?_;refine z13a 4 rfl ?_;refine zuu 4 rfl ?_;refine z0r (z0b (z0b (tri_read 4 rfl (fun _ hg=>zn5 hg rfl) ?_)));refine z163 5 rfl ?_;dsimp only[sel,rem,nth,del,cat,upd];refine z8r 8 rfl ?_;dsimp only[sel,rem,nth,del,cat,upd];refine z8r 6 rfl ?_;dsimp only[sel,rem,nth,del,cat,upd];refine z03 [10,3,3,3,3,6,1,1,2,1,1] fun q hq=>⟨⟨⟨V.n.m,[]⟩,x.1,x.2,z3b V.n.m,none,false⟩,⟨rfl,synced hg hi hL hy.safe hy.dirty hdin hc⟩,?_⟩;refine z1r (V:=⟨⟨V.n.m,[]⟩,x.1,x.2,z3b V.n.m,none,false⟩) (y:=⟨⟨y.x.rows,y.x.own,y.x.used,y.x.ino,y.x.mp,y.x.d,y.x.j,r12.1,none,false⟩,[],L++y.P,L⟩) ⟨rfl,⟨by simp,by simp,by simp⟩,hL,fun e he=>⟨List.mem_append_left _ he,hL2 e he⟩,rfl⟩ hd ?_;have hq:=z165 hq;exact z1g (fun q=>z1g (fun q=>z1g (fun q=>z1g (fun q=>z1g (fun q=>z1g (fun q=>z138)))))) hq
end
end Go.Moat

/- Layer 15: what there is, copied; Begin, Abort. -/
namespace Go.Moat
open Go.Mini
section
variable{N:Nat}{β:Type}{l:List HA}{S:β→HA}{d v:Nat}{D:DskS}{T:HA}{g:Geo}{V:VolS}
theorem zzi{b:Nat}{kvs:List (Int×MV)}:Tri (z00 [z65 .i64 b kvs]) (zbi (some b)) fun r=>exA fun b'=>pu (r=some b') (z00 [z65 .i64 b' kvs,z65 .i64 b kvs]):=by
 refine zfw 0 rfl fun hn=>?_;refine zln (m':=bd (fun h=>some (some h.size,h.push (.map (kvC .i64 kvs)))) ret) (fun h q hq hh=>?_) ?_
 ·have hq:z00 [pts b (.map (kvC .i64 kvs))] q:=hq;rw[stars_one]at hq;unfold zbi bd ret;dsimp only;rw[(z92 hq hh).2]
 ·refine z5e (g:=fun b=>some b) (x :=.map (kvC .i64 kvs)) (fun _=>rfl) fun b'=>?_;refine z1m fun q hq=>⟨b',rfl,?_⟩;exact z4k (fun q h=>⟨hn,h⟩) (z1g (fun q=>z4k fun q h=>⟨hn,h⟩) hq)
theorem zqq(hg:g.ok){n:NowS}(ok:MetaOk g n.m)(x:NC)(Ld:List (Int×DV)):Tri (z00 (zgu g x n Ld)) (F_13 N (x.rows,x.own,x.used,x.ino,some x.mp)) fun r=>exA fun x':NC=>pu (r=(x'.rows,x'.own,x'.used,x'.ino,some x'.mp)) (z00 (cat (zgu g x' n Ld) (zgu g x n Ld))):=by
 unfold F_13 zgu;refine z8q fun _=>?_;refine z0c 0 rfl fun l1=>z0c 1 rfl fun l2=>z0c 2 rfl fun l3=>z0c 3 rfl fun l4=>?_;refine z6w [0,0,0,0] ?_;dsimp only[sel,rem,nth,del,cat,upd];refine z02 [0] (zns (m:=(x.rows,x.own,x.used,x.ino)) hg ok ⟨RdC.at 0 rfl (z0k l1),RdC.at 1 rfl (z0k l2),RdC.at 2 rfl (z0k l3),RdC.at 3 rfl (z0k l4)⟩) fun r3=>z01 ?_;dsimp only[sel,rem,nth,del,cat,upd];refine z8r 4 rfl ?_;dsimp only[sel,rem,nth,del,cat,upd];refine z02 [8] (show Tri _ (zbi _) _ from zzi) fun r4=>z12 fun b'=>z04 fun h4=>z01 ?_;subst h4;dsimp only[sel,rem,nth,del,cat,upd];exact z03 [6,6,6,6,0,1,1,1,1,0] fun q hq=>⟨⟨r3.1,r3.2.1,r3.2.2.1,r3.2.2.2,b'⟩,rfl,hq⟩
theorem z1an{α:Type}{c:Prop}[Decidable c]{m m':M α}(h:RO m)(k:RO m'):RO (if c then m else m'):=by
 split
 ·exact h
 ·exact k
theorem zzj:Tri (z00 [z0l v d g V]) (F_11 N (some ⟨v,0⟩)) fun r=>pu (r=V.n.dirty.length) (z00 [z0l v d g V]):=by
 unfold F_11;refine z05 (by simp) ?_;refine tri_vol 0 rfl fun y hy hd=>?_;dsimp only[sel,rem,nth,del,cat,upd,z2c];refine zlc 0 rfl (z15h 5 rfl ?_);refine z03 [0,0,0,0,0,0,0,0,0,0,0] fun q hq=>⟨?_,z1r hy hd hq⟩;rw[←hy.dirty];simp[dkv,forget]
theorem z166(p:Option MA):RO (F_11 N p):=by
 unfold F_11;exact z1an (z5m _) (z6b (zep _) fun _=>z6b (zim _ _) fun _=>z6b (zim _ _) fun _=>z6b (z1a5 _) fun _=>z6b (z11j _) fun _=>z5m _)
def VolS.tight(g:Geo)(V:VolS):Bool:=decide ((z5d g.J:Int) - g.M - 80<V.n.dirty.length)
def znt(g:Geo)(V V':VolS):Prop:=if V.tight g=true then ∃V1,Synced g V V1∧V'={V1 with before:=some V1.n}else V'={V with before:=some V.n}
theorem z13b(hg:g.ok)(ok:MetaOk g V.n.m):Tri (z00 [z0l v d g V]) (bd (nonNil (some ⟨v,0⟩)) fun q_15=>bd (fld q_15 0) fun q_16=>bd (z4f [.sl 2,.sl 1,.sl 1,.sl 14,.map] q_16) fun(y_17:Sl×Sl×Sl×Sl×Option Nat)=>bd (F_13 N (y_17.1,y_17.2.1,y_17.2.2.1,y_17.2.2.2.1,y_17.2.2.2.2)) fun r_18=>bd (alloc [MV.sl (none:Option MA) 0 2,MV.sl (none:Option MA) 0 1,MV.sl (none:Option MA) 0 1,MV.sl (none:Option MA) 0 14,MV.map (none:Option Nat)]) fun was_19=>bd (stn 5 was_19 [MV.sl r_18.1.p r_18.1.len 2,MV.sl r_18.2.1.p r_18.2.1.len 1,MV.sl r_18.2.2.1.p r_18.2.2.1.len 1,MV.sl r_18.2.2.2.1.p r_18.2.2.2.1.len 14,MV.map r_18.2.2.2.2]) fun _=>bd (nonNil (some ⟨v,0⟩)) fun q_20=>bd (fld q_20 19) fun q_21=>bd (stc q_21 (MV.ptr was_19)) fun _=>ret (0:Int)) fun r=>pu (r=0) (z00 [z0l v d g {V with before:=some V.n}]):=by
 refine tri_vol 0 rfl fun y hy hd=>?_;dsimp only[sel,rem,nth,del,cat,upd,z2c];refine z0r (z0b (zbx 0 rfl (ts:=[.sl 2,.sl 1,.sl 1,.sl 14,.map]) (x:=(y.x.rows,y.x.own,y.x.used,y.x.ino,some y.x.mp)) (by simp[z39]) rfl ?_));refine z02 [1,1,1,1,1] (zqq (x:=⟨y.x.rows,y.x.own,y.x.used,y.x.ino,y.x.mp⟩) (Ld:=y.L) hg ok) fun r18=>z12 fun x'=>z04 fun h18=>z01 ?_;subst h18;dsimp only[sel,rem,nth,del,cat,upd,zgu];refine z0v fun w=>?_;refine z50 0 rfl rfl (by simp) rfl ?_;dsimp only[sel,rem,nth,del,cat,upd];refine zuu 11 rfl ?_;dsimp only[sel,rem,nth,del,cat,upd];rw[z9w (by rfl)];refine z6w [0,0,0,0,0,0] ?_;dsimp only[sel,rem,nth,del,cat,upd];refine z6s 0 (B:=zin g y.P (some ⟨w,0⟩) (some V.n)) rfl (fun q h=>⟨(x',y.L),⟨rfl,hy.dirty,hy.dok⟩,h⟩) ?_;dsimp only[sel,rem,nth,del,cat,upd];refine z03 [6,1,1,1,1,1,1,1,1,1,0] fun q hq=>⟨rfl,?_⟩;exact z1r (V:={V with before:=some V.n}) (y:={y with x:={y.x with bp:=some ⟨w,0⟩}}) ⟨hy.1,hy.2,hy.3,hy.4,hy.5⟩ hd hq
theorem zf5(hg:g.ok)(hi:SyncIn g V)(hN:5000<N):Tri (z00 [z0l v d g V]) (F_14 N (some ⟨v,0⟩)) fun r=>exA fun V':VolS=>pu (r=0∧znt g V V') (z00 [z0l v d g V']):=by
 have hj1:=hg.j1;have hj2:=hg.j2;have hi2:=hg.i2;have hgM:g.M=3+g.I / 2:=rfl;have hroom:=hi.room;have hr2:z5d g.J≤g.J:=by unfold z5d;omega
 unfold F_14;refine z05 (by simp) ?_;rw[zau (z166 _)];refine z02 [0] zzj fun r2=>z04 fun h2=>z01 ?_;subst h2;dsimp only[sel,rem,nth,del,cat,upd];refine tri_vol 0 rfl fun y hy hd=>?_;dsimp only[sel,rem,nth,del,cat,upd,z2c];refine zct 0 rfl (o:=17) (v:=some ⟨y.x.j,0⟩) rfl ?_;rw[zau (zww _)];refine z02 [8] (zik hg) fun r6=>z04 fun h6=>z01 ?_;subst h6;dsimp only[sel,rem,nth,del,cat,upd];refine z0r (z0b (zbx 1 rfl (ts:=[.int .i64,.int .i64,.int .i64,.int .i64]) (x:=g.t) (by simp[z39]) rfl ?_));have em:frz (F_06 N (g.t.1,g.t.2.1,g.t.2.2.1,g.t.2.2.2))=ret (g.M:Int):=by
  rw[show F_06 N (g.t.1,g.t.2.1,g.t.2.2.1,g.t.2.2.2)=ret (g.M:Int)from zfz hg];exact zau (z5m _)
 rw[em];refine z0j ?_;refine Tri.pre (B:=z00 [z0l v d g V]) ?_ fun q hq=>z1r hy hd (zom [1,1,1,1,1,1,1,1,0,0,0] hq);rw[z09 (n:=((z5d g.J:Nat):Int) - (g.M:Int)) (by omega) (by omega),z09 (by omega) (by omega)];unfold znt VolS.tight;by_cases ht:(z5d g.J:Int) - g.M - 80<V.n.dirty.length
 ·refine z02 [0] (Q:=fun j=>exA fun V1:VolS=>pu (j=.inl ()∧Synced g V V1) (z00 [z0l v d g V1])) ?_ fun j=>z12 fun V1=>z04 fun hj=>z01 ?_
  ·refine z07 (by simpa using ht) ?_;refine z02 [0] (zqp hg hi hN) fun r11=>z12 fun V1=>z04 fun h11=>z01 ?_;obtain⟨h11,h12⟩:=h11;subst h11;exact z05 (by simp) (z03 [0] fun q hq=>⟨V1,⟨rfl,h12⟩,hq⟩)
  obtain⟨hj,hs⟩:=hj;subst hj;dsimp only[sel,rem,nth,del,cat,upd];refine(z13b (N:=N) hg (V:=V1) (by rw[hs.n];exact hi.inv.ok)).post fun r q hq=>⟨_,⟨hq.1,?_⟩,hq.2⟩;rw[if_pos (by simpa using ht)];exact⟨V1,hs,rfl⟩
 ·refine z02 [0] (Q:=fun j=>pu (j=.inl ()) (z00 [z0l v d g V])) (z05 (by simpa using ht) (z03 [0] fun q hq=>⟨rfl,hq⟩)) fun j=>z04 fun hj=>z01 ?_;subst hj;dsimp only[sel,rem,nth,del,cat,upd];refine(z13b (N:=N) hg hi.inv.ok).post fun r q hq=>⟨_,⟨hq.1,?_⟩,hq.2⟩;rw[if_neg (by simpa using ht)]
def VolS.abort(V:VolS):VolS:=match V.before with
 | some n=>{V with n:=n}
 | none=>V
theorem znu(hg:g.ok)(ok:∀n,V.before=some n→MetaOk g n.m):Tri (z00 [z0l v d g V]) (F_23 N (some ⟨v,0⟩)) fun _=>z00 [z0l v d g V.abort]:=by
 unfold F_23 VolS.abort;refine tri_vol 0 rfl fun y hy hd=>?_;dsimp only[sel,rem,nth,del,cat,upd,z2c];refine z02 [0,0,0,0,0,0,0,0,0,0,0] (Q:=fun c=>pu (c = !(Option.isNone y.x.bp)) (z00 (z2c v d g V y))) (z07 rfl (zct 0 rfl (o:=19) (v:=y.x.bp) rfl (z03 [0,0,0,0,0,0,0,0,0,0,0] fun q hq=>⟨rfl,hq⟩))) fun c=>z04 fun hc=>z01 ?_;subst hc;dsimp only[sel,rem,nth,del,cat,upd,z2c];cases hb:V.before with
 | none=>
  cases hp:y.x.bp with
  | some a=>exact z7v 10 rfl (φ:=False) (fun q h=>h) fun h=>h.elim
  | none=>
   refine z02 [0,0,0,0,0,0,0,0,0,0,0] (Q:=fun _=>z00 [pts v (.cells (z39 g y.x) false),z06 y.x.rows 2 (z1t V.n.m.rows),z06 y.x.own 1 (z1c V.n.m.own),z06 y.x.used 1 (bytesOf V.n.m.used),z06 y.x.ino 14 (z2m V.n.m.ino),z65 .i64 y.x.mp (dkv g y.L),z1v y.P,z1e d V.disk,pts y.x.j (.cells (z3d d g V.seq) false),z06 y.x.safe 1 (z3u y.sf),zin g y.P none none]) (z05 (by simp) (z03 [0,0,0,0,0,0,0,0,0,0,0] fun q hq=>hq)) fun _=>z01 ?_;dsimp only[sel,rem,nth,del,cat,upd];refine z03 [0,0,0,0,0,0,0,0,0,0,0] fun q hq=>?_;refine z1r hy hd ?_;unfold z2c;rw[hp,hb];exact hq
 | some n=>
  cases hp:y.x.bp with
  | none=>exact z7v 10 rfl (φ:=False) (fun q h=>h) fun h=>h.elim
  | some a=>
   refine zh0 (γ:=NC×List (Int×DV)) (φ:=fun x=>a.off=0∧forget x.2=n.dirty∧DOk y.P x.2) (L:=fun x=>pts a.blk (.cells (nowC x.1) false)::zgu g x.1 n x.2) 10 rfl (fun _ ⟨x,h1,h2⟩=>⟨x,h1,h2⟩) fun x hx=>?_;obtain⟨h1,h2,h3⟩:=hx;obtain⟨x,Ld⟩:=x;obtain⟨ab,ao⟩:=a;dsimp only at h1;subst h1;dsimp only[sel,rem,nth,del,cat,upd,zgu];refine z02 [0,0,0,0,0,0,0,0,0,0,0,0,0,0,0,0] (Q:=fun _=>z00 [z0l v d g {V with n:=n}]) (z07 rfl ?_) fun _=>z01 (z03 [0] fun q hq=>by rw[hb]at hq;exact hq);refine zct 6 rfl (o:=19) (v:=y.x.bp) rfl ?_;rw[hp];refine z0r (zbx 0 rfl (ts:=[.sl 2,.sl 1,.sl 1,.sl 14,.map]) (x:=(x.rows,x.own,x.used,x.ino,some x.mp)) (by simp[nowC]) rfl ?_);refine z02 [1,1,1,1,1] (zqq (x:=x) (Ld:=Ld) hg (ok n hb)) fun r11=>z12 fun x'=>z04 fun h11=>z01 ?_;subst h11;dsimp only[sel,rem,nth,del,cat,upd,zgu];refine z0r (z0b (z50 11 rfl rfl (by simp[z39]) rfl ?_));dsimp only[sel,rem,nth,del,cat,upd];refine z6w [10,5,5,5,5,5] ?_;dsimp only[sel,rem,nth,del,cat,upd];refine z6s 0 (B:=zin g y.P (some ⟨ab,0⟩) (some n)) rfl (fun q h=>⟨(x,Ld),⟨rfl,h2,h3⟩,h⟩) ?_;dsimp only[sel,rem,nth,del,cat,upd];have ev:z11 (z39 g y.x) (0+0) [MV.sl x'.rows.p x'.rows.len 2,MV.sl x'.own.p x'.own.len 1,MV.sl x'.used.p x'.used.len 1,MV.sl x'.ino.p x'.ino.len 14,MV.map (some x'.mp)]=z39 g {y.x with rows:=x'.rows,own:=x'.own,used:=x'.used,ino:=x'.ino,mp:=x'.mp}:=rfl;rw[ev];refine z03 [6,1,1,1,1,1,6,6,6,6,0] fun q hq=>?_;refine z1r (V:={V with n:=n}) (y:=⟨{y.x with rows:=x'.rows,own:=x'.own,used:=x'.used,ino:=x'.ino,mp:=x'.mp},Ld,y.P,y.sf⟩) ⟨h2,h3,hy.safe,hy.smem,hy.dead⟩ hd ?_;rw[←hp,←hb]at hq;exact hq
end
end Go.Moat
