/- slices.Sorted(maps.Keys(m)), maps.Clone: the kit's contracts, as contracts of the small machine. -/
import Derived.Test.YtfieiaijdalkbaaGreatMU
import Derived.Test.YtfieiaijdalkbaaGreatMDSRT
import Derived.Shelf.SlIterI.Sorted
import Derived.Shelf.SortM.Plain
import Derived.Shelf.SortM.SortNone
import Derived.Shelf.SlMaps.Clone
namespace Go.Mini
open Go.Shelf Go.RowKit Go.Maps Go.Sort Go.Proofs
section
variable{P:Program}{r:Go.Shelf.Ren}
set_option maxRecDepth 100000 in
set_option maxHeartbeats 1000000 in
theorem z117(L:SlLaysZI.n10 P r){H:Type}(F:Fence)(n:Nat)(h10:F.fn (r.f 10))(hro:F.round=none)(hn:1≤n)(l Bm o b nn:Nat)(D0:DataW H){R:Value→Option (DataW H×List MemPlace)}(J:List Int→World→Prop)
  (hY:∀pre x W,J pre W→pre.length<Maps.size D0→YieldAt F (n - 1) P l #[encZ x] W fun e W'=>e=.returned (.bool true)∧J (pre++[x]) W'∧KeepsWalks W W')
  (W:World) (hJ:AbidesFrom W.heap.size J) (hm:W.cell? ⟨Bm,o,none⟩=some (.map (some b))) (hown:W.ownsMap P (r.t 26) R b nn D0) (h0:J [] W) :
  CallsIn F n P (r.f 10) #[.func (.yield l) #[] #[],.pointer (some ⟨Bm,o,none⟩)] W fun e W'=>(∃v,e=.returned v)∧∃ss:List Int,ss.Perm (intKeys D0)∧J ss W':=by
 have mixed:=L.mixed;have t0:=L.t0;have a0:=L.a0;have z0:=L.z0;have v0:=L.v0;have t4:=L.t4;have a4:=L.a4;have z4:=L.z4;have v4:=L.v4;have t23:=L.t23;have a23:=L.a23;have z23:=L.z23;have v23:=L.v23;have t26:=L.t26;have a26:=L.a26;have z26:=L.z26;have v26:=L.v26;have t33:=L.t33;have a33:=L.a33;have z33:=L.z33;have v33:=L.v33
 have u0:=run_underlying L.t0;have u4:=run_underlying L.t4;have u23:=run_underlying L.t23;have u26:=run_underlying L.t26;have u33:=run_underlying L.t33
 obtain⟨_,_,FG⟩:=L.f10;refine callsIn_of_wp FG rfl h10 ?_ hro;simp only[SlBodyZ.n10_ntmps r,List.size_toArray,List.length_cons,List.length_nil,Nat.reduceAdd,Nat.reduceSub,Array.replicate_succ,Array.replicate_zero,List.push_toArray,List.append_toArray,List.nil_append,List.cons_append];gi_wp2_with (first
  | (gi_at_range;refine wpListIn_range_own _ rfl _ (r.t 23) rfl (r.t 26) (r.t 3) (int_keyed L.t26) L.t23 _ b nn _ rfl hown ?_;intro w0 hrg0 hg0 hs0)
  | gi_in)
 go_frame
 gi_loopw [3] (fun _ wr=>∃(left:Lit→Bool)(cnt:Nat)(ss:List Int),wr.ranges P (r.t 26) R b W.heap.size nn D0 left cnt∧ss.length+cnt≤Maps.size D0∧CollectedI D0 left ss∧J ss wr)
  (fun _ wr=>wr.rangeLeft b W.heap.size)
 case atStart=>
  exact⟨_,_,[],hrg0,by simp,CollectedI.start D0,hJ [] W w0 none h0 hg0 (fun r e=>by cases e)⟩
 case round=>
  obtain⟨left,cnt,ss,hrg,hcs,hC,hJs⟩:=hrel;gi_wp2_with (first
   | (gi_at_next;refine wpListIn_next_ranges _ rfl _ rfl (r.t 26) (int_keyed L.t26) R encZ id (fun key kl hk=>by obtain⟨x,hx,_⟩:=Maps.keyOf_i64 L.t26 hk;exact⟨x,hx⟩) (fun v _ _=>⟨v,rfl⟩) b W.heap.size nn _ _ _ rfl hrg ?_ ?_)
   | gi_in)
  ·intro hc0 hl0;gi_wp2
   go_end0
   exact⟨⟨_,rfl⟩,ss,hC.perm hown (int_keyed L.t26) L.t26 hl0,hJs⟩
  ·intro x c kl yd yp w2 cnt2 hkey hlk hv hat hrg2 hlt hg2 hs2 hen;obtain⟨x',ex,rfl,_⟩:=Maps.keyOf_i64 L.t26 hkey;obtain rfl:x=x':=encZ_inj ex;have hJ2:J ss w2:=hJ ss wr w2 (some W.heap.size) hJs hg2 (fun r e=>by cases e;exact⟨Nat.le_refl _,hrg.iter_walk⟩);obtain⟨fn,tmps,assign,body,hy,hR⟩:=hY ss x w2 hJ2 (by omega);clear hs2;gi_wp2
   refine hR.mono ?_;rintro e W3 ⟨rfl,hJ3,hk3⟩
   gi_wp2
   have hrg3:=hrg2.of_walks hk3;go_roundw
   case rel=>exact⟨_,cnt2,ss++[x],hrg3,by simp;omega,hC.step hlk hat,hJ3⟩
   case measure=>rw[hrg3.left_eq,hrg.left_eq];exact hlt
theorem zt1(L:SlLaysZI.n10 P r){H:Type}(F:Fence)(n:Nat)(h10:F.fn (r.f 10))(hro:F.round=none)(hn:1≤n)(Bm o b nn:Nat)(D0:DataW H){R:Value→Option (DataW H×List MemPlace)}(w:World)(hBm:Bm<w.heap.size)
  (hm:w.cell? ⟨Bm,o,none⟩=some (.map (some b))) (hown:w.ownsMap P (r.t 26) R b nn D0) :
  SeqGives F n P (r.f 10) #[.pointer (some ⟨Bm,o,none⟩)] encZ (fun ss=>ss.Perm (intKeys D0)) (Maps.size D0) w:=fun l J W hW hJ hY h0=>by
 have hown':W.ownsMap P (r.t 26) R b nn D0:=by
  have hbl:=hown.lt;obtain⟨es,clock,hb,Ft,hs,hD⟩:=hown;exact⟨es,clock,(hW.block b hbl).trans hb,Ft,hs,hD⟩
 exact z117 {L with} F n h10 hro hn l Bm o b nn D0 J hY W hJ ((hW.cell (p:=⟨Bm,o,none⟩) hBm).trans hm) hown' h0
end
section
variable{P:Program}{ρ:Rho}{h:Hp}{w:World}
theorem zmx:∀{es:List (MV×MV)}{rs:List MapEntry}{ks:List Int},zde es=some ks→ERel ρ es rs→rs.map (·.key)=ks.map (Value.int .i64)∧∀n∈ks,-9223372036854775808≤n∧n≤9223372036854775807
 | [],_,ks,hk,hr=>by
  cases hr;cases hk;exact⟨rfl,fun _ h=>by cases h⟩
 | (k,v)::es,_,ks,hk,hr=>by
  cases hr with
  | cons _ _ e _ rs hk1 hv1 hr=>
  cases k with
  | int kd n=>
   cases kd with
   | i64=>
    simp only[zde]at hk;split at hk
    ·rename_i hc;cases hks:zde es with
     | none=>rw[hks]at hk;cases hk
     | some ks'=>
      rw[hks]at hk;cases hk;obtain⟨h1,h2⟩:=zmx hks hr;refine⟨?_,fun m hm=>?_⟩
      ·have:e.key=.int .i64 n:=by
        generalize e.key=y at hk1;cases hk1;rfl
       show e.key::rs.map (·.key)=Value.int .i64 n::ks'.map (Value.int .i64);rw[h1,this]
      ·rcases List.mem_cons.1 hm with rfl | hm
       ·exact hc
       ·exact h2 m hm
    ·cases hk
   | _=>cases hk
  | _=>cases hk
abbrev zgq:Value→Option (DataW Unit×List MemPlace):=fun _=>some (.nil,[])
theorem z118{n:Int}(h : -9223372036854775808≤n∧n≤9223372036854775807):(Lit.int .i64 n).wf=true:=by
 simp[Lit.wf,IntKind.min,IntKind.max,IntKind.signed,IntKind.bits];omega
theorem z119{k:TypeId}(hk:P.underlying k=some (.int .i64)){b:Nat}{rs:Array MapEntry}{ck:Nat}(hb:w.heap[b]? = some (.map rs ck))(hs:MapKept.Stamped rs ck){ks:List Int}(h1:rs.toList.map (·.key)=ks.map (Value.int .i64))(h2:∀n∈ks,-9223372036854775808≤n∧n≤9223372036854775807)(hl:ks.length≤100000) :
  ∃D0:DataW Unit,w.ownsMap P k zgq b ks.length D0∧(intKeys D0).Perm ks∧Maps.size D0=ks.length:=by
 have hlen:rs.toList.length=ks.length:=by simpa using congrArg List.length h1
 have hrd:∀x∈rs.toList,∃n,n∈ks∧x.key=.int .i64 n∧WideElems.rd P k zgq x=some (.int .i64 n,.nil):=fun x hx=>by
  have:x.key∈ks.map (Value.int .i64):=by rw[←h1];exact List.mem_map_of_mem hx
  obtain⟨n,hn,e⟩:=List.mem_map.1 this;refine⟨n,hn,e.symm,?_⟩;have:=WideElems.rd_mk (P:=P) (k:=k) (R:=zgq) (key:=x.key) (val:=x.val) (born:=x.born) (kl :=.int .i64 n) (yv:=(.nil,[])) (by rw[←e];exact keyOf_int_mk hk (z118 (h2 n hn))) rfl
  exact this
 have hrg:(rs.toList.map (WideElems.rg P k zgq)).map (fun p=>Go.intOf p.1)=ks:=by
  have e1:∀(l:List MapEntry)(ks:List Int),l.map (·.key)=ks.map (Value.int .i64)→(∀n∈ks,-9223372036854775808≤n∧n≤9223372036854775807)→(l.map (WideElems.rg P k zgq)).map (fun p=>Go.intOf p.1)=ks:=by
   intro l;induction l with
   | nil=>intro ks h _;cases ks<;>simp_all
   | cons x l ih=>
    intro ks h hr;cases ks with
    | nil=>simp at h
    | cons n ks=>
     simp only[List.map_cons,List.cons.injEq]at h;obtain⟨h3,h4⟩:=h;have:WideElems.rd P k zgq x=some (.int .i64 n,.nil):=WideElems.rd_mk (P:=P) (k:=k) (R:=zgq) (key:=x.key) (val:=x.val) (born:=x.born) (kl :=.int .i64 n) (yv:=(.nil,[])) (by rw[h3];exact keyOf_int_mk hk (z118 (hr n (List.mem_cons_self ..)))) rfl
     rw[List.map_cons,List.map_cons,WideElems.rg_of this,ih ks h4 fun m hm=>hr m (List.mem_cons_of_mem _ hm)];rfl
  exact e1 _ _ h1 h2
 refine⟨.map ((rs.toList.map (WideElems.rg P k zgq)).foldr DataW.insert []),⟨rs,ck,hb,⟨?_,hs,fun x hx=>?_⟩,?_,rfl⟩,?_,?_⟩
 ·have:(100000:Nat)≤maxLen:=by decide
  have:rs.size=ks.length:=by simpa using hlen
  omega
 ·obtain⟨n,_,_,h⟩:=hrd x hx;exact⟨_,h⟩
 ·have:rs.size=ks.length:=by simpa using hlen
  omega
 ·show(List.map (fun p:Lit×DataW Unit=>Go.intOf p.1) _).Perm ks;have:=(WideShapes.sorted_perm (rs.toList.map (WideElems.rg P k zgq))).map fun p:Lit×DataW Unit=>Go.intOf p.1
  rwa [hrg]at this
 ·show List.length _=_;rw[DataW.length_sorted,List.length_map];exact hlen
abbrev z16l(ρ:Rho)(h:Hp)(w:World)(v:MV)(h':Hp):Ending→World→Prop:=fun en w'=>∃rv ρ',en=.returned rv∧VRel ρ' v rv∧HRel ρ' h' w'.heap∧HStp ρ h w ρ' h' w'
theorem HRel.below'(k:HRel ρ h w.heap){w':World}(b:Below w.heap.size w w'):HRel ρ h w'.heap∧HStp ρ h w ρ h w':=by
 refine⟨⟨k.dom,k.live,k.inj,fun c rb e=>?_,k.gl⟩,Ext.refl _,b.os,b.tape,b.output,b.size,⟨Nat.le_refl _,fun _ _ e =>.inl e⟩,fun r hr _=>b.block r hr,fun _ f =>.inl f,fun _ f =>.inl f⟩;by_cases hd:z1o h c
 ·unfold z1o at hd;rw[hd];trivial
 ·exact(k.blk c rb e).heap (b.block _ (k.lt e hd))
theorem zr0{rK rS:Go.Shelf.Ren}(LK:SlLaysZI.n10 P rK)(LS:SlLaysZI.n6 P rS)(hsort:∀m,AnyZI.SortsIn P rS Fence.wide m)(e9:∀args w,(callFunc (rS.f 9) args).run P w=.ok (.enter (rS.f 9) args) w)(k:HRel ρ h w.heap){seq:MV}{x:Value}(hx:VRel ρ seq x){t:Sl}{h':Hp}(e:za6 (rK.f 10) seq h=some (t,h')) :
  Calls P (rS.f 6) #[x] w (z16l ρ h w (.sl t.p t.len 1) h'):=by
 unfold za6 at e;split at e
 case h_2=>cases e
 rename_i g a;split at e
 case isFalse=>cases e
 rename_i hg;subst hg;split at e
 case h_2=>cases e
 rename_i cs ro hcs;split at e
 case h_2=>cases e
 rename_i b hb;split at e
 case h_2=>cases e
 rename_i es hes;cases hx with
 | fn _ _ vs hvs=>
 cases hvs with
 | cons _ y _ ys hy hys=>
 cases hys;cases hy with
 | ptr _ rb hrb=>
 have hbk:=k.blk _ _ hrb;rw[hcs]at hbk;obtain⟨c,el,fz,h1,h2,h3,h4,_⟩:=hbk;obtain⟨y,hy,hyr⟩:=h4 _ _ hb;cases hyr with
 | map _ rm hrm=>
 have hbm:=k.blk _ _ hrm;rw[hes]at hbm;obtain⟨rs,ck,h5,h6,h7⟩:=hbm;have hcell:w.cell? ⟨rb.r,rb.o+a.off,none⟩=some (.map (some rm.r)):=by
  simp only[World.cell?,h1];simpa using hy
 have hBm:rb.r<w.heap.size:=(Array.getElem?_eq_some_iff.1 h1).1;have main:∀ks,zde es=some ks→ks.length≤100000→Calls P (rS.f 6) #[.func (.func (rK.f 10)) #[] #[.pointer (some ⟨rb.r,rb.o+a.off,none⟩)]] w fun en w'=>∃(v:Value)(ss:List Int),en=.returned v∧ss.Perm ks∧w'.ownsRow w.heap.size (rS.t 26) 1 v ss.length ((ss.mergeSort (fun x y=>decide (x≤y))).map encZ)∧(v=.slice none 0 0↔ss=[])∧Below w.heap.size w w':=by
  intro ks hks hl;obtain⟨k1,k2⟩:=zmx hks h6;obtain⟨D0,o1,o2,o3⟩:=z119 (P:=P) (k:=rK.t 26) LK.t26 h5 h7 k1 k2 hl;have hseq:SeqGives Fence.wide 3 P (rK.f 10) #[.pointer (some ⟨rb.r,rb.o+a.off,none⟩)] encZ (fun ss=>ss.Perm (intKeys D0)) (Maps.size D0) w:=zt1 LK Fence.wide 3 trivial rfl (by omega) rb.r (rb.o+a.off) rm.r _ D0 w hBm hcell o1;have cS:=AnyZI.sorted_in LS Fence.wide 6 trivial trivial trivial trivial rfl (by omega) (hsort _) e9 (rK.f 10) #[.pointer (some ⟨rb.r,rb.o+a.off,none⟩)] trivial (LK.f10.enters rfl) _ (Maps.size D0) (by rw[o3];exact Nat.le_trans hl (by decide)) (by rw[o3];omega) w hseq;refine((callsIn_wide (n:=6)).1 cS).mono ?_;rintro en w' ⟨v,ss,rfl,hS,hrow,hnil,hbel⟩
  exact⟨v,ss,rfl,hS.trans o2,hrow,hnil,hbel⟩
 split at e
 ·rename_i hks;cases e;refine(main [] hks (by simp)).mono ?_;rintro en w' ⟨v,ss,rfl,hS,hrow,hnil,hbel⟩
  obtain rfl:ss=[]:=List.Perm.eq_nil hS;obtain rfl:=hnil.2 rfl;obtain⟨g1,g2⟩:=k.below' hbel;exact⟨_,ρ,rfl,.slNil _,g1,g2⟩
 ·rename_i ks hks hne;split at e
  case isFalse=>cases e
  rename_i hl;cases e;refine(main ks hne hl).mono ?_;rintro en w' ⟨v,ss,rfl,hS,hrow,hnil,hbel⟩
  have hss:ss≠[]:=by
   rintro rfl
   exact hks (List.Perm.nil_eq hS).symm
  have elen:ss.length=ks.length:=hS.length_eq;rw[mergeSort_of_perm_i hS]at hrow;rcases hrow.2 with⟨hv,_⟩ | ⟨gb,cap,cur,rfl,hbase,hgb,q1,q2,q3,q4⟩
  ·exact absurd (hnil.1 hv) hss
  have hml:maxLen≤9223372036854775807:=by decide
  have sl:(ks.mergeSort fun x y=>decide (x≤y)).length=ks.length:=List.length_mergeSort ..;obtain⟨g1,g2⟩:=k.new (w':=w') ⟨gb,0,cap⟩ (.cells ((ks.mergeSort fun x y=>decide (x≤y)).map (.int .i64)) false) (by
   rintro⟨b,q,e,hd,hr⟩
   have:=k.lt e hd
   dsimp only at hr;omega) hbel.size (fun j hj _=>hbel.block j hj) hbel.os hbel.tape hbel.output (by
    refine⟨cur,_,(0,0),hgb,by dsimp only;omega,by rw[List.length_map,sl];dsimp only;omega,fun i m hm=>?_,fun _ =>.inl rfl⟩;rw[List.getElem?_map]at hm;cases hx:(ks.mergeSort fun x y=>decide (x≤y))[i]? with
    | none=>rw[hx]at hm;cases hm
    | some z=>
     rw[hx]at hm;cases hm;have hi:=(List.getElem?_eq_some_iff.1 hx).1;have:=congrArg (fun l=>l[i]?) q4
     rw[List.getElem?_take,if_pos (by omega),List.getElem?_map,hx]at this;refine⟨.int .i64 z,?_,.int _ _⟩;rw[Nat.zero_add];simpa using this) (fun b q e hd=>k.lt e hd) hbase
  refine⟨_,_,rfl,?_,g1,g2⟩;rw[←elen];exact VRel.sl ⟨h.size,0⟩ ⟨gb,0,cap⟩ ss.length 1 cap ⟨gb,0,none⟩ (Rho.put_same _ _ _) q1 (.inr ⟨rfl,by dsimp only;omega⟩) (by omega)
 ·cases e
theorem zt2{rK rS:Go.Shelf.Ren}(LK:SlLaysZI.n10 P rK)(LS:SlLaysZI.n6 P rS)(hsort:∀m,AnyZI.SortsIn P rS Fence.wide m)(e9:∀args w,(callFunc (rS.f 9) args).run P w=.ok (.enter (rS.f 9) args) w):Sound P (rS.f 6) (z5o [.c .any] [.s 0 (.c (.sl 1))] fun a=>za6 (rK.f 10) a):=by
 refine⟨LS.f6.enters rfl,?_⟩;intro args v h h' e ρ w rargs kh hrel;simp only[Entry.run,z5o]at e;cases hd:HT.dec [.c .any] args with
 | none=>rw[hd]at e;cases e
 | some a=>
  rw[hd]at e;obtain⟨t,h1,e1,e2⟩:=z0f e;cases e2;have henc:=HT.enc_dec _ args a hd;subst henc;cases hrel with
  | cons _ x _ xs hx hxs=>
  cases hxs;exact zr0 LK LS hsort e9 kh hx e1
theorem zr1{rC:Go.Shelf.Ren}(L:SlLaysW.n5 P rC)(k:HRel ρ h w.heap){m:Option Nat}{x:Value}(hx:VRel ρ (.map m) x){t:Option Nat}{h':Hp}(e:zbi m h=some (t,h')):Calls P (rC.f 5) #[x] w (z16l ρ h w (.map t) h'):=by
 unfold zbi at e;cases hx with
 | mapNil=>
  cases e;refine(AnyW.maps_Clone_nil L w).mono ?_;rintro en w' ⟨rfl,rfl⟩
  exact⟨_,ρ,rfl,.mapNil,k,HStp.refl _ _ _⟩
 | map b rb hb=>
  dsimp only at e;split at e
  case h_2=>cases e
  rename_i es hes;cases e;have hbk:=k.blk _ _ hb;rw[hes]at hbk;obtain⟨rs,ck,h1,h2,h3⟩:=hbk;refine(AnyW.maps_Clone L rb.r rs ck w h1).mono ?_;rintro en w' ⟨rfl,rfl⟩
  obtain⟨g1,g2⟩:=k.alloc (.map es) (by simp) 0 (.map rs ck) (w.alloc (.map rs ck)) rfl rfl rfl rfl (fun ρ' hx=>⟨rs,ck,heap_alloc_new _ _,h2.mono hx,h3⟩);exact⟨_,_,rfl,.map h.size _ (Rho.put_same _ _ _),g1,g2⟩
theorem zr2{rC:Go.Shelf.Ren}(L:SlLaysW.n5 P rC):Sound P (rC.f 5) (z5o [.c .map] [.s 0 (.c .map)] fun a=>zbi a):=by
 refine⟨L.f5.enters rfl,?_⟩;intro args v h h' e ρ w rargs kh hrel;simp only[Entry.run,z5o]at e;cases hd:HT.dec [.c .map] args with
 | none=>rw[hd]at e;cases e
 | some a=>
  rw[hd]at e;obtain⟨t,h1,e1,e2⟩:=z0f e;cases e2;have henc:=HT.enc_dec _ args a hd;subst henc;cases hrel with
  | cons _ x _ xs hx hxs=>
  cases hxs;exact zr1 L kh hx e1
end
end Go.Mini
