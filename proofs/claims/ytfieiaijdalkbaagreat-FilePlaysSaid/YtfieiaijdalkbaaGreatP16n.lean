/- Layer 11: a block of 32 numbers of blocks. -/
import Derived.Test.YtfieiaijdalkbaaGreatP16j
namespace Go.Moat
open Go.Mini
structure TabOk(ps:List Nat):Prop where
 len:ps.length=32
 le:∀p∈ps,p≤512
def tabB(ps:List Nat):List UInt8:=lays 2 ps
theorem zbj{ps:List Nat}(h:TabOk ps):(tabB ps).length=64:=by rw[tabB,z2n,h.len]
section
variable{N:Nat}{β:Type}{l:List HA}{S:β→HA}{T:HA}{s:Sl}{ps:List Nat}
theorem zl8(a b:List Nat):z1c (a++b)=z1c a++z1c b:=by simp[z1w]
theorem u64s_app'(a b:List Nat):z1q (a++b)=z1q a++z1q b:=by simp[z1q]
theorem zn1(h:TabOk ps)(hr:RdC T s 1 (z1c ps))(hN:5000<N):Tri (z00 [T]) (F_1s N s) fun r=>pu (r.2=0) (z00 [z06 r.1 1 (bytesOf (tabB ps)),T]):=by
 have hmost:most=70368744177664:=rfl;have h32:=h.len;have hlen:s.len=32:=by
  have:=hr.1
  rw[z1n]at this;omega
 unfold F_1s;refine z05 (by simp[hlen]) ?_;have loop:∀(K k:Nat)(o:Sl),32 - k<K→k≤32→Tri (z00 [z06 o 1 (z1q (ps.take k)),T]) (z0e K (F_5g N s) (o,(k:Int))) fun r=>exA fun o:Sl=>pu (r=.inl o) (z00 [z06 o 1 (z1q ps),T]):=by
  intro K;induction K with
  | zero=>intro k o h;omega
  | succ K ih=>
   intro k o hh hk;rw[z13];unfold F_5g;by_cases hkl:k<32
   ·have hkp:k<ps.length:=by omega
    have hle:=h.le _ (List.getElem_mem hkp);refine z07 (by simp[hlen];omega) ?_;refine z0c 0 rfl fun lo=>?_;rw[z45,List.length_take]at lo;refine z2a 1 rfl hr (i:=k) (k :=.i64) (v:=(ps[k]:Nat)) (by simp[z1w,hkp]) ?_;unfold F_0d;refine z0j (z05 (by simp;omega) ?_);rw[z6d (n:=(ps[k]:Int)) (by omega) (by omega)];refine z0v fun b=>?_;refine z02 [1,0] (z3a (s:=o) (by':=8) (T:=pts b (.cells [.int .u64 (ps[k]:Int)] false)) (rd_pts0 (by simp)) (by omega) rfl (by dsimp only;omega)) fun o2=>z01 ?_;dsimp only[sel,rem,nth,del,cat,upd];rw[z09 (n:=(k:Int)+1) (by omega) (by omega)];refine z1u [0,1] (Tri.pre (ih (k+1) o2 (by omega) (by omega)) fun q hq=>z4k (fun q h=>?_) hq);have e:z1q (ps.take k)++[.int .u64 (ps[k]:Int)]=z1q (ps.take (k+1)):=by
     rw[List.take_add_one,List.getElem?_eq_getElem hkp,u64s_app'];rfl
    rw[←e];exact h
   ·obtain rfl:k=32:=by omega
    refine z05 (by simp[hlen]) (z03 [0,0] fun q hq=>⟨o,rfl,?_⟩);rw[List.take_of_length_le (by omega)]at hq;exact hq
 refine z02 [0] ((loop N 0 ⟨none,0⟩ (by omega) (by omega)).pre fun q hq=>z2h (fun q h =>.nil 1 h) hq) fun j=>z12 fun o=>z04 fun hj=>z01 ?_;subst hj;dsimp only[sel,rem,nth,del,cat,upd];refine z0c 0 rfl fun lj=>?_;refine z02 [0] (z8m (size:=2) (ns:=ps) (by omega) (by omega) (z0k lj) (fun x hx=>by have:=h.le x hx;have:(256:Nat)^2=65536:=rfl;omega) (by omega) hN) fun r10=>z04 fun h10=>z01 ?_;dsimp only[sel,rem,nth,del,cat,upd];exact z03 [0,1] fun q hq=>⟨h10,hq⟩
theorem zr3(h:TabOk ps)(hr:RdC T s 1 (bytesOf (tabB ps)))(hN:5000<N):Tri (z00 [T]) (F_2x N s) fun r=>pu (r.2=0) (z00 [z06 r.1 1 (z1c ps),T]):=by
 have hmost:most=70368744177664:=rfl;have h32:=h.len;have hl64:=zbj h;have hlen:=z4m hr;have hch:z4c 2 32 (tabB ps)=ps:=by
  have:=zcc (size:=2) ps fun x hx=>by have:=h.le x hx;have:(256:Nat)^2=65536:=rfl;omega
  rw[h32]at this;exact this
 unfold F_2x;refine z02 [0] (zeq (size:=2) (k:=32) hr (by omega) (by omega) (by omega) (by omega) hN) fun r2=>z04 fun h2=>z01 ?_;rw[hch];dsimp only[sel,rem,nth,del,cat,upd];refine z05 (by rw[h2,hlen,hl64];simp) ?_;refine z0c 0 rfl fun l2=>?_;have l2':=l2;rw[z45]at l2';have loop:∀(K k:Nat)(o:Sl),32 - k<K→k≤32→Tri (z00 [z06 o 1 (z1c (ps.take k)),z06 r2.1 1 (z1q ps)]) (z0e K (F_5f N r2) (o,(k:Int))) fun r=>exA fun o:Sl=>pu (r=.inl o) (z00 [z06 o 1 (z1c ps)]):=by
  intro K;induction K with
  | zero=>intro k o h;omega
  | succ K ih=>
   intro k o hh hk;rw[z13];unfold F_5f;by_cases hkl:k<32
   ·have hkp:k<ps.length:=by omega
    have hle:=h.le _ (List.getElem_mem hkp);refine z07 (by simp;omega) ?_;refine z0c 0 rfl fun lo=>?_;rw[z1n,List.length_take]at lo;refine z2a 1 rfl (z0k l2) (i:=k) (k :=.u64) (v:=(ps[k]:Nat)) (by simp[z1q,hkp]) ?_;rw[z09 (n:=(ps[k]:Int)) (by omega) (by omega)];unfold F_0d;refine z0j (z05 (by simp;omega) ?_);refine z0v fun b=>?_;refine z02 [1,0] (z3a (s:=o) (by':=8) (T:=pts b (.cells [.int .i64 (ps[k]:Int)] false)) (rd_pts0 (by simp)) (by omega) rfl (by dsimp only;omega)) fun o2=>z01 ?_;dsimp only[sel,rem,nth,del,cat,upd];rw[z09 (n:=(k:Int)+1) (by omega) (by omega)];refine z1u [0,1] (Tri.pre (ih (k+1) o2 (by omega) (by omega)) fun q hq=>z4k (fun q h=>?_) hq);have e:z1c (ps.take k)++[.int .i64 (ps[k]:Int)]=z1c (ps.take (k+1)):=by
     rw[List.take_add_one,List.getElem?_eq_getElem hkp,zl8];rfl
    rw[←e];exact h
   ·obtain rfl:k=32:=by omega
    refine z05 (by simp;omega) (z03 [0] fun q hq=>⟨o,rfl,?_⟩);rw[List.take_of_length_le (by omega)]at hq;exact hq
 refine z02 [0] ((loop N 0 ⟨none,0⟩ (by omega) (by omega)).pre fun q hq=>z2h (fun q h =>.nil 1 h) hq) fun j=>z12 fun o=>z04 fun hj=>z01 ?_;subst hj;dsimp only[sel,rem,nth,del,cat,upd];exact z03 [0,0] fun q hq=>⟨rfl,hq⟩
end
end Go.Moat

/- Layer 16: a file that is open. -/
namespace Go.Moat
open Go.Mini
def z1k(v:Nat)(i:Int)(n:Ino)(a:Nat):List MV:=[.ptr (some ⟨v,0⟩),.int .i64 i]++z16 n++[.int .u16 a]
theorem z7j(v:Nat)(i:Int)(n:Ino)(a:Nat):(z1k v i n a).length=17:=by simp[z1k,z0n]
section
variable{N:Nat}{β:Type}{l:List HA}{S:β→HA}{T:HA}{v d:Nat}{g:Geo}{V:VolS}
theorem z96(hg:g.ok)(ok:MetaOk g V.n.m)(i:Int):Tri (z00 [z0l v d g V]) (F_0p N (some ⟨v,0⟩) i) fun r=>exA fun o:Nat=>pu (r=if V.n.m.hasE i=0 then(some ⟨o,0⟩,0)else(none,V.n.m.hasE i)) (z00 [z0l v d g V,if V.n.m.hasE i=0 then pts o (.cells (z1k v i (V.n.m.inodeN i) (V.n.m.inodeL i)) false)else emp]):=by
 unfold F_0p;refine z02 [0] (zf4 hg ok i) fun r3=>z04 fun h3=>z01 ?_;subst h3;dsimp only[sel,rem,nth,del,cat,upd];rw[z9g];refine zac ?_;have ef:∀(n:Ino)(a:Nat),z2d ([MV.ptr none,MV.int IntKind.i64 0,MV.int IntKind.u8 0,MV.int IntKind.u8 0]++z0t 12 [MV.int IntKind.i64 0]++[MV.int IntKind.u16 0]) [(0,none,MV.ptr (some ⟨v,0⟩)),(1,none,MV.int IntKind.i64 i),(2,some 14,MV.agg (z16 n)),(16,none,MV.int IntKind.u16 (a:Int))]=some (z1k v i n a):=by
  intro n a;obtain⟨k,r,xs,hx⟩:=n;match xs,hx with
  | [a,b,c,d,e,f,g,h,i,j,p,q],_=>rfl
 by_cases hE:V.n.m.hasE i=0
 ·refine z05 (by simpa using hE) (zj1 ?_);rw[ef];refine zcv (z0v fun o=>z03 [1,0] fun q hq=>⟨o,by rw[if_pos hE],?_⟩);rw[if_pos hE];exact hq
 ·refine z07 (by simpa using hE) (z03 [0] fun q hq=>⟨0,by rw[if_neg hE],?_⟩);rw[if_neg hE];exact z1g (fun q hq=>z2h (fun q h=>h) hq) hq
end
end Go.Moat

/- Layer 16: an open file's tables. -/
namespace Go.Moat
open Go.Mini
section
variable{N:Nat}{β:Type}{l:List HA}{S:β→HA}{T:HA}{v d o:Nat}{g:Geo}{V:VolS}
def zjv(g:Geo)(V:VolS)(p:Nat)(ps:List Nat):Prop:=TabOk ps∧if p=0 then ps=List.replicate 32 0 else V.readE g ((p - 1:Nat):Int)=0∧V.readB g ((p - 1:Nat):Int)=tabB ps
theorem z9n(hg:g.ok){i:Int}{n:Ino}{a p:Nat}{ps:List Nat}(hp:p≤512)(h:zjv g V p ps)(hN:5000<N) :
  Tri (z00 [z0l v d g V,pts o (.cells (z1k v i n a) false)]) (F_0q N (some ⟨o,0⟩) (p:Int)) fun r=>pu (r.2=0) (z00 [z06 r.1 1 (z1c ps),z0l v d g V,pts o (.cells (z1k v i n a) false)]):=by
 obtain⟨ht,h⟩:=h;unfold F_0q;by_cases hp0:p=0
 ·rw[if_pos hp0]at h;subst h;refine z07 (by simp[hp0]) ?_;refine z5e (g:=fun b=>(⟨some ⟨b,0⟩,32⟩:Sl)) (x :=.cells (z1c (List.replicate 32 0)) false) (fun h'=>?_) fun b=>?_
  ·unfold mkSl;rw[if_pos ⟨by omega,by omega,by have:most=70368744177664:=rfl;omega,rfl⟩];rfl
  ·refine z03 [0,0,0] fun q hq=>⟨rfl,?_⟩;exact z4r (.cons (fun _ k =>.mk (by rw[z1n];simp) k) (.cons (fun _ k=>k) (.cons (fun _ k=>k) .nil))) q hq
 ·rw[if_neg hp0]at h;obtain⟨hre,hrb⟩:=h;refine z05 (by simp;omega) ?_;refine z0r (z0b (z3r 1 rfl rfl ?_));have e1:wr .i64 ((p:Int) - 1)=((p - 1:Nat):Int):=by rw[z09 (by omega) (by omega)];omega
  rw[e1];refine z02 [0] (zdh hg ((p - 1:Nat):Int)) fun r7=>z04 fun h7=>z01 ?_;rw[hre]at h7;rw[if_pos hre,hrb];dsimp only[sel,rem,nth,del,cat,upd];refine z05 (by rw[h7];simp) ?_;refine z0c 1 rfl fun l7=>?_;refine z02 [1] (zr3 ht (z0k l7) hN) fun r8=>z04 fun h8=>z01 ?_;dsimp only[sel,rem,nth,del,cat,upd];exact z03 [0,1,1] fun q hq=>⟨h8,hq⟩
end
end Go.Moat

/- Layer 16: where a block of a file is told of. -/
namespace Go.Moat
open Go.Mini
def z3h(k:Nat):Nat:=if k<8 then 6+k else if k<40 then 14 else 15
def z6v(k:Nat):List Nat:=if k<8 then[]else if k<40 then[k - 8]else[(k - 40) / 32,(k - 40)%32]
section
variable{N:Nat}{β:Type}{l:List HA}{S:β→HA}{T:HA}{o:Nat}
theorem zu8{k:Nat}(hk:k<60):Tri (z00 []) (F_1q N (some ⟨o,0⟩) (k:Int)) fun r=>pu (r.1=some ⟨o,z3h k⟩) (z00 [z06 r.2 1 (z1c (z6v k))]):=by
 unfold F_1q F_4j z3h z6v;rw[if_neg (by simp;omega)];by_cases h8:k<8
 ·rw[if_pos (by simp;omega),if_pos h8,if_pos h8];refine z0j (z07 rfl (z0r (z0b (z0b ?_))));refine ztu (a:=some ⟨o,6+k⟩) (fun h=>?_) (z03 [] fun q hq=>⟨rfl,z2h (fun q h =>.nil 1 h) hq⟩);show(if 0≤(k:Int)∧(k:Int)<(8:Nat)then ret (some (MA.add ⟨o,0+2+4⟩ ((k:Int).toNat * 1)))else z0h) h=_;rw[if_pos (by omega),Int.toNat_natCast,Nat.mul_one];rfl
 ·rw[if_neg (by simp;omega),if_neg h8,if_neg h8];by_cases h40:k<40
  ·rw[if_pos (by simp;omega),if_pos h40,if_pos h40];refine z0j (z05 (by simp) (z07 rfl (z0r (z0b (z0b (z0v fun b=>z03 [0] fun q hq=>⟨rfl,?_⟩))))));have e:wr .i64 ((k:Int) - 8)=((k - 8:Nat):Int):=by rw[z09 (by omega) (by omega)];omega
   dsimp only at hq;rw[e]at hq;exact z4r (.cons (fun _ k =>.mk rfl k) .nil) q hq
  ·rw[if_neg (by simp;omega),if_neg h40,if_neg h40];refine z0j (z05 (by simp) (z05 (by simp) (z0r (z0b (z0b (z0v fun b=>z03 [0] fun q hq=>⟨rfl,?_⟩))))));have e:wr .i64 ((k:Int) - 40)=((k - 40:Nat):Int):=by rw[z09 (by omega) (by omega)];omega
   have e1:((k - 40:Nat):Int).tdiv 32=(((k - 40) / 32:Nat):Int):=rfl;have e2:((k - 40:Nat):Int).tmod 32=(((k - 40)%32:Nat):Int):=rfl;dsimp only at hq;rw[e,e1,e2,z09 (by omega) (by omega)]at hq;exact z4r (.cons (fun _ k =>.mk rfl k) .nil) q hq
end
end Go.Moat

/- Layer 16: a block of a file is found. -/
namespace Go.Moat
open Go.Mini
inductive WalkTo(g:Geo)(V:VolS):Nat→List Nat→Nat→Prop
 | nil (p:Nat):WalkTo g V p [] p
 | cons (p k:Nat) (ks:List Nat) (q:Nat) (ps:List Nat) (hp:p≤512) (hk:k<32) (ht:zjv g V p ps) (h:WalkTo g V (ps[k]?.getD 0) ks q):WalkTo g V p (k::ks) q
section
variable{N:Nat}{β:Type}{l:List HA}{S:β→HA}{T:HA}{v d o:Nat}{g:Geo}{V:VolS}
theorem z12c(hg:g.ok){i:Int}{n:Ino}{a:Nat}{r3:Option MA×Sl}{pl:List Nat}(hl:r3.2.len=pl.length)(hpl:pl.length≤2)(h32:∀x∈pl,x<32)(hN:5000<N) :
  ∀(K j p q:Nat),pl.length - j<K→j≤pl.length→WalkTo g V p (pl.drop j) q →
  Tri (z00 [z06 r3.2 1 (z1c pl),z0l v d g V,pts o (.cells (z1k v i n a) false)]) (z0e K (F_5h N (some ⟨o,0⟩) r3) ((p:Int),(j:Int))) fun r=>pu (r=.inl (q:Int)) (z00 [z0l v d g V,pts o (.cells (z1k v i n a) false)]):=by
 intro K;induction K with
 | zero=>intro j p q h;omega
 | succ K ih=>
  intro j p q h hj hw;rw[z13];unfold F_5h;by_cases hjl:j<pl.length
  ·refine z07 (by simp[hl];omega) ?_;rw[List.drop_eq_getElem_cons hjl]at hw;cases hw with
   | cons _ _ _ _ ps hp hk ht hw2=>
    have hps:pl[j]<ps.length:=by rw[ht.1.len];exact hk
    refine z0c 0 rfl fun l3=>?_;refine z2a 0 rfl (z0k l3) (i:=j) (k :=.i64) (v:=(pl[j]:Nat)) (by simp[z1w,hjl]) ?_;refine z02 [1,1] (z9n (ps:=ps) hg hp ht hN) fun r10=>z04 fun h10=>z01 ?_;dsimp only[sel,rem,nth,del,cat,upd];refine z05 (by rw[h10];simp) ?_;refine z0c 0 rfl fun l10=>?_;refine z2a 0 rfl (z0k l10) (i:=pl[j]) (k :=.i64) (v:=(ps[pl[j]]:Nat)) (by simp[z1w,hps]) ?_;rw[z09 (n:=(j:Int)+1) (by omega) (by omega)];rw[List.getElem?_eq_getElem hps]at hw2;exact z1u [3,1,1] (ih (j+1) ps[pl[j]] q (by omega) (by omega) hw2)
  ·obtain rfl:j=pl.length:=by omega
   rw[List.drop_length]at hw;cases hw;exact z05 (by simp[hl]) (z03 [1,1] fun q hq=>⟨rfl,hq⟩)
theorem z7f{i:Int}{n:Ino}{a j:Nat}(hj:j<12):(z1k v i n a)[4+j]? = some (.int .i64 (n.at j)):=by
 unfold z1k;have h:=z76 n hj;have hl:=(List.getElem?_eq_some_iff.1 h).1;rw[List.getElem?_append_left (by simp[z0n];omega),List.getElem?_append_right (by simp;omega)];rw[show 4+j - [MV.ptr (some ⟨v,0⟩),MV.int .i64 i].length=j+2 by simp;omega];exact h
theorem zj4(hg:g.ok){i:Int}{n:Ino}{a k p q:Nat}(hk:k<60)(hp:n.at (z3h k - 4)=p)(hw:WalkTo g V p (z6v k) q)(hN:5000<N) :
  Tri (z00 [z0l v d g V,pts o (.cells (z1k v i n a) false)]) (F_0r N (some ⟨o,0⟩) (k:Int)) fun r=>pu (r=((q:Int),0)) (z00 [z0l v d g V,pts o (.cells (z1k v i n a) false)]):=by
 have hO:4≤z3h k∧z3h k - 4<12:=by
  unfold z3h;split
  ·omega
  ·split<;>omega
 have hP:(z6v k).length≤2∧∀x∈z6v k,x<32:=by
  unfold z6v;split
  ·simp
  ·split
   ·simp;omega
   ·simp;omega
 unfold F_0r;refine z02 [] (zu8 (o:=o) hk) fun r3=>z04 fun h3=>z01 ?_;dsimp only[sel,rem,nth,del,cat,upd];rw[h3];refine z0r ?_;refine tri_ldI 2 rfl (by rw[show z3h k=4+(z3h k - 4) by omega];exact z7f hO.2) ?_;rw[hp];refine z0c 0 rfl fun l3=>?_;rw[z1n]at l3;refine z02 [0,0,0] (z12c hg (r3:=r3) (pl:=z6v k) (by omega) hP.1 hP.2 hN N 0 p q (by omega) (by omega) (by rw[List.drop_zero];exact hw)) fun j=>z04 fun hj=>z01 ?_;subst hj;dsimp only[sel,rem,nth,del,cat,upd];exact z03 [0,0] fun q hq=>⟨rfl,hq⟩
end
end Go.Moat

/- Layer 16: a block is taken. -/
namespace Go.Moat
open Go.Mini
section
variable{N:Nat}{β:Type}{l:List HA}{S:β→HA}{T:HA}{v d o:Nat}{g:Geo}{V:VolS}
theorem z15q{p:Nat}(hp:p≠0):F_0e N (some ⟨o,0⟩) (p:Int)=ret ((p:Int),0):=by
 unfold F_0e;rw[if_pos (by simp;omega)]
theorem z15r(hg:g.ok)(ok:MetaOk g V.n.m){i:Int}{n:Ino}{a:Nat}(ha:a<65536)(hN:5000<N) :
  Tri (z00 [z0l v d g V,pts o (.cells (z1k v i n a) false)]) (F_0e N (some ⟨o,0⟩) 0) fun r=>pu (r=(wr .i64 ((V.n.m.alloc g a).1.1+1),(V.n.m.alloc g a).1.2)) (z00 [z0l v d g (V.wM (V.n.m.alloc g a).2),pts o (.cells (z1k v i n a) false)]):=by
 unfold F_0e;refine z05 (by simp) ?_;refine z0r (z0b (z3r 1 rfl rfl ?_));have g16:(z1k v i n a)[0+16]? = some (.int .u16 (a:Int)):=by
  unfold z1k;rw[List.getElem?_append_right (by simp[z0n])];simp[z0n]
 refine z0r (z0b (tri_ldI 1 rfl g16 ?_));refine z02 [0] (zvq hg ok ha hN) fun r9=>z04 fun h9=>z01 ?_;subst h9;dsimp only[sel,rem,nth,del,cat,upd];exact z03 [0,0] fun q hq=>⟨rfl,hq⟩
end
end Go.Moat

/- Layer 16: a file's inode is set; a block of it is read. -/
namespace Go.Moat
open Go.Mini
section
variable{N:Nat}{β:Type}{l:List HA}{S:β→HA}{T:HA}{v d o:Nat}{g:Geo}{V:VolS}
theorem z15s(v:Nat)(i:Int)(n:Ino)(a:Nat):((z1k v i n a).drop 2).take 14=z16 n:=by
 unfold z1k;rw[List.append_assoc];show List.take 14 (z16 n++[.int .u16 a])=_;exact List.take_left' (z0n _)
theorem zqd(hg:g.ok)(ok:MetaOk g V.n.m){i:Int}{n:Ino}{a:Nat}(hN:5000<N) :
  Tri (z00 [z0l v d g V,pts o (.cells (z1k v i n a) false)]) (F_1w N (some ⟨o,0⟩)) fun r=>pu (r=V.n.m.setE i n) (z00 [z0l v d g (if V.n.m.setE i n=0 then V.wM (V.n.m.set i.toNat n)else V),pts o (.cells (z1k v i n a) false)]):=by
 unfold F_1w;refine z0r (z0b (z3r 1 rfl rfl ?_));refine z0r (z0b (tri_ldI 1 rfl rfl ?_));refine z0r (z0b (z5f 1 rfl (by rw[z7j];omega) ?_));rw[Nat.zero_add,z15s];refine z02 [0] (z12a hg ok i n hN) fun r11=>z04 fun h11=>z01 ?_;dsimp only[sel,rem,nth,del,cat,upd];exact z03 [0,0] fun q hq=>⟨h11,hq⟩
end
end Go.Moat
