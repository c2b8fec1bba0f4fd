/- Layer 11: inodes. -/
import Derived.Test.YtfieiaijdalkbaaGreatP16a
import Derived.Test.YtfieiaijdalkbaaGreatMLW
import Derived.Test.YtfieiaijdalkbaaGreatD16
namespace Go.Mini
section
variable{β:Type}{l:List HA}{S:β→HA}
theorem z1a7(is:List Nat){b c:Nat}{x y:Blk}{m:M β}(hs:sel is l=[pts b x,pts c y])(k:b≠c→Tri (z00 l) m S):Tri (z00 l) m S:=by
 rintro h q hq hh
 have hq2:=hq;rw[z7i is l,hs]at hq2;obtain⟨q1,q2,h1,_⟩:=hq2;have h3:z18 (pts b x) (pts c y) q1:=by
  have:z00 [pts b x,pts c y]=z18 (pts b x) (pts c y):=by
   show z18 _ (z18 _ emp)=_;rw[star_emp]
  rwa [this]at h1
 exact k (z1ac h3) h q hq hh
end
end Go.Mini
namespace Go.Moat
open Go.Mini
def z1w(xs:List Int):List MV:=xs.map (.int .i64)
theorem z9u(xs:List Int):(z1w xs).length=xs.length:=by simp[z1w]
theorem ziq(xs:List Int):(z1w xs).all z10=true:=by simp[z1w,z10]
theorem zld{xs:List Int}{i:Nat}(h:i<xs.length):(z1w xs)[i]? = some (.int .i64 xs[i]):=by simp[z1w,h]
structure Ino where
 k:Nat
 r:Nat
 xs:{l:List Int // l.length=12}
 deriving DecidableEq
def Ino.z:Ino:=⟨0,0,⟨List.replicate 12 0,by simp⟩⟩
def z16(n:Ino):List MV :=.int .u8 n.k :: .int .u8 n.r::z1w n.xs.1
theorem z0n(n:Ino):(z16 n).length=14:=by simp[z16,z9u,n.xs.2]
theorem z8l(n:Ino):(z16 n).all z10=true:=by
 unfold z16;rw[List.all_cons,List.all_cons,ziq];rfl
theorem z9g:([MV.int .u8 (0:Int),MV.int .u8 (0:Int)]++z0t 12 [MV.int .i64 (0:Int)])=z16 Ino.z:=rfl
def Ino.at(n:Ino)(i:Nat):Int:=n.xs.1[i]?.getD 0
def z6c(p:Int):Bool:=decide (0≤p)&&decide (p≤512)
def Ino.ok(n:Ino):Bool:=decide (n.k<3)&&(decide (n.k≠0) || decide (n=Ino.z))&&decide (n.r<16)&&(decide (0≤n.at 0)&&decide (n.at 0≤65535))&&(decide (0≤n.at 1)&&decide (n.at 1≤3840))&&(n.xs.1.drop 2).all z6c
theorem Ino.get_at(n:Ino){i:Nat}(h:i<12):n.xs.1[i]? = some (n.at i):=by
 unfold Ino.at;rw[List.getElem?_eq_getElem (by rw[n.xs.2];exact h)];rfl
theorem z76(n:Ino){i:Nat}(h:i<12):(z16 n)[i+2]? = some (.int .i64 (n.at i)):=by
 unfold z16 z1w;simp[n.get_at h]
theorem Ino.ext{n m:Ino}(hk:n.k=m.k)(hr:n.r=m.r)(h:∀i,i<12→n.at i=m.at i):n=m:=by
 obtain⟨k,r,xs,hx⟩:=n;obtain⟨k',r',xs',hx'⟩:=m;dsimp only at hk hr;subst hk hr;have:xs=xs':=by
  apply List.ext_getElem (by omega);intro i h1 h2;have:=h i (by omega)
  unfold Ino.at at this;simpa[h1,h2]using this
 subst this;rfl
section
variable{N:Nat}{β:Type}{l:List HA}{S:β→HA}{T:HA}{s:Sl}{n:Ino}
theorem eqZ(n:Ino):z9r [(0,.int .u8),(1,.int .u8),(2,.int .i64),(3,.int .i64),(4,.int .i64),(5,.int .i64),(6,.int .i64),(7,.int .i64),(8,.int .i64),(9,.int .i64),(10,.int .i64),(11,.int .i64),(12,.int .i64),(13,.int .i64)] (z16 n) (z16 Ino.z)=some (decide (n=Ino.z)):=by
 obtain⟨k,r,xs,hx⟩:=n;match xs,hx with
 | [a,b,c,d,e,f,g,h,i,j,p,q],_=>
  simp only[z16,z1w,Ino.z,z9r,eqC,List.getElem?_cons_zero,List.getElem?_cons_succ,List.map_cons,List.map_nil,List.replicate,and_self,if_true];congr 1;rw[Bool.eq_iff_iff];simp[Ino.mk.injEq]
theorem zvm(hN:20<N):z0e N (F_16 N (z1w (n.xs.1.drop 2 |>.take 8))) (0:Int)=ret (if(n.xs.1.drop 2 |>.take 8).all z6c then .inl ()else .inr false):=by
 have hl:(n.xs.1.drop 2 |>.take 8).length=8:=by simp[n.xs.2]
 generalize (n.xs.1.drop 2 |>.take 8)=ds at hl;have loop:∀(K j:Nat),8 - j<K→j≤8→z0e K (F_16 N (z1w ds)) (j:Int)=ret (if(ds.drop j).all z6c then .inl ()else .inr false):=by
  intro K;induction K with
  | zero=>intro j h;omega
  | succ K ih=>
   intro j h hj;rw[z13];unfold F_16;by_cases h8:j<8
   ·rw[if_pos (by simp;omega)];have e1:idxV 8 (z1w ds) (j:Int)=ret (.int .i64 ds[j]):=by
     unfold idxV;rw[if_pos (by omega),Int.toNat_natCast,zld (by omega)];rfl
    rw[e1,List.drop_eq_getElem_cons (by omega),List.all_cons];show(if(!z6c ds[j])=true then _ else _)=_;cases hp:z6c ds[j]
    ·rfl
    ·rw[if_neg (by simp),z09 (by omega) (by omega)];exact ih (j+1) (by omega) (by omega)
   ·obtain rfl:j=8:=by omega
    rw[if_neg (by simp),List.drop_of_length_le (by omega)];rfl
 exact loop N 0 (by omega) (by omega)
theorem zcb(hN:20<N):F_0n N (z16 n)=ret n.ok:=by
 unfold F_0n;have g0:(z16 n)[0]? = some (.int .u8 n.k):=rfl;have g1:(z16 n)[1]? = some (.int .u8 n.r):=rfl;have g2:(z16 n)[2]? = some (.int .i64 (n.at 0)):=z76 n (i:=0) (by omega);have g3:(z16 n)[3]? = some (.int .i64 (n.at 1)):=z76 n (i:=1) (by omega);have g12:(z16 n)[12]? = some (.int .i64 (n.at 10)):=z76 n (i:=10) (by omega);have g13:(z16 n)[13]? = some (.int .i64 (n.at 11)):=z76 n (i:=11) (by omega);have e14:0+14≤(z16 n).length:=by rw[z0n];omega
 have t14:((z16 n).drop 0).take 14=z16 n:=by rw[List.drop_zero,List.take_of_length_le (by rw[z0n];omega)]
 have e8:4+8≤(z16 n).length:=by rw[z0n];omega
 have t8:((z16 n).drop 4).take 8=z1w (n.xs.1.drop 2 |>.take 8):=by simp[z16,z1w]
 rw[g0,g1,g2,g3,g12,g13,if_pos e14,t14,if_pos e8,t8,z9g];have hall:(n.xs.1.drop 2).all z6c=((n.xs.1.drop 2 |>.take 8).all z6c&&(z6c (n.at 10)&&z6c (n.at 11))):=by
  obtain⟨k,r,xs,hx⟩:=n;match xs,hx with
  | [a,b,c,d,e,f,g,h,i,j,p,q],_=>simp[Ino.at,Bool.and_assoc]
 have lp:=zvm (n:=n) hN;show bd (if(decide ((3:Int)≤(n.k:Int)))=true then ret (decide ((3:Int)≤(n.k:Int)))else(bd (if(decide ((n.k:Int)=0))=true then z19 (z9r _ (z16 n) (z16 Ino.z)) (fun z=>ret (!z))else ret false) fun c8=>bd (if c8=true then ret c8 else ret (decide ((16:Int)≤(n.r:Int)))) fun j=>ret j)) (fun j12=>if j12=true then ret false else bd (if decide (n.at 0<0)=false then ret (decide (65535<n.at 0))else ret true) fun c17=>bd (if c17=false then ret (decide (n.at 1<0))else ret true) fun c20=>bd (if c20=false then ret (decide (3840<n.at 1))else ret true) fun c23=>if c23=true then ret false else bd (show M (Unit⊕Bool)from z0e N (F_16 N (z1w (n.xs.1.drop 2 |>.take 8))) (0:Int)) fun j30=>match j30 with
  | .inl _=>bd (if z6c (n.at 10)=true then ret (z6c (n.at 11))else ret false) fun c39=>ret c39
  | .inr j=>ret j)=ret n.ok
 rw[eqZ];show bd (if(decide ((3:Int)≤(n.k:Int)))=true then ret (decide ((3:Int)≤(n.k:Int)))else(bd (if(decide ((n.k:Int)=0))=true then ret (!decide (n=Ino.z))else ret false) fun c8=>bd (if c8=true then ret c8 else ret (decide ((16:Int)≤(n.r:Int)))) fun j=>ret j)) (fun j12=>if j12=true then ret false else bd (if decide (n.at 0<0)=false then ret (decide (65535<n.at 0))else ret true) fun c17=>bd (if c17=false then ret (decide (n.at 1<0))else ret true) fun c20=>bd (if c20=false then ret (decide (3840<n.at 1))else ret true) fun c23=>if c23=true then ret false else bd (z0e N (F_16 N (z1w (n.xs.1.drop 2 |>.take 8))) (0:Int)) fun j30=>match j30 with
  | .inl _=>bd (if z6c (n.at 10)=true then ret (z6c (n.at 11))else ret false) fun c39=>ret c39
  | .inr j=>ret j)=ret n.ok
 rw[lp];unfold Ino.ok;rw[hall];have br:∀{α γ:Type}(a:α)(f:α→M γ),bd (ret a) f=f a:=fun a f=>rfl;by_cases c1:n.k<3
 case neg=>simp[show(3:Int)≤(n.k:Int) by omega,br,c1]
 have f1:¬(3:Int)≤(n.k:Int):=by omega
 by_cases c2:(n.k≠0∨n=Ino.z)
 case neg=>
  rw[not_or]at c2;have k0:n.k=0:=Classical.not_not.1 c2.1;simp[k0,c2.2,br]
 have f2:(if(decide ((n.k:Int)=0))=true then(ret (!decide (n=Ino.z)))else ret false:M Bool)=ret false:=by
  split
  ·rename_i hk;have:n=Ino.z:=c2.resolve_left fun c=>c (by simpa using hk)
   simp[this]
  ·rfl
 have f4:(decide (n.k≠0) || decide (n=Ino.z))=true:=by simpa using c2
 rw[f2,f4];by_cases c3:n.r<16
 case neg=>simp[f1,br,c3,show(16:Int)≤(n.r:Int) by omega]
 have f3:¬(16:Int)≤(n.r:Int):=by omega
 by_cases c4:0≤n.at 0
 case neg=>simp[f1,f3,br,c4,show n.at 0<0 by omega]
 by_cases c5:n.at 0≤65535
 case neg=>simp[f1,f3,br,c5,show ¬n.at 0<0 by omega,show(65535:Int)<n.at 0 by omega]
 by_cases c6:0≤n.at 1
 case neg=>simp[f1,f3,br,c6,show ¬n.at 0<0 by omega,show ¬(65535:Int)<n.at 0 by omega,show n.at 1<0 by omega]
 by_cases c7:n.at 1≤3840
 case neg=>simp[f1,f3,br,c7,show ¬n.at 0<0 by omega,show ¬(65535:Int)<n.at 0 by omega,show ¬n.at 1<0 by omega,show(3840:Int)<n.at 1 by omega]
 simp only[f1,f3,decide_false,Bool.false_eq_true,if_false,br,show ¬n.at 0<0 by omega,show ¬(65535:Int)<n.at 0 by omega,show ¬n.at 1<0 by omega,show ¬(3840:Int)<n.at 1 by omega,if_true];cases ha:(n.xs.1.drop 2 |>.take 8).all z6c
 ·simp[br]
 ·cases hb:z6c (n.at 10)<;>cases hc:z6c (n.at 11)<;>simp[br,c1,c3,c4,c5,c6,c7]
def z3i(n:Ino):List Nat:=(n.k+256 * n.r)::n.xs.1.map Int.toNat
def z4t(n:Ino):List UInt8:=z2g (lays 2 (z3i n)) 32
theorem z7h(n:Ino):(z3i n).length=13:=by simp[z3i,n.xs.2]
theorem zwx(n:Ino):z4t n=lays 2 (z3i n++[0,0,0]):=by
 unfold z4t z2g;rw[zto,z2n,z7h];rfl
theorem z2v(n:Ino):(z4t n).length=32:=by rw[zwx,z2n,List.length_append,z7h];rfl
structure Ino.Ok(n:Ino):Prop where
 k:n.k<3
 z:n.k=0→n=Ino.z
 r:n.r<16
 l0:0≤n.at 0
 l1:n.at 0≤65535
 s0:0≤n.at 1
 s1:n.at 1≤3840
 p:∀i,2≤i→i<12→0≤n.at i∧n.at i≤512
theorem Ino.ok_iff:n.ok=true↔n.Ok:=by
 unfold Ino.ok;simp only[Bool.and_eq_true,Bool.or_eq_true,decide_eq_true_eq,List.all_eq_true];constructor
 ·rintro⟨⟨⟨⟨⟨h1,h2⟩,h3⟩,h4,h5⟩,h6,h7⟩,h8⟩
  refine⟨h1,fun c=>h2.resolve_left fun d=>d c,h3,h4,h5,h6,h7,fun i hi h12=>?_⟩;have hm:n.at i∈n.xs.1.drop 2:=by
   refine List.mem_of_getElem? (i:=i - 2) ?_;rw[List.getElem?_drop,show 2+(i - 2)=i by omega];exact n.get_at h12
  have:=h8 _ hm
  unfold z6c at this;simpa using this
 ·rintro⟨h1,h2,h3,h4,h5,h6,h7,h8⟩
  refine⟨⟨⟨⟨⟨h1,?_⟩,h3⟩,h4,h5⟩,h6,h7⟩,fun x hx=>?_⟩
  ·by_cases c:n.k=0
   ·exact .inr (h2 c)
   ·exact .inl c
  ·obtain⟨i,hi,rfl⟩:=List.mem_iff_getElem.1 hx;have hl:=n.xs.2;rw[List.length_drop,hl]at hi;have:=h8 (i+2) (by omega) (by omega)
   have e:(n.xs.1.drop 2)[i]'(by rw[List.length_drop,hl];exact hi)=n.at (i+2):=by
    unfold Ino.at;rw[List.getElem?_eq_getElem (by omega)];simp[Nat.add_comm]
   rw[e];unfold z6c;simpa using this
theorem Ino.Ok.rng(h:n.Ok){i:Nat}(hi:i<12):0≤n.at i∧n.at i≤65535:=by
 by_cases c:2≤i
 ·have:=h.p i c hi
  omega
 ·have:i=0∨i=1:=by omega
  rcases this with rfl | rfl
  ·exact⟨h.l0,h.l1⟩
  ·have:=h.s1
   exact⟨h.s0,by omega⟩
theorem z_ok:Ino.z.Ok:=Ino.ok_iff.1 (by decide)
theorem z156(h:n.Ok):∀x∈z3i n++[0,0,0],x<256^2:=by
 intro x hx;rcases List.mem_append.1 hx with hx | hx
 ·rcases List.mem_cons.1 hx with rfl | hx
  ·have:=h.k
   have:=h.r
   omega
  ·obtain⟨y,hy,rfl⟩:=List.mem_map.1 hx;obtain⟨i,hi,rfl⟩:=List.mem_iff_getElem.1 hy;have hl:=n.xs.2;have:=h.rng (i:=i) (by omega)
   have e:n.xs.1[i]=n.at i:=by
    have:=n.get_at (i:=i) (by omega)
    rw[List.getElem?_eq_getElem hi]at this;exact Option.some.inj this
   rw[e];omega
 ·simp at hx;omega
theorem z11l{i:Nat}(hi:i<12):(z3i n++[0,0,0])[i+1]? = some (n.at i).toNat:=by
 rw[List.getElem?_append_left (by rw[z7h];omega)];unfold z3i;rw[List.getElem?_cons_succ,List.getElem?_map,n.get_at hi];rfl
def z9m(n:Ino)(m:Nat):List MV :=.int .u8 n.k :: .int .u8 n.r::z1w (n.xs.1.take m++List.replicate (12 - m) 0)
theorem za9(n:Ino)(m:Nat)(h:m≤12):(z9m n m).length=14:=by
 simp[z9m,z9u,n.xs.2];omega
theorem zir(n:Ino){m:Nat}(h:m<12):(z9m n m).set (m+2) (.int .i64 (n.at m))=z9m n (m+1):=by
 have hl:=n.xs.2;have hg:n.xs.1[m]'(by omega)=n.at m:=by
  have:=n.get_at h
  rw[List.getElem?_eq_getElem (by omega)]at this;exact Option.some.inj this
 unfold z9m;rw[List.set_cons_succ,List.set_cons_succ];congr 2;unfold z1w;rw[List.map_append,List.map_append,List.set_append_right _ _ (by simp[hl];omega),List.length_map,List.length_take,hl,Nat.min_eq_left (by omega),Nat.sub_self,List.take_succ_eq_append_getElem (by omega),hg,show 12 - m=(12 - (m+1))+1 by omega,List.replicate_succ];simp
theorem z11m(n:Ino):z9m n 12=z16 n:=by
 unfold z9m z16;rw[List.take_of_length_le (by rw[n.xs.2];omega)];simp
theorem zcs{cs vs:List MV}(h:vs.length=cs.length):z11 cs 0 vs=vs:=by
 unfold z11;simp[h]
theorem zym(h:n.Ok)(hr:RdC T s 1 (bytesOf (z4t n)))(hN:5000<N):Tri (z00 [T]) (F_2k N s) fun r=>pu (r=(z16 n,0)) (z00 [T]):=by
 have hlen:s.len=32:=by
  have:=hr.1
  rw[z0d,z2v]at this;omega
 unfold F_2k;refine z02 [0] (zeq (size:=2) (k:=16) hr (by omega) (by omega) (by rw[z2v]) (by rw[z2v];omega) hN) fun r=>z04 fun hr2=>z01 ?_;dsimp only[sel,rem,nth,del,cat,upd];have e16:z4c 2 16 (z4t n)=z3i n++[0,0,0]:=by
  have:=zcc (size:=2) (z3i n++[0,0,0]) (z156 h)
  rw[List.length_append,z7h]at this;rw[zwx];exact this
 rw[e16];have hL:(z3i n++[0,0,0]).length=16:=by rw[List.length_append,z7h];rfl
 refine z05 (by simp[hr2,hlen]) ?_;obtain⟨rs,re⟩:=r;dsimp only;refine z93 0 rfl (fun h1 h2=>?_) fun b ln h1 h2=>?_
 ·have:=congrArg List.length h2
  rw[z45,hL]at this;cases this
 subst h1;rw[z45,hL,Nat.mul_one]at h2;subst h2;dsimp only[sel,rem,nth,del,cat,upd];have g:∀i(hi:i<16),(z1q (z3i n++[0,0,0]))[0+i * 1]? = some (.int .u64 ((z3i n++[0,0,0])[i]'(by omega):Nat)):=by
  intro i hi;rw[Nat.zero_add,Nat.mul_one];unfold z1q;rw[List.getElem?_map,List.getElem?_eq_getElem (by omega)];rfl
 have hk:=h.k;have hrr:=h.r;have v0:(z3i n++[0,0,0])[0]'(by omega)=n.k+256 * n.r:=rfl;have vi:∀i(hi:i<12),(z3i n++[0,0,0])[i+1]'(by omega)=(n.at i).toNat:=by
  intro i hi;have:=z11l (n:=n) hi
  rw[List.getElem?_eq_getElem (by omega)]at this;exact Option.some.inj this
 have vz:∀i(hi:i<3),(z3i n++[0,0,0])[i+13]'(by omega)=0:=by
  intro i hi;rw[List.getElem_append_right (by rw[z7h];omega)];simp only[z7h,Nat.add_sub_cancel];match i,hi with
  | 0,_=>rfl
  | 1,_=>rfl
  | 2,_=>rfl
 refine z2l (i:=0) (by omega) (tri_ldI 0 rfl (g 0 (by omega)) ?_);refine z2l (i:=0) (by omega) (tri_ldI 0 rfl (g 0 (by omega)) ?_);refine z2l (i:=1) (by omega) (tri_ldI 0 rfl (g 1 (by omega)) ?_);refine z2l (i:=2) (by omega) (tri_ldI 0 rfl (g 2 (by omega)) ?_);refine z0v fun c=>?_;rw[v0,vi 0 (by omega),vi 1 (by omega)];have r0:=h.rng (i:=0) (by omega);have r1:=h.rng (i:=1) (by omega);have e0:wr .u8 ((n.k+256 * n.r:Nat):Int)=(n.k:Int):=by
  rw[z11q rfl];show(((n.k+256 * n.r)%256:Nat):Int)=_;congr 1;omega
 have e1:wr .u8 (zbc .u64 ((n.k+256 * n.r:Nat):Int) (8:Int))=(n.r:Int):=by
  have:=zfs (k :=.u64) (a:=n.k+256 * n.r) (j:=8) (by decide)
  rw[show((8:Nat):Int)=8 from rfl]at this;rw[this,show(n.k+256 * n.r) / 2^8=n.r by omega,zes rfl (by show n.r<256;omega)]
 rw[e0,e1,Int.toNat_of_nonneg r0.1,Int.toNat_of_nonneg r1.1,z09 (by omega) (by omega),z09 (by omega) (by omega)];have eup:([MV.int .u8 (n.k:Int),MV.int .u8 (n.r:Int),MV.int .i64 (n.at 0),MV.int .i64 (n.at 1)]++z0t 10 [MV.int .i64 (0:Int)])=z9m n 2:=by
  have hl:=n.xs.2;unfold z9m;have:n.xs.1.take 2=[n.at 0,n.at 1]:=by
   obtain⟨k,r,xs,hx⟩:=n;match xs,hx with
   | [a,b,c,d,e,f,g,h,i,j,p,q],_=>rfl
  rw[this,ze5];rfl
 rw[eup,z9g];refine z50 0 rfl (za9 n 2 (by omega)) (by rw[za9 n 2 (by omega),z0n];omega) (by
  unfold z9m;rw[List.all_cons,List.all_cons,ziq];rfl) ?_
 rw[zcs (by rw[za9 n 2 (by omega),z0n])];dsimp only[sel,rem,nth,del,cat,upd];refine z3t (lo:=3) (hi:=16) (by omega) (by omega) (by dsimp only;omega) ?_;have es:z2w 1 ⟨some ⟨b,0⟩,16⟩ (3:Int).toNat (16:Int).toNat=⟨some ⟨b,3⟩,13⟩:=rfl;rw[es];have g3:∀i(hi:i<13),(z1q (z3i n++[0,0,0]))[3+i * 1]? = some (.int .u64 ((z3i n++[0,0,0])[i+3]'(by omega):Nat)):=by
  intro i hi;have:=g (i+3) (by omega)
  rw[show 0+(i+3) * 1=3+i * 1 by omega]at this;exact this
 have loop:∀(K j:Nat),8 - j<K→j≤8→Tri (z00 [pts c (.cells (z9m n (j+2)) false),pts b (.cells (z1q (z3i n++[0,0,0])) false),T]) (z0e K (F_50 N (some ⟨c,0⟩) ⟨some ⟨b,3⟩,13⟩) (j:Int)) fun _=>z00 [pts c (.cells (z9m n 10) false),pts b (.cells (z1q (z3i n++[0,0,0])) false),T]:=by
  intro K;induction K with
  | zero=>intro j h;omega
  | succ K ih=>
   intro j hK hj;rw[z13];unfold F_50;by_cases h8:j<8
   ·refine z07 (by simp;omega) ?_;refine z2l (i:=j) (by omega) (tri_ldI 1 rfl (g3 j (by omega)) ?_);refine z0b ?_;have ei:idxA 8 1 (some ⟨c,0+4⟩) (j:Int)=ret (some ⟨c,0+4+j * 1⟩):=by
     unfold idxA;dsimp only;rw[if_pos (by omega),Int.toNat_natCast];rfl
    rw[ei];refine z0j (z21 0 rfl (by rw[za9 n _ (by omega)];omega) rfl ?_);dsimp only[sel,rem,nth,del,cat,upd];have rj:=h.rng (i:=j+2) (by omega);rw[vi (j+2) (by omega),Int.toNat_of_nonneg rj.1,z09 (n:=n.at (j+2)) (by omega) (by omega),show 0+4+j * 1=j+2+2 by omega,zir n (by omega),z09 (by omega) (by omega)];exact ih (j+1) (by omega) (by omega)
   ·obtain rfl:j=8:=by omega
    exact z05 (by simp) (z1m fun q hq=>hq)
 refine z02 [0,0,0] (loop N 0 (by omega) (by omega)) fun _=>z01 ?_;dsimp only[sel,rem,nth,del,cat,upd];refine z8q fun _=>?_;refine z2l (i:=8) (by omega) (tri_ldI 1 rfl (g3 8 (by omega)) ?_);refine z2l (i:=9) (by omega) (tri_ldI 1 rfl (g3 9 (by omega)) ?_);refine z0b ?_;have r10:=h.rng (i:=10) (by omega);have r11:=h.rng (i:=11) (by omega);rw[vi 10 (by omega),vi 11 (by omega),Int.toNat_of_nonneg r10.1,Int.toNat_of_nonneg r11.1,z09 (by omega) (by omega),z09 (by omega) (by omega)];refine z21 0 rfl (by rw[za9 n _ (by omega)];omega) rfl ?_;refine z0b ?_;rw[show 0+12=10+2 from rfl,zir n (by omega)];dsimp only[sel,rem,nth,del,cat,upd];refine z21 0 rfl (by rw[za9 n _ (by omega)];omega) rfl ?_;rw[show 0+13=11+2 from rfl,zir n (by omega),z11m];dsimp only[sel,rem,nth,del,cat,upd];refine z1a7 [1,0] rfl fun hbc=>?_;have hap:zme (Option.map MA.blk (some ⟨b,3+9 * 1⟩)) (Option.map MA.blk (some (⟨c,10+2⟩:MA)))=true:=by
  show(!(Nat.beq b c))=true;have:Nat.beq b c=false:=by
   cases hb:Nat.beq b c with
   | false=>rfl
   | true=>exact absurd (Nat.eq_of_beq_eq_true hb) hbc
  rw[this];rfl
 rw[hap,cond_true];refine z3t (lo:=10) (hi:=13) (by omega) (by omega) (by dsimp only;omega) ?_;have es2:z2w 1 ⟨some ⟨b,3⟩,13⟩ (10:Int).toNat (13:Int).toNat=⟨some ⟨b,13⟩,3⟩:=rfl;rw[es2];have hcf:Tri (z00 [pts c (.cells (z16 n) false),pts b (.cells (z1q (z3i n++[0,0,0])) false),T]) (F_2j N ⟨some ⟨b,13⟩,3⟩ ()) fun r=>pu (r=false) (z00 [pts c (.cells (z16 n) false),pts b (.cells (z1q (z3i n++[0,0,0])) false),T]):=by
  unfold F_2j F_4c;refine z02 [0,0,0] (ze7 (A:=z00 [pts c (.cells (z16 n) false),pts b (.cells (z1q (z3i n++[0,0,0])) false),T]) (fun x:Nat=>decide (x≠0)) [0,0,0] (by simp;omega) (fun rec i hi Q k=>?_) fun rec Q k=>?_) fun r=>z04 fun h=>z01 (z03 [0,0,0] fun q hq=>⟨by rw[h];rfl,hq⟩)
  ·unfold F_4z;have hi3:i<3:=hi;refine z07 (by simp;omega) ?_;refine z2l (i:=i) hi3 (tri_ldI 1 rfl (v:=0) (by
    have:=g (i+13) (by omega)
    rw[vz i hi3,show 0+(i+13) * 1=13+i * 1 by omega]at this;exact this) ?_)
   unfold F_4b;refine z0j (z05 (by simp) ?_);rw[z09 (by omega) (by omega)];have:(decide (([0,0,0]:List Nat)[i]≠0))=false:=by
    match i,hi3 with
    | 0,_=>rfl
    | 1,_=>rfl
    | 2,_=>rfl
   rw[this]at k;exact k
  ·unfold F_4z;exact z05 (by simp) k
 refine z02 [0,0,0] hcf fun r29=>z04 fun h29=>z01 ?_;subst h29;dsimp only[sel,rem,nth,del,cat,upd];refine z02 [0,0,0] (Q:=fun c'=>pu (c'=false) (z00 [pts c (.cells (z16 n) false),pts b (.cells (z1q (z3i n++[0,0,0])) false),T])) ?_ fun c'=>z04 fun hc'=>z01 ?_
 ·refine z07 rfl (z5f 0 rfl (by rw[z0n];omega) ?_);rw[List.drop_zero,List.take_of_length_le (by rw[z0n];omega),zcb (by omega),Ino.ok_iff.2 h];exact z0j (z03 [0,0,0] fun q hq=>⟨rfl,hq⟩)
 ·subst hc';dsimp only[sel,rem,nth,del,cat,upd];refine z05 (by simp) (z5f 0 rfl (by rw[z0n];omega) ?_);rw[List.drop_zero,List.take_of_length_le (by rw[z0n];omega),if_pos ⟨z0n n,by rw[z0n];omega,z8l n⟩];refine z0j ?_;rw[zcs (by rw[z0n,z0n]),if_pos (by rw[z0n];omega),List.drop_zero,List.take_of_length_le (by rw[z0n];omega)];exact z0j (z03 [2] fun q hq=>⟨rfl,hq⟩)
end
end Go.Moat

/- Layer 14: what is known of a disk. -/
namespace Go.Moat
open Go.Mini
structure MetaS where
 rows:List Row
 own:List Nat
 used:List UInt8
 ino:List Ino
 deriving DecidableEq
structure MetaOk(g:Geo)(M:MetaS):Prop where
 rows:RowsOk M.rows
 ownl:M.own.length=g.G
 own16:∀o∈M.own,o≤16
 usedl:M.used.length=64
 used0:∀i,g.B≤i→z0y M.used i=false
 inol:M.ino.length=g.I
 inok:∀n∈M.ino,n.Ok
abbrev z1c(o:List Nat):List MV:=z1w (o.map fun(x:Nat)=>(x:Int))
theorem z1n(o:List Nat):(z1c o).length=o.length:=by simp[z9u]
abbrev z2m(l:List Ino):List MV:=z0x z16 l
def z40(rs:List Row):List Nat:=(rs.map fun r=>[r.1,r.2]).flatten
def z7x(rs:List Row):List UInt8:=lays 2 (z40 rs)
def zaz(o:List Nat):List UInt8:=z2g (o.map UInt8.ofNat) 64
def z7b:List Ino→List (List UInt8)
 | a::b::r=>(z4t a++z4t b)::z7b r
 | _=>[]
def z3b(M:MetaS):List (List UInt8):=z7x M.rows::zaz M.own::M.used::z7b M.ino
theorem z5w:∀(rs:List Row),(z40 rs).length=rs.length * 2
 | []=>rfl
 | r::rs=>by
  have:=z5w rs
  unfold z40 at this ⊢;simp only[List.map_cons,List.flatten_cons,List.length_append,this,List.length_cons,List.length_nil];omega
theorem zq6{rs:List Row}{i:Nat}(h:i<rs.length):(z40 rs)[2 * i]? = some rs[i].1∧(z40 rs)[2 * i+1]? = some rs[i].2:=by
 induction rs generalizing i with
 | nil=>simp at h
 | cons r rs ih=>
  cases i with
  | zero=>exact⟨rfl,rfl⟩
  | succ i=>
   have:=ih (i:=i) (by simpa using h)
   rw[show 2 * (i+1)=(2 * i)+2 by omega,show 2 * i+2+1=(2 * i+1)+2 by omega];simpa[z40]using this
theorem z15j{rs:List Row}(ok:RowsOk rs):∀x∈z40 rs,x<256^2:=by
 intro x hx;obtain⟨y,hy,hxy⟩:=List.mem_flatten.1 hx;obtain⟨r,hr,rfl⟩:=List.mem_map.1 hy;have:=ok.rng r hr
 simp at hxy;omega
theorem z5q:∀(l:List Ino),(z7b l).length=l.length / 2
 | []=>rfl
 | [_]=>by simp[z7b]
 | a::b::r=>by
  simp only[z7b,List.length_cons,z5q r];omega
theorem zb0:∀{l:List Ino}{i:Nat}(h:2 * i+1<l.length),(z7b l)[i]? = some (z4t l[2 * i]++z4t l[2 * i+1])
 | [],i,h=>by simp at h
 | [_],i,h=>by simp at h
 | a::b::r,0,h=>rfl
 | a::b::r,i+1,h=>by
  have:=zb0 (l:=r) (i:=i) (by simp at h;omega)
  simp only[z7b,List.getElem?_cons_succ,this];rfl
def z3u(ls:List (Sl×List UInt8)):List MV:=ls.map fun x =>.sl x.1.p x.1.len 1
theorem zh6(ls:List (Sl×List UInt8)):(z3u ls).length=ls.length:=by simp[z3u]
structure RdL(T:HA)(s:Sl)(ls:List (Sl×List UInt8)):Prop where
 hd:RdC T s 1 (z3u ls)
 el:∀x∈ls,RdC T x.1 1 (bytesOf x.2)
section
variable{N:Nat}{β:Type}{l:List HA}{S:β→HA}{T:HA}{s:Sl}
theorem RdL.len{ls:List (Sl×List UInt8)}(h:RdL T s ls):s.len=ls.length:=by
 have:=h.hd.1
 rw[zh6]at this;omega
theorem zg1(n:Nat)(hl:l[n]? = some T){ls:List (Sl×List UInt8)}(h:RdL T s ls){i:Nat}(hi:i<ls.length){f:Sl→M β}(kk:RdC T ls[i].1 1 (bytesOf ls[i].2)→Tri (z00 l) (f ls[i].1) S):Tri (z00 l) (bd (idx 1 s (i:Int)) fun q=>bd (ldL 1 q) f) S:=
 zn8 n hl h.hd (p:=ls[i].1.p) (ln:=ls[i].1.len) (by simp[z3u,hi]) (kk (h.el _ (List.getElem_mem hi)))
theorem zvo{rs:List Row}(ok:RowsOk rs)(hr:RdC T s 1 (bytesOf (z7x rs)))(hN:5000<N):Tri (z00 [T]) (F_2i N s) fun r=>pu (r.2=0) (z00 [z06 r.1 2 (z1t rs),T]):=by
 have h16:=ok.len;have hB:(z7x rs).length=64:=by rw[z7x,z2n,z5w,h16]
 unfold F_2i;refine z02 [0] (zeq (size:=2) (k:=32) hr (by omega) (by omega) (by rw[hB]) (by rw[hB];omega) hN) fun r=>z04 fun hr2=>z01 ?_;dsimp only[sel,rem,nth,del,cat,upd];have e32:z4c 2 32 (z7x rs)=z40 rs:=by
  have:=zcc (size:=2) (z40 rs) (z15j ok)
  rw[z5w,h16]at this;exact this
 rw[e32];refine z0c 0 rfl fun h0=>?_;rw[z45,z5w,h16]at h0;refine z05 (by simp[hr2];omega) ?_;have loop:∀(K j:Nat)(w:Sl),16 - j<K→j≤16→Tri (z00 [z06 w 2 (z1t (rs.take j)),z06 r.1 1 (z1q (z40 rs)),T]) (z0e K (F_4y N r) (w,((2 * j:Nat):Int))) fun w=>z00 [z06 w 2 (z1t rs),z06 r.1 1 (z1q (z40 rs)),T]:=by
  intro K;induction K with
  | zero=>intro j w h;omega
  | succ K ih=>
   intro j w h hj;rw[z13];unfold F_4y;by_cases hjk:j<16
   ·refine z07 (by simp;omega) ?_;have hjl:j<rs.length:=by omega
    have g1:(z1q (z40 rs))[2 * j]? = some (.int .u64 rs[j].1):=by unfold z1q;rw[List.getElem?_map,(zq6 hjl).1];rfl
    have g2:(z1q (z40 rs))[2 * j+1]? = some (.int .u64 rs[j].2):=by unfold z1q;rw[List.getElem?_map,(zq6 hjl).2];rfl
    have hro:RdC (z06 r.1 1 (z1q (z40 rs))) r.1 1 (z1q (z40 rs)):=z0k (by rw[z45,z5w,h16];omega);refine z2a 1 rfl hro g1 ?_;dsimp only;have e1:wr .i64 (((2 * j:Nat):Int)+1)=((2 * j+1:Nat):Int):=by rw[z09 (by omega) (by omega)];omega
    have e2:wr .i64 (((2 * j:Nat):Int)+2)=((2 * (j+1):Nat):Int):=by rw[z09 (by omega) (by omega)];omega
    rw[e1,e2];refine z2a 1 rfl hro g2 ?_;have hrng:=ok.rng _ (List.getElem_mem hjl);rw[wr16 (by omega) (by omega),z09 (by omega) (by omega)];refine z0v fun b=>?_;refine z0c 1 rfl fun hw=>?_;rw[z0u z2e,List.length_take]at hw;refine z02 [1,0] (z3a (T:=pts b (.cells (zlh rs[j]) false)) (ts:=zlh rs[j]) (rd_pts0 (by simp[zlh])) (by omega) (zj0 _) (by
     have:most=70368744177664:=rfl
     dsimp only;omega)) fun w'=>z01 ?_
    dsimp only[sel,rem,nth,del,cat,upd];have e3:z1t (rs.take j)++zlh rs[j]=z1t (rs.take (j+1)):=ziy hjl;rw[e3];exact z1u [0,1,1] (ih (j+1) w' (by omega) (by omega))
   ·obtain rfl:j=16:=by omega
    refine z05 (by simp;omega) (z1m fun q hq=>?_);rw[List.take_of_length_le (by omega)]at hq;exact hq
 refine Tri.pre (B:=z00 [z06 ⟨none,0⟩ 2 (z1t (rs.take 0)),z06 r.1 1 (z1q (z40 rs)),T]) ?_ fun q hq=>z2h (fun q h =>.nil 2 h) hq;refine z02 [0,0,0] (loop N 0 ⟨none,0⟩ (by omega) (by omega)) fun w=>z01 ?_;dsimp only[sel,rem,nth,del,cat,upd];refine z0c 0 rfl fun hw=>?_;refine z02 [0] (z86 ok (z0k hw) (by omega)) fun r=>z04 fun h=>z01 ?_;subst h;exact z05 (by simp) (z03 [0,1] fun q hq=>⟨rfl,hq⟩)
theorem z94(n:Nat)(hl:l[n]? = some T){is:List Ino}(hr:RdC T s 14 (z2m is)){i:Nat}(hi:i<is.length){f:List MV→M β}(kk:Tri (z00 l) (f (z16 is[i])) S):Tri (z00 l) (bd (idx 14 s (i:Int)) fun q=>bd (ldn 14 q) f) S:=
 z1af n hl hr (by have:=hr.1;rw[z0u z0n]at this;omega) (by rw[zdo z0n hi];exact kk)
theorem zu1{n m:Ino}{f:List MV→M β}{A:HA}(k:Tri A (f (z16 n)) S):Tri A (bd (if(z16 n).length=14∧0+14≤(z16 m).length∧(z16 n).all z10=true then ret ()else z0h) fun _=>bd (if 0+14≤(z11 (z16 m) 0 (z16 n)).length then ret (((z11 (z16 m) 0 (z16 n)).drop 0).take 14)else z0h) f) S:=by
 rw[if_pos ⟨z0n n,by rw[z0n];omega,z8l n⟩];refine z0j ?_;rw[zcs (by rw[z0n,z0n]),if_pos (by rw[z0n];omega),List.drop_zero,List.take_of_length_le (by rw[z0n];omega)];exact z0j k
theorem zac{n m:Ino}{f:Unit→M β}{A:HA}(k:Tri A (f ()) S):Tri A (bd (if(z16 n).length=14∧0+14≤(z16 m).length∧(z16 n).all z10=true then ret ()else z0h) f) S:=by
 rw[if_pos ⟨z0n n,by rw[z0n];omega,z8l n⟩];exact z0j k
theorem zj1{n m:Ino}{f:List MV→M β}{A:HA}(k:Tri A (f (z16 n)) S):Tri A (bd (if 0+14≤(z11 (z16 m) 0 (z16 n)).length then ret (((z11 (z16 m) 0 (z16 n)).drop 0).take 14)else z0h) f) S:=by
 rw[zcs (by rw[z0n,z0n]),if_pos (by rw[z0n];omega),List.drop_zero,List.take_of_length_le (by rw[z0n];omega)];exact z0j k
theorem zh7(n m:Ino):z11 (z16 m) 0 (z16 n)=z16 n:=zcs (by rw[z0n,z0n])
theorem zu2{is:List Ino}{ls:List (Sl×List UInt8)}(hok:∀n∈is,n.Ok)(h2:is.length%2=0)(h64:is.length≤64)(hr:RdL T s ls)(hls:ls.map (·.2)=z7b is)(hN:5000<N) :
  Tri (z00 [T]) (F_2l N s) fun r=>pu (r.2=true) (z00 [z06 r.1 14 (z2m is),T]):=by
 have hlen:=hr.len;have hl2:ls.length=is.length / 2:=by rw[←z5q,←hls,List.length_map]
 unfold F_2l;have step:∀(K:Nat)(w y:Sl)(m j:Nat)(hj:j<is.length)(Q:Sl⊕(Sl×Bool)→HA)(b0 b1:List UInt8),w.len=m→m≤100→RdC T y 1 (bytesOf (b0++z4t is[j]++b1))→y.len≤64→(b0.length=0∨b0.length=32) →
   (∀w',w'.len=m+1→Tri (z00 [z06 w' 14 (z2m (is.take j)++z16 is[j]),T]) (z0e K (F_25 N y) (w',((b0.length+32:Nat):Int))) Q) →
   Tri (z00 [z06 w 14 (z2m (is.take j)),T]) (z0e (K+1) (F_25 N y) (w,(b0.length:Int))) Q:=by
  intro K w y m j hj Q b0 b1 hw hm hy hy64 hb0 kk;have hyl:=z4m hy;rw[List.length_append,List.length_append,z2v]at hyl;rw[z13];unfold F_25;refine z07 (by simp;omega) ?_;dsimp only;have e1:wr .i64 ((b0.length:Int)+32)=((b0.length+32:Nat):Int):=by rw[z09 (by omega) (by omega)];omega
  rw[e1];refine z3t (by omega) (by omega) (by omega) ?_;have hs:=zbm hy (lo:=b0.length) (hi:=b0.length+32) (by omega) (by omega);rw[Int.toNat_natCast,Int.toNat_natCast];have e2:((b0++z4t is[j]++b1).drop b0.length).take (b0.length+32 - b0.length)=z4t is[j]:=by
   rw[List.append_assoc,List.drop_left,List.take_left' (by rw[z2v];omega)]
  rw[e2]at hs;have hokj:=hok _ (List.getElem_mem hj);refine z02 [1] (zym hokj hs hN) fun r=>z04 fun h=>z01 ?_;subst h;dsimp only[sel,rem,nth,del,cat,upd];rw[z9g];refine zac (z05 (by simp) (zj1 ?_));have e3:z2d (z16 Ino.z) [(0,some 14,.agg (z16 is[j]))]=some (z16 is[j]):=by
   simp only[z2d,z0n,Nat.zero_add,Nat.le_refl,and_self,if_true,zh7]
  rw[e3];refine zcv (z0v fun b=>?_);refine z0c 2 rfl fun hwl=>?_;rw[z0u z0n,List.length_take]at hwl;refine z02 [2,0] (z3a (T:=pts b (.cells (z16 is[j]) false)) (rd_pts0 (k:=1) (by rw[z0n])) (by omega) (z8l _) (by
   have:most=70368744177664:=rfl
   dsimp only;omega)) fun w'=>z01 ?_
  dsimp only[sel,rem,nth,del,cat,upd];refine z0c 0 rfl fun hwl'=>?_;rw[List.length_append,z0u z0n,z0n,List.length_take]at hwl';exact z1u [0,1] (kk w' (by omega))
 have loop:∀(K j:Nat)(w:Sl),ls.length - j<K→j≤ls.length→Tri (z00 [z06 w 14 (z2m (is.take (2 * j))),T]) (z0e K (F_51 N s) (w,(j:Int))) fun r=>exA fun w'=>pu (r=.inl w') (z00 [z06 w' 14 (z2m is),T]):=by
  intro K;induction K with
  | zero=>intro j w h;omega
  | succ K ih=>
   intro j w h hj;rw[z13];unfold F_51;by_cases hjk:j<ls.length
   ·refine z07 (by simp[hlen];omega) ?_;refine zg1 1 rfl hr hjk fun hy=>?_;have hg:ls[j].2=z4t (is[2 * j]'(by omega))++z4t (is[2 * j+1]'(by omega)):=by
     have h1:=zb0 (l:=is) (i:=j) (by omega);rw[←hls,List.getElem?_map,List.getElem?_eq_getElem hjk]at h1;exact Option.some.inj h1
    have hyl:=z4m hy;rw[hg,List.length_append,z2v,z2v]at hyl;obtain⟨K',hK'⟩:∃K',N=K'+3:=⟨N - 3,by omega⟩;refine z0c 0 rfl fun hw=>?_;rw[z0u z0n,List.length_take]at hw;refine z02 [0,0] (Q:=fun r=>exA fun w'=>pu (r=.inl w') (z00 [z06 w' 14 (z2m (is.take (2 * (j+1)))),T])) ?_ fun r=>z12 fun w'=>z04 fun hr'=>z01 ?_
    ·show Tri _ (z0e N _ _) _;conv=>arg 2;arg 1;rw[hK']
     refine step (K'+2) w ls[j].1 (2 * j) (2 * j) (by omega) _ [] (z4t (is[2 * j+1]'(by omega))) (by omega) (by omega) (by rw[List.nil_append,←hg];exact hy) (by omega) (.inl rfl) fun w1 hw1=>?_;have e1:z2m (is.take (2 * j))++z16 (is[2 * j]'(by omega))=z2m (is.take (2 * j+1)):=ziy (by omega);rw[e1];have hb:([]:List UInt8).length+32=(z4t (is[2 * j]'(by omega))).length:=by rw[z2v];rfl
     rw[hb];refine step (K'+1) w1 ls[j].1 (2 * j+1) (2 * j+1) (by omega) _ (z4t (is[2 * j]'(by omega))) [] (by omega) (by omega) (by rw[List.append_nil,←hg];exact hy) (by omega) (.inr (z2v _)) fun w2 hw2=>?_;have e2:z2m (is.take (2 * j+1))++z16 (is[2 * j+1]'(by omega))=z2m (is.take (2 * (j+1))):=ziy (by omega);rw[e2,z13];unfold F_25;refine z05 (by simp[z2v];omega) (z1m fun q hq=>⟨w2,rfl,hq⟩)
    ·subst hr';dsimp only;rw[z09 (by omega) (by omega)];exact ih (j+1) w' (by omega) (by omega)
   ·obtain rfl:j=ls.length:=by omega
    refine z05 (by simp[hlen]) (z1m fun q hq=>⟨w,rfl,?_⟩);rw[List.take_of_length_le (by omega)]at hq;exact hq
 refine Tri.pre (B:=z00 [z06 ⟨none,0⟩ 14 (z2m (is.take 0)),T]) ?_ fun q hq=>z2h (fun q h =>.nil 14 h) hq;refine z02 [0,0] (loop N 0 ⟨none,0⟩ (by omega) (by omega)) fun r=>z12 fun w'=>z04 fun hr'=>z01 ?_;subst hr';exact z03 [0,0] fun q hq=>⟨rfl,hq⟩
structure RdM(T:HA)(m:Sl×Sl×Sl×Sl)(M:MetaS):Prop where
 rows:RdC T m.1 2 (z1t M.rows)
 own:RdC T m.2.1 1 (z1c M.own)
 used:RdC T m.2.2.1 1 (bytesOf M.used)
 ino:RdC T m.2.2.2 14 (z2m M.ino)
theorem z128{bs:List UInt8}{lo hi:Nat}(h:∀i,lo≤i→z0y bs i=false):z6g bs lo hi=0:=by
 unfold z6g;rw[List.length_eq_zero_iff,List.filter_eq_nil_iff];intro i hi';rw[List.mem_range']at hi';obtain⟨k,hk,rfl⟩:=hi';simpa using h (lo+k) (by omega)
theorem zkp{g:Geo}{M:MetaS}{m:Sl×Sl×Sl×Sl}(hg:g.ok)(ok:MetaOk g M)(hr:RdM T m M)(hN:5000<N):Tri (z00 [T]) (F_1k N g.t m) fun r=>pu (r=true) (z00 [T]):=by
 have l2:m.2.1.len=M.own.length:=by
  have:=hr.own.1
  rw[z1n]at this;omega
 have l3:=z4m hr.used;have l4:m.2.2.2.len=M.ino.length:=by
  have:=hr.ino.1
  rw[z0u z0n]at this;omega
 have hgG:=hg.g2;have hgI:=hg.i2;have hgB:=hg.gp;unfold F_1k;have e:=ze8 (N:=N) hg;unfold Geo.t at e ⊢;rw[e];refine z0j ?_;refine z02 [0] (Q:=fun c=>pu (c=false) (z00 [T])) ?_ fun c=>z04 fun hc=>z01 ?_
 ·refine z07 rfl (z02 [0] (z86 ok.rows hr.rows (by omega)) fun r=>z04 fun h=>z01 (z03 [0] fun q hq=>⟨by rw[h];rfl,hq⟩))
 subst hc;dsimp only[sel,rem,nth,del,cat,upd];refine z05 (by simp[l2,l3,l4,ok.ownl,ok.usedl,ok.inol]) ?_;have loop1:∀(K j:Nat),M.own.length - j<K→j≤M.own.length→Tri (z00 [T]) (z0e K (F_53 N m) (j:Int)) fun r=>pu (r=.inl ()) (z00 [T]):=by
  intro K;induction K with
  | zero=>intro j h;omega
  | succ K ih=>
   intro j h hj;rw[z13];unfold F_53;by_cases hjk:j<M.own.length
   ·refine z07 (by simp[l2];omega) ?_;refine z2a 0 rfl hr.own (v:=(M.own[j]:Nat)) (k :=.i64) (by simp[z1w,hjk]) ?_;have:=ok.own16 _ (List.getElem_mem hjk)
    refine z05 (by simp;omega) ?_;rw[z09 (by have:=ok.ownl;omega) (by have:=ok.ownl;omega)];exact ih (j+1) (by omega) (by omega)
   ·obtain rfl:j=M.own.length:=by omega
    exact z05 (by simp[l2]) (z1m fun q hq=>⟨rfl,hq⟩)
 have loop2:∀(K j:Nat),M.ino.length - j<K→j≤M.ino.length→Tri (z00 [T]) (z0e K (F_54 N m) (j:Int)) fun r=>pu (r=.inl ()) (z00 [T]):=by
  intro K;induction K with
  | zero=>intro j h;omega
  | succ K ih=>
   intro j h hj;rw[z13];unfold F_54;by_cases hjk:j<M.ino.length
   ·refine z07 (by simp[l4];omega) ?_;refine z94 0 rfl hr.ino hjk ?_;rw[z9g];refine zu1 ?_;rw[zcb (by omega),Ino.ok_iff.2 (ok.inok _ (List.getElem_mem hjk))];refine z0j (z05 (by simp) ?_);rw[z09 (by have:=ok.inol;omega) (by have:=ok.inol;omega)];exact ih (j+1) (by omega) (by omega)
   ·obtain rfl:j=M.ino.length:=by omega
    exact z05 (by simp[l4]) (z1m fun q hq=>⟨rfl,hq⟩)
 refine z02 [0] (loop1 N 0 (by have:=ok.ownl;omega) (by omega)) fun r=>z04 fun h=>z01 ?_;subst h;dsimp only[sel,rem,nth,del,cat,upd];refine z02 [0] (loop2 N 0 (by have:=ok.inol;omega) (by omega)) fun r=>z04 fun h=>z01 ?_;subst h;dsimp only[sel,rem,nth,del,cat,upd];have e1:wr .i64 ((g.G:Int) * (g.P:Int))=(g.B:Int):=by
  have:(g.G:Int) * (g.P:Int)=((g.G * g.P:Nat):Int):=by simp
  rw[this,z09 (by omega) (by omega)];rfl
 have e2:wr .i64 ((8:Int) * (m.2.2.1.len:Int))=((8 * M.used.length:Nat):Int):=by
  rw[l3,ok.usedl];decide
 rw[e1,e2];refine z02 [0] (zh4 hr.used (by have:=ok.usedl;omega) (by have:=ok.usedl;unfold Geo.B;omega) (Nat.le_refl _) hN) fun r=>z04 fun h=>z01 (z03 [0] fun q hq=>⟨?_,hq⟩);rw[h,z128 ok.used0];rfl
theorem z1b0(x:UInt8):leN [x]=x.toNat:=by simp[leN]
theorem znd:∀(bs:List UInt8),z4c 1 bs.length bs=bs.map UInt8.toNat
 | []=>rfl
 | b::r=>by
  have:=znd r
  simp only[List.length_cons,z4c,List.take_succ_cons,List.take_zero,List.drop_succ_cons,List.drop_zero,z1b0,this,List.map_cons]
theorem zyw{g:Geo}{M:MetaS}{ls:List (Sl×List UInt8)}(hg:g.ok)(ok:MetaOk g M)(hr:RdL T s ls)(hls:ls.map (·.2)=z3b M)(hN:5000<N) :
  Tri (z00 [T]) (F_2m N g.t s) fun r=>pu (r.2=0) (z00 [z06 r.1.1 2 (z1t M.rows),z06 r.1.2.1 1 (z1c M.own),z06 r.1.2.2.1 1 (bytesOf M.used),z06 r.1.2.2.2 14 (z2m M.ino),T]):=by
 have hgG:=hg.g2;have hgI:=hg.i2;have hi3:=hg.i3;have hlen:=hr.len;have hll:ls.length=3+M.ino.length / 2:=by
  have:=congrArg List.length hls
  rw[List.length_map]at this;simp only[z3b,List.length_cons,z5q]at this;omega
 have hM:g.M=3+g.I / 2:=rfl;have hil:=ok.inol;have hol:=ok.ownl;have hul:=ok.usedl;have rB:(z7x M.rows).length=64:=by rw[z7x,z2n,z5w,ok.rows.len]
 have oB:(zaz M.own).length=64:=z2o (by rw[List.length_map];omega);have get:∀i(hi:i<ls.length),ls[i].2=(z3b M)[i]'(by rw[←hls,List.length_map];exact hi):=by
  intro i hi;simp[←hls]
 have b64:∀i(hi:i<ls.length),ls[i].2.length=64:=by
  intro i hi;rw[get i hi];match i,hi with
  | 0,_=>exact rB
  | 1,_=>exact oB
  | 2,_=>exact hul
  | i+3,hi=>
   have h1:=zb0 (l:=M.ino) (i:=i) (by omega);have h2:(z7b M.ino)[i]'(by rw[z5q];omega)=z4t (M.ino[2 * i]'(by omega))++z4t (M.ino[2 * i+1]'(by omega)):=by
    rw[List.getElem?_eq_getElem (by rw[z5q];omega)]at h1;exact Option.some.inj h1
   show((z7b M.ino)[i]'_).length=64;rw[h2,List.length_append,z2v,z2v]
 have sl64:∀i(hi:i<ls.length),ls[i].1.len=64:=by
  intro i hi;have:=z4m (hr.el _ (List.getElem_mem hi))
  rw[b64 i hi]at this;exact this
 unfold F_2m;have e:=ze8 (N:=N) hg;have e':=zfz (N:=N) hg;unfold Geo.t at e e' ⊢;rw[e,e'];refine z0j ?_;rw[if_pos (by simp)];refine z0j (z0j ?_);refine z05 (by simp;omega) ?_;have loop1:∀(K j:Nat),ls.length - j<K→j≤ls.length→Tri (z00 [T]) (z0e K (F_55 N s) ((j:Int),(⟨none,0⟩,⟨none,0⟩,⟨none,0⟩,⟨none,0⟩))) fun r=>pu (r=.inl (⟨none,0⟩,⟨none,0⟩,⟨none,0⟩,⟨none,0⟩)) (z00 [T]):=by
  intro K;induction K with
  | zero=>intro j h;omega
  | succ K ih=>
   intro j h hj;rw[z13];unfold F_55;by_cases hjk:j<ls.length
   ·refine z07 (by simp[hlen];omega) ?_;refine zg1 0 rfl hr hjk fun _=>?_;refine z05 (by rw[sl64 j hjk];simp) ?_;dsimp only;rw[z09 (by omega) (by omega)];exact ih (j+1) (by omega) (by omega)
   ·obtain rfl:j=ls.length:=by omega
    exact z05 (by simp[hlen]) (z1m fun q hq=>⟨rfl,hq⟩)
 refine z02 [0] (loop1 N 0 (by omega) (by omega)) fun r=>z04 fun h=>z01 ?_;subst h;dsimp only[sel,rem,nth,del,cat,upd];refine zg1 (i:=0) 0 rfl hr (by omega) fun h0=>?_;rw[get 0 (by omega)]at h0;refine z02 [0] (zvo ok.rows h0 hN) fun r15=>z04 fun h15=>z01 ?_;dsimp only[sel,rem,nth,del,cat,upd];refine z3t (lo:=3) (hi:=(s.len:Int)) (by omega) (by omega) (by omega) ?_;have hsub:RdL T (z2w 1 s 3 s.len) (ls.drop 3):=by
  refine⟨?_,fun x hx=>hr.el x (List.mem_of_mem_drop hx)⟩;have:=hr.hd.sub (lo:=3) (hi:=s.len) (by omega) (Nat.le_refl _)
  have e3:((z3u ls).drop (3 * 1)).take ((s.len - 3) * 1)=z3u (ls.drop 3):=by
   rw[List.take_of_length_le (by rw[List.length_drop,zh6];omega)];simp[z3u,List.map_drop]
  rwa [e3]at this
 rw[Int.toNat_natCast,show(3:Int).toNat=3 from rfl];have hls3:(ls.drop 3).map (·.2)=z7b M.ino:=by
  rw[List.map_drop,hls];rfl
 refine z02 [1] (zu2 ok.inok (by omega) (by omega) hsub hls3 hN) fun r17=>z04 fun h17=>z01 ?_;dsimp only[sel,rem,nth,del,cat,upd];refine z05 (by simp[h15,h17]) ?_;refine zg1 (i:=1) 1 rfl hr (by omega) fun h1=>?_;rw[get 1 (by omega)]at h1;have h1':RdC T (ls[1]'(by omega)).1 1 (bytesOf (zaz M.own)):=h1;refine z02 [1] (zeq (size:=1) (k:=64) h1' (by omega) (by omega) (by rw[oB]) (by rw[oB];omega) hN) fun r20=>z04 fun h20=>z01 ?_;dsimp only[sel,rem,nth,del,cat,upd];refine zg1 (i:=2) 1 rfl hr (by omega) fun h2=>?_;rw[get 2 (by omega)]at h2;have h2':RdC T (ls[2]'(by omega)).1 1 (bytesOf M.used):=h2;refine z02 [1] (show Tri _ (z9j 1 1 _) _ from z8o h2' (by omega) (bytes_cell _) (by
  have:most=70368744177664:=rfl
  have:=sl64 2 (by omega)
  omega)) fun r23=>z01 ?_
 dsimp only[sel,rem,nth,del,cat,upd];have e64:z4c 1 64 (zaz M.own)=M.own++List.replicate (64 - g.G) 0:=by
  have h3:=znd (zaz M.own);rw[oB]at h3;rw[h3];unfold zaz z2g;rw[List.map_append,List.map_map,List.length_map,hol];have:M.own.map (UInt8.toNat ∘ UInt8.ofNat)=M.own:=by
   conv=>rhs;rw[←List.map_id M.own]
   apply List.map_congr_left;intro o ho;have:=ok.own16 o ho
   simp;omega
  rw[this];simp
 rw[e64];have gown:∀j(hj:j<64),(z1q (M.own++List.replicate (64 - g.G) 0))[j]? = some (.int .u64 (if h:j<M.own.length then M.own[j]else 0:Nat)):=by
  intro j hj;unfold z1q;rw[List.getElem?_map];by_cases h:j<M.own.length
  ·rw[List.getElem?_append_left h,List.getElem?_eq_getElem h,dif_pos h];rfl
  ·rw[List.getElem?_append_right (by omega),List.getElem?_replicate,if_pos (by omega),dif_neg h];rfl
 refine z0c 2 rfl fun h20l=>?_;rw[z45,List.length_append,List.length_replicate]at h20l;have loop2:∀(K j:Nat)(w:Sl),64 - j<K→j≤64→Tri (z00 [z06 w 1 (z1c (M.own.take j)),z06 r20.1 1 (z1q (M.own++List.replicate (64 - g.G) 0))])
   (z0e K (F_56 N (g.J,g.I,g.G,g.P) r20) ((j:Int),(⟨none,0⟩,⟨none,0⟩,⟨none,0⟩,⟨none,0⟩),(r15.1,w,r23,r17.1)))
   fun r=>exA fun w'=>pu (r=.inl ((⟨none,0⟩,⟨none,0⟩,⟨none,0⟩,⟨none,0⟩),(r15.1,w',r23,r17.1))) (z00 [z06 w' 1 (z1c M.own)]):=by
  intro K;induction K with
  | zero=>intro j w h;omega
  | succ K ih=>
   intro j w h hj;rw[z13];unfold F_56;by_cases hjk:j<64
   ·refine z07 (by simp;omega) ?_;refine z2a 1 rfl (z0k (by rw[z45,List.length_append,List.length_replicate];omega)) (gown j hjk) ?_;dsimp only;rw[z09 (n:=(j:Int)+1) (by omega) (by omega)];by_cases hjg:j<M.own.length
    ·rw[dif_pos hjg];have ho:=ok.own16 _ (List.getElem_mem hjg);rw[z09 (n:=((M.own[j]:Nat):Int)) (by omega) (by omega)];refine z02 [0,0] (Q:=fun r=>exA fun w'=>pu (r=.inl ((⟨none,0⟩,⟨none,0⟩,⟨none,0⟩,⟨none,0⟩),(r15.1,w',r23,r17.1))) (z00 [z06 w' 1 (z1c (M.own.take (j+1))),z06 r20.1 1 (z1q (M.own++List.replicate (64 - g.G) 0))])) ?_ fun r=>z12 fun w'=>z04 fun hr'=>z01 ?_
     ·refine z07 (by simp;omega) ?_;refine z0v fun b=>?_;refine z0c 1 rfl fun hw=>?_;rw[z1n,List.length_take]at hw;refine z02 [1,0] (z3a (T:=pts b (.cells [.int .i64 (M.own[j]:Nat)] false)) (rd_pts0 (by simp)) (by omega) rfl (by
       have:most=70368744177664:=rfl
       dsimp only;omega)) fun w'=>z01 ?_
      refine z03 [0,1] fun q hq=>⟨w',rfl,?_⟩;have e5:z1c (M.own.take j)++[.int .i64 (M.own[j]:Nat)]=z1c (M.own.take (j+1)):=by
       unfold z1c z1w;rw[List.take_succ_eq_append_getElem hjg,List.map_append,List.map_append];rfl
      rw[e5]at hq;exact hq
     ·subst hr';exact ih (j+1) w' (by omega) (by omega)
    ·rw[dif_neg hjg];refine z02 [0,0] (Q:=fun r=>pu (r=.inl ((⟨none,0⟩,⟨none,0⟩,⟨none,0⟩,⟨none,0⟩),(r15.1,w,r23,r17.1))) (z00 [z06 w 1 (z1c (M.own.take j)),z06 r20.1 1 (z1q (M.own++List.replicate (64 - g.G) 0))])) ?_ fun r=>z04 fun hr'=>z01 ?_
     ·refine z05 (by simp;omega) (z05 (by simp) (z03 [0,0] fun q hq=>⟨rfl,hq⟩))
     ·subst hr';have e6:M.own.take j=M.own.take (j+1):=by rw[List.take_of_length_le (by omega),List.take_of_length_le (by omega)]
      rw[e6];exact ih (j+1) w (by omega) (by omega)
   ·obtain rfl:j=64:=by omega
    refine z05 (by simp;omega) (z03 [0] fun q hq=>⟨w,rfl,?_⟩);rw[List.take_of_length_le (by omega)]at hq;exact hq
 refine Tri.pre (B:=z00 [z06 ⟨none,0⟩ 1 (z1c (M.own.take 0)),z06 r23 1 (bytesOf M.used),T,z06 r20.1 1 (z1q (M.own++List.replicate (64 - g.G) 0)),z06 r17.1 14 (z2m M.ino),z06 r15.1 2 (z1t M.rows)]) ?_ fun q hq=>z2h (fun q h =>.nil 1 h) hq;refine z02 [0,2] (loop2 N 0 ⟨none,0⟩ (by omega) (by omega)) fun r=>z12 fun w'=>z04 fun hr'=>z01 ?_;subst hr';dsimp only[sel,rem,nth,del,cat,upd];refine z0c 0 rfl fun hw=>z0c 1 rfl fun hu=>z0c 3 rfl fun hi=>z0c 4 rfl fun hro=>?_;refine z02 [4,0,0,1] (zkp (T:=z00 [z06 r15.1 2 (z1t M.rows),z06 w' 1 (z1c M.own),z06 r23 1 (bytesOf M.used),z06 r17.1 14 (z2m M.ino)]) (m:=(r15.1,w',r23,r17.1)) hg ok ⟨(z0k hro).at 0 rfl,(z0k hw).at 1 rfl,(z0k hu).at 2 rfl,(z0k hi).at 3 rfl⟩ hN |>.pre fun q hq=>by rw[stars_one];exact hq) fun r=>z04 fun h=>z01 (z01 ?_);subst h;dsimp only[sel,rem,nth,del,cat,upd];exact z05 (by simp) (z03 [0,0,0,0,0] fun q hq=>⟨rfl,hq⟩)
end
end Go.Moat

/- Layer 5, the disk: what its functions come to, over what a disk is. -/
namespace Go.Moat
open Go.Mini
structure SecS where
 b:List UInt8
 t:Int
def SecS.c(s:SecS):List MV:=bytesOf s.b++[.int .u16 s.t]
def SecS.ok(s:SecS):Prop:=s.b.length=64
def z47:SecS:=⟨List.replicate 64 0,0⟩
structure WaitS where
 at':Nat
 was:SecS
 now:SecS
def WaitS.c(w:WaitS):List MV :=.int .i64 w.at'::(w.was.c++w.now.c)
structure DskS where
 secs:List SecS
 waits:List WaitS
 dead:Bool
 fuse:Int
 done:Int
def z6y(l:List SecS):List MV:=(l.map SecS.c).flatten
def z6n(l:List WaitS):List MV:=(l.map WaitS.c).flatten
structure DskS.ok(D:DskS):Prop where
 secs:∀s∈D.secs,s.ok
 waits:∀w∈D.waits,w.was.ok∧w.now.ok∧w.at'<D.secs.length
 many:D.secs.length≤4096
 fuse : -1≤D.fuse∧D.fuse≤9223372036854775807
theorem SecS.len{s:SecS}(h:s.ok):s.c.length=65:=by
 unfold SecS.c;rw[List.length_append,z0d,h];rfl
theorem SecS.cell(s:SecS):s.c.all z10=true:=by
 unfold SecS.c;rw[List.all_append,bytes_cell];rfl
theorem WaitS.len{w:WaitS}(h:w.was.ok)(h2:w.now.ok):w.c.length=131:=by
 unfold WaitS.c;rw[List.length_cons,List.length_append,SecS.len h,SecS.len h2]
theorem WaitS.cell(w:WaitS):w.c.all z10=true:=by
 unfold WaitS.c;rw[List.all_cons,List.all_append,w.was.cell,w.now.cell];rfl
theorem z87:z47.ok:=by simp[z47,SecS.ok]
theorem ze9:z0t 64 [MV.int .u8 (0:Int)]++[MV.int .u16 (0:Int)]=z47.c:=by
 rw[ze5];simp[z47,SecS.c,bytesOf]
theorem zu3{l:List SecS}(h:∀s∈l,s.ok):∀r∈l.map SecS.c,r.length=65:=by
 intro r hr;obtain⟨s,hs,rfl⟩:=List.mem_map.1 hr;exact SecS.len (h s hs)
theorem z18b{l:List WaitS}(h:∀w∈l,w.was.ok∧w.now.ok):∀r∈l.map WaitS.c,r.length=131:=by
 intro r hr;obtain⟨s,hs,rfl⟩:=List.mem_map.1 hr;exact WaitS.len (h s hs).1 (h s hs).2
theorem zcw{l:List SecS}(h:∀s∈l,s.ok):(z6y l).length=l.length * 65:=by
 rw[z6y,zh1 (zu3 h),List.length_map]
theorem zj2{l:List SecS}(h:∀s∈l,s.ok){i:Nat}(hi:i<l.length):((z6y l).drop (i * 65)).take 65=l[i].c:=by
 rw[z6y,zle (zu3 h) i (by simpa using hi)];simp
theorem zne{l:List SecS}(h:∀s∈l,s.ok){s:SecS}(hs:s.ok){i:Nat}(hi:i<l.length):z11 (z6y l) (i * 65) s.c=z6y (l.set i s):=by
 rw[z6y,ziw (SecS.len hs) (zu3 h) i (by simpa using hi),z6y,List.map_set]
theorem znf{l:List WaitS}(h:∀w∈l,w.was.ok∧w.now.ok):(z6n l).length=l.length * 131:=by
 rw[z6n,zh1 (z18b h),List.length_map]
def z1e(d:Nat)(D:DskS):HA:=exA fun x:Nat×Sl=>pu D.ok (z00 [pts d (.cells [.sl (some ⟨x.1,0⟩) D.secs.length 65,.sl x.2.p x.2.len 131,.bool D.dead,.int .i64 D.fuse,.int .i64 D.done] false),pts x.1 (.cells (z6y D.secs) false),z06 x.2 131 (z6n D.waits)])
section
variable{d:Nat}{D:DskS}{β:Type}{l:List HA}{m:M β}{S:β→HA}
theorem z9v(n:Nat)(hl:l[n]? = some (z1e d D))(k:∀bs(ws:Sl),D.ok→Tri (z00 (pts d (.cells [.sl (some ⟨bs,0⟩) D.secs.length 65,.sl ws.p ws.len 131,.bool D.dead,.int .i64 D.fuse,.int .i64 D.done] false)::pts bs (.cells (z6y D.secs) false)::z06 ws 131 (z6n D.waits)::del l n)) m S):Tri (z00 l) m S:=
 zh0 (γ:=Nat×Sl) (φ:=fun _=>D.ok) n hl (fun _ ⟨x,h1,h2⟩=>⟨x,h1,h2⟩) fun x h=>k x.1 x.2 h
theorem z6o{bs:Nat}{ws:Sl}{q:PH}(hD:D.ok)(h:z00 [pts d (.cells [.sl (some ⟨bs,0⟩) D.secs.length 65,.sl ws.p ws.len 131,.bool D.dead,.int .i64 D.fuse,.int .i64 D.done] false),pts bs (.cells (z6y D.secs) false),z06 ws 131 (z6n D.waits)] q):z00 [z1e d D] q:=by
 rw[stars_one];exact⟨(bs,ws),hD,h⟩
def zbr(n:Nat):DskS:=⟨List.replicate n z47,[],false,-1,0⟩
theorem z18c{n:Nat}(h:n≤4096):(zbr n).ok:=
 ⟨fun s hs=>(by rw[(List.mem_replicate.1 hs).2];exact z87),fun w hw=>(by cases hw),by simpa[zbr]using h,by simp[zbr]⟩
variable{N:Nat}
theorem z15k{n:Nat}(h:n≤4096):Tri (z00 []) (F_28 N (n:Int)) fun r=>exA fun d=>pu (r=(some ⟨d,0⟩,0)) (z00 [z1e d (zbr n)]):=by
 unfold F_28;rw[if_neg (by simp;omega)];refine z5e (l:=[]) (g:=fun b=>⟨some ⟨b,0⟩,n⟩) (x :=.cells (z6y (zbr n).secs) false) (fun h'=>?_) fun bs=>?_
 ·unfold mkSl;rw[if_pos ⟨by omega,by omega,by have:most=70368744177664:=rfl;omega,by rw[ze9];exact SecS.len z87⟩,ze9];simp[zbr,z6y,z188]
 ·refine z0v fun d=>?_;refine z03 [0,0] fun q hq=>⟨d,rfl,?_⟩;refine z6o (bs:=bs) (ws:=⟨none,0⟩) (z18c h) ?_;have:(zbr n).secs.length=n:=by simp[zbr]
  rw[this];obtain⟨q1,q2,h1,⟨q3,q4,h2,h3,d2,e2⟩,d1,e1⟩:=hq;exact⟨q1,q2,h1,⟨q3,q4,h2,by rw[stars_one];exact .nil _ h3,d2,e2⟩,d1,e1⟩
theorem zbs:Tri (z00 [z1e d D]) (F_02 N (some ⟨d,0⟩)) fun r=>pu (r=D.secs.length) (z00 [z1e d D]):=by
 unfold F_02;refine z9v 0 rfl fun bs ws hD=>?_;exact z9i 0 rfl rfl (z03 [0,0,0] fun q hq=>⟨rfl,z6o hD hq⟩)
theorem zh8(i:Int):Tri (z00 [z1e d D]) (F_1b N (some ⟨d,0⟩) i) fun r=>pu (r=decide (0≤i∧i<D.secs.length)) (z00 [z1e d D]):=by
 unfold F_1b;by_cases h:0≤i
 ·rw[if_pos (by simpa using h)];refine z02 (f:=fun c=>ret c) [0] (Q:=fun r=>pu (r=decide (i<D.secs.length)) (z00 [z1e d D])) ?_ fun r=>z04 fun hr=>z01 (z03 [0] fun q hq=>⟨by rw[hr];simp[h],hq⟩);exact z02 [0] zbs fun r=>z04 fun hr=>z01 (z03 [0] fun q hq=>⟨by rw[hr],hq⟩)
 ·rw[if_neg (by simpa using h)];exact z03 [0] fun q hq=>⟨by simp[h],hq⟩
def z5a(D:DskS):Int:=if D.dead then 6 else if D.fuse=0 then 6 else 0
def z5b(D:DskS):DskS:=if D.dead then D else if D.fuse=0 then {D with dead:=true}else {D with fuse:=if 0<D.fuse then D.fuse - 1 else D.fuse,done:=D.done+1}
theorem zh9(hd:0≤D.done)(hd2:D.done<9223372036854775807):Tri (z00 [z1e d D]) (F_1c N (some ⟨d,0⟩)) fun r=>pu (r=z5a D) (z00 [z1e d (z5b D)]):=by
 unfold F_1c;refine z9v 0 rfl fun bs ws hD=>?_;refine z120 0 rfl rfl ?_;by_cases h1:D.dead=true
 ·rw[if_pos h1];refine z03 [0,0,0] fun q hq=>⟨by unfold z5a;rw[if_pos h1],?_⟩;unfold z5b;rw[if_pos h1];exact z6o hD hq
 ·rw[if_neg h1];refine z9h 0 rfl rfl ?_;by_cases h2:D.fuse=0
  ·rw[if_pos (by simpa using h2)];refine zcu 0 rfl ?_;refine z03 [0,0,0] fun q hq=>⟨by unfold z5a;rw[if_neg h1,if_pos h2],?_⟩;unfold z5b;rw[if_neg h1,if_pos h2];exact z6o ⟨hD.1,hD.2,hD.3,hD.4⟩ hq
  ·rw[if_neg (by simpa using h2)];refine z9h 0 rfl rfl ?_;have fin:∀fz,fz=(if 0<D.fuse then D.fuse - 1 else D.fuse)→Tri (z00 [pts d (.cells [.sl (some ⟨bs,0⟩) D.secs.length 65,.sl ws.p ws.len 131,.bool D.dead,.int .i64 fz,.int .i64 D.done] false),pts bs (.cells (z6y D.secs) false),z06 ws 131 (z6n D.waits)])
     (bd (nonNil (some ⟨d,0⟩)) fun q_19=>bd (fld q_19 4) fun q_20=>bd (ldI .i64 q_20) fun(y_21:Int)=>bd (nonNil (some ⟨d,0⟩)) fun q_22=>bd (fld q_22 4) fun q_23=>bd (stc q_23 (MV.int .i64 (wr .i64 (y_21+(1:Int))))) fun _=>ret (0:Int)) fun r=>pu (r=z5a D) (z00 [z1e d (z5b D)]):=by
    intro fz hf;refine z9h 0 rfl rfl (zcu 0 rfl ?_);refine z03 [0,0,0] fun q hq=>⟨by unfold z5a;rw[if_neg h1,if_neg h2],?_⟩;unfold z5b;rw[if_neg h1,if_neg h2];rw[z09 (by omega) (by omega)]at hq;refine z6o (bs:=bs) (ws:=ws) ⟨hD.1,hD.2,hD.3,?_⟩ ?_
    ·have:=hD.fuse
     dsimp only;split<;>omega
    ·rw[←hf];exact hq
   by_cases h3:0<D.fuse
   ·refine Tri.bd (Q:=fun _=>z00 [pts d (.cells [.sl (some ⟨bs,0⟩) D.secs.length 65,.sl ws.p ws.len 131,.bool D.dead,.int .i64 (D.fuse - 1),.int .i64 D.done] false),pts bs (.cells (z6y D.secs) false),z06 ws 131 (z6n D.waits)]) ?_ fun _=>fin _ (by rw[if_pos h3]);rw[if_pos (by simpa using h3)];refine z9h 0 rfl rfl (zcu 0 rfl (z1m fun q hq=>?_));have:=hD.fuse
    rw[z09 (by omega) (by omega)]at hq;exact hq
   ·refine Tri.bd (Q:=fun _=>z00 [pts d (.cells [.sl (some ⟨bs,0⟩) D.secs.length 65,.sl ws.p ws.len 131,.bool D.dead,.int .i64 D.fuse,.int .i64 D.done] false),pts bs (.cells (z6y D.secs) false),z06 ws 131 (z6n D.waits)]) ?_ fun _=>fin _ (by rw[if_neg h3]);rw[if_neg (by simpa using h3)];exact z1m fun q hq=>hq
theorem z5x:(z5b D).secs=D.secs:=by
 unfold z5b;split
 ·rfl
 ·split<;>rfl
theorem zb1:(z5b D).waits=D.waits:=by
 unfold z5b;split
 ·rfl
 ·split<;>rfl
def zj3(D:DskS):DskS:=if z5a D=0 then {z5b D with waits:=[]}else z5b D
theorem zng(hd:0≤D.done)(hd2:D.done<9223372036854775807):Tri (z00 [z1e d D]) (F_1d N (some ⟨d,0⟩)) fun r=>pu (r=z5a D) (z00 [z1e d (zj3 D)]):=by
 unfold F_1d;refine z02 [0] (zh9 hd hd2) fun r=>z04 fun hr=>z01 ?_;by_cases h:z5a D=0
 ·rw[if_neg (by simp[hr,h])];refine z9v 0 rfl fun bs ws hD=>?_;refine zcu 0 rfl ?_;refine z03 [0,0] fun q hq=>⟨h.symm,?_⟩;unfold zj3;rw[if_pos h];refine z6o (bs:=bs) (ws:=⟨none,0⟩) ⟨hD.1,fun w hw=>(by cases hw),hD.3,hD.4⟩ ?_;obtain⟨q1,q2,h1,⟨q3,q4,h2,h3,d2,e2⟩,d1,e1⟩:=hq;exact⟨q1,q2,h1,⟨q3,q4,h2,by rw[stars_one];exact .nil _ h3,d2,e2⟩,d1,e1⟩
 ·rw[if_pos (by simp[hr,h])];refine z03 [0] fun q hq=>⟨hr,?_⟩;unfold zj3;rw[if_neg h];exact hq
theorem z9w{cs vs:List MV}(h:vs.length=cs.length):z11 cs 0 vs=vs:=by
 unfold z11;simp[h]
def z7y(D:DskS)(i:Int):Int:=if 0≤i∧i<D.secs.length then(if D.dead then 6 else 0)else 1
def z48(D:DskS)(i:Int):SecS:=if z7y D i=0 then(D.secs[i.toNat]?).getD z47 else z47
theorem zx6(hD:D.ok)(i:Int):(z48 D i).ok:=by
 unfold z48;split
 ·cases h:D.secs[i.toNat]? with
  | none=>exact z87
  | some s=>exact hD.secs s (List.mem_of_getElem? h)
 ·exact z87
theorem z15l(i:Int):Tri (z00 [z1e d D]) (F_2c N (some ⟨d,0⟩) i) fun r=>pu (r=((z48 D i).c,z7y D i)∧D.ok) (z00 [z1e d D]):=by
 unfold F_2c;rw[if_neg (by simp)];rw[ze9];have hz:z47.c.length=65:=SecS.len z87;refine z02 [0] (zh8 i) fun r=>z04 fun hr=>z01 ?_;have e0:z11 z47.c 0 z47.c=z47.c:=z9w rfl;by_cases h:0≤i∧i<D.secs.length
 ·rw[if_neg (by simp[hr,h])];refine z9v 0 rfl fun bs ws hD=>?_;refine z120 0 rfl rfl ?_;by_cases h1:D.dead=true
  ·rw[if_pos h1,if_pos ⟨hz,by omega,z47.cell⟩];refine z0j ?_;rw[e0,if_pos (by omega)];refine z0j ?_;refine z03 [0,0,0] fun q hq=>⟨⟨?_,hD⟩,z6o hD hq⟩;have:z7y D i=6:=by unfold z7y;rw[if_pos h,if_pos h1]
   rw[this];unfold z48;rw[this,if_neg (by decide),List.drop_zero,List.take_of_length_le (by omega)]
  ·rw[if_neg h1];refine z9i 0 rfl rfl ?_;obtain⟨k,rfl⟩:∃k:Nat,i=k:=⟨i.toNat,by omega⟩;have hk:k<D.secs.length:=by omega
   refine z2l hk (z5f 1 rfl (by rw[zcw hD.secs];have:=z3s (e:=65) hk;omega) ?_);rw[Nat.zero_add,zj2 hD.secs hk];have hl:=SecS.len (hD.secs _ (List.getElem_mem hk));rw[if_pos ⟨hl,by omega,D.secs[k].cell⟩];refine z0j ?_;rw[z9w (by omega),if_pos (by omega)];refine z0j ?_;refine z03 [0,0,0] fun q hq=>⟨⟨?_,hD⟩,z6o hD hq⟩;have:z7y D k=0:=by unfold z7y;rw[if_pos h,if_neg h1]
   rw[this];unfold z48;rw[this,if_pos rfl,List.drop_zero,List.take_of_length_le (by omega),Int.toNat_natCast,List.getElem?_eq_getElem hk];rfl
 ·rw[if_pos (by simp[hr,h]),if_pos ⟨hz,by omega,z47.cell⟩];refine z0j ?_;rw[e0,if_pos (by omega)];refine z0j ?_;refine z9v 0 rfl fun bs ws hD=>?_;refine z03 [0,0,0] fun q hq=>⟨⟨?_,hD⟩,z6o hD hq⟩;have:z7y D i=1:=by unfold z7y;rw[if_neg h]
  rw[this];unfold z48;rw[this,if_neg (by decide),List.drop_zero,List.take_of_length_le (by omega)]
theorem zq7(i:Int):Tri (z00 [z1e d D]) (F_07 N (some ⟨d,0⟩) i) fun r=>pu (r.2=z7y D i∧(z7y D i≠0→r.1=⟨none,0⟩)) (z00 [z1e d D,if z7y D i=0 then z06 r.1 1 (bytesOf (z48 D i).b)else emp]):=by
 unfold F_07;refine z02 [0] (z15l i) fun r=>z04 fun ⟨hr,hD⟩=>z01 ?_;subst hr;rw[ze9];have hz:z47.c.length=65:=SecS.len z87;have hg:=SecS.len (zx6 hD i);refine z0v fun v=>?_;refine z50 0 rfl hg (by omega) (SecS.cell _) ?_;rw[z9w (by omega)];by_cases h:z7y D i=0
 ·rw[if_neg (by simp[h])];refine z0b ?_;refine tri_read 0 rfl (fun _ hg'=>z187 hg' (by omega) (by omega) (by omega) (by omega)) ?_;refine z02 [0] (z122 (k:=64) (cs:=(z48 D i).c) (ro:=false) (e:=1) (by':=1) (by omega) (by omega) (by
   rw[List.all_eq_true];exact fun x hx=>List.all_eq_true.1 (SecS.cell _) x (List.mem_of_mem_take hx)) (by decide)) fun r=>z01 ?_
  refine z03 [2,0] fun q hq=>?_;rw[if_pos h];refine⟨⟨h.symm,fun c=>absurd h c⟩,?_⟩;have e:(z48 D i).c.take (64 * 1)=bytesOf (z48 D i).b:=by
   unfold SecS.c;rw[List.take_left' (by rw[z0d];exact zx6 hD i)]
  rw[e]at hq;exact hq
 ·rw[if_pos (by simp[h])];refine z03 [1] fun q hq=>?_;rw[if_neg h];refine⟨⟨rfl,fun _=>rfl⟩,?_⟩;show z18 _ (z18 emp emp) q;rw[star_emp];exact hq
def writeE(D:DskS)(i:Int)(bs:List UInt8):Int:=if 0≤i∧i<D.secs.length∧bs.length=64 then z5a D else 1
def zcx(D:DskS)(i:Int)(bs:List UInt8)(t:Int):DskS:=if 0≤i∧i<D.secs.length∧bs.length=64 then
  (if z5a D=0 then {z5b D with secs:=D.secs.set i.toNat ⟨bs,t⟩,waits:=D.waits++[⟨i.toNat,(D.secs[i.toNat]?).getD z47,⟨bs,t⟩⟩]}else z5b D)else D
theorem zu4{bs:List UInt8}{t:Int}(h:bs.length=64):z2d z47.c [(0,some 64,.agg (bytesOf bs)),(64,none,.int .u16 t)]=some (SecS.c ⟨bs,t⟩):=by
 have hz:z47.c.length=65:=SecS.len z87;have hb:(bytesOf bs).length=64:=by rw[z0d,h]
 unfold z2d;rw[if_pos ⟨hb,by omega⟩];unfold z2d;have e1:z11 z47.c 0 (bytesOf bs)=bytesOf bs++[.int .u16 0]:=by
  unfold z11;rw[List.take_zero,List.nil_append,hb];congr 1
 rw[e1,if_pos ⟨by rw[List.length_append,hb];decide,rfl⟩];unfold z2d;rw[List.set_append_right _ _ (by omega),hb];rfl
theorem zq8{i:Nat}{x y:SecS}(hx:x.ok)(hy:y.ok):z2d ([MV.int .i64 (0:Int)]++z0t 64 [MV.int .u8 (0:Int)]++[MV.int .u16 (0:Int)]++z0t 64 [MV.int .u8 (0:Int)]++[MV.int .u16 (0:Int)]) [(0,none,.int .i64 i),(1,some 65,.agg x.c),(66,some 65,.agg y.c)]=some (WaitS.c ⟨i,x,y⟩):=by
 have hz:z47.c.length=65:=SecS.len z87;have h1:x.c.length=65:=SecS.len hx;have h2:y.c.length=65:=SecS.len hy;have e0:[MV.int .i64 (0:Int)]++z0t 64 [MV.int .u8 (0:Int)]++[MV.int .u16 (0:Int)]++z0t 64 [MV.int .u8 (0:Int)]++[MV.int .u16 (0:Int)]=MV.int .i64 0::(z47.c++z47.c):=by
  rw[←ze9];simp only[List.append_assoc,List.singleton_append,List.cons_append,List.nil_append]
 rw[e0];unfold z2d;rw[if_pos ⟨by simp,rfl⟩];unfold z2d;rw[List.set_cons_zero,if_pos ⟨h1,by simp[hz]⟩];have e1:z11 (MV.int .i64 i::(z47.c++z47.c)) 1 x.c=MV.int .i64 i::(x.c++z47.c):=by
  unfold z11;rw[h1];simp only[List.take_succ_cons,List.take_zero,List.cons_append,List.nil_append,List.drop_succ_cons,Nat.reduceAdd];rw[List.drop_left' hz]
 rw[e1];unfold z2d;rw[if_pos ⟨h2,by simp[hz,h1]⟩];unfold z2d z11;rw[h2];simp only[List.take_succ_cons,List.drop_succ_cons,Nat.reduceAdd,List.cons_append];rw[List.take_left' h1,List.drop_of_length_le (by simp[h1,hz])];simp[WaitS.c]
theorem zq9{cs zs:List MV}{n:Nat}(h:cs.length=n)(h2:zs.length=n):z2d zs [(0,some n,.agg cs)]=some cs:=by
 unfold z2d;rw[if_pos ⟨h,by omega⟩];unfold z2d;rw[z9w (by omega)]
theorem zyx(i:Int){s:Sl}{bs:List UInt8}(t:Int)(hs:s.len=bs.length)(hd:0≤D.done)(hd2:D.done<9223372036854775807)(hw:D.waits.length<400000000000) :
  Tri (z00 [z1e d D,z06 s 1 (bytesOf bs)]) (F_0k N (some ⟨d,0⟩) (i,s,t)) fun r=>pu (r=writeE D i bs) (z00 [z1e d (zcx D i bs t),z06 s 1 (bytesOf bs)]):=by
 unfold F_0k;rw[if_neg (by simp)];refine z02 [0] (zh8 i) fun r=>z04 fun hr=>z01 ?_;by_cases h:0≤i∧i<D.secs.length∧bs.length=64
 case neg=>
  refine z07 (by
   rw[hr];dsimp only;rw[hs];simp;omega) ?_
  refine z03 [0,0] fun q hq=>⟨by unfold writeE;rw[if_neg h],?_⟩;unfold zcx;rw[if_neg h];exact hq
 have hcan:=h;obtain⟨h1,h2,h3⟩:=h;refine z05 (by
  rw[hr];dsimp only;rw[hs];simp[h1,h2,h3]) ?_
 refine z02 [0] (zh9 hd hd2) fun r=>z04 fun hr=>z01 ?_;subst hr;unfold writeE zcx;rw[if_pos hcan,if_pos hcan];by_cases hp:z5a D=0
 case neg=>
  refine z07 (by simp[hp]) ?_;rw[if_neg hp];exact z03 [0,0] fun q hq=>⟨rfl,hq⟩
 refine z05 (by simp[hp]) ?_;rw[if_pos hp];obtain⟨k,rfl⟩:∃k:Nat,i=k:=⟨i.toNat,by omega⟩;have hk:k<D.secs.length:=by omega
 refine z93 1 rfl (fun e1 e2=>?_) fun sb ln e1 e2=>?_
 ·exfalso;subst e1;dsimp only at hs;omega
 subst e1;dsimp only at hs ⊢;subst hs;refine ztu (a:=some ⟨sb,0⟩) (fun _=>by unfold arrAt;rw[if_pos ⟨by omega,by dsimp only;omega⟩];rfl) ?_;refine z5f 1 rfl (by rw[z0d];omega) ?_;rw[List.drop_zero,List.take_of_length_le (by rw[z0d];omega),ze9,zu4 h3];have hz:z47.c.length=65:=SecS.len z87;have hnow:SecS.ok ⟨bs,t⟩:=h3;have hnl:=SecS.len hnow;refine zcv (z0v fun nw=>?_);dsimp only[sel,rem,nth,del,cat,upd];refine z50 0 rfl hnl (by omega) (SecS.cell _) ?_;rw[z9w (by omega)];refine z9v 1 rfl fun bs' ws hD=>?_;rw[z5x,zb1];dsimp only[sel,rem,nth,del,cat,upd];have hsk:∀s∈D.secs,s.ok:=by rw[←z5x (D:=D)];exact hD.secs
 have hwk:∀w∈D.waits,w.was.ok∧w.now.ok∧w.at'<D.secs.length:=by
  have:=hD.waits
  rwa [zb1,z5x]at this
 refine z9i 0 rfl rfl (z9i 0 rfl rfl ?_);refine z2l hk (z5f 1 rfl (by rw[zcw hsk];have:=z3s (e:=65) hk;omega) ?_);rw[Nat.zero_add,zj2 hsk hk];refine z5f 3 rfl (by omega) ?_;rw[List.drop_zero,List.take_of_length_le (by omega)];have hwas:=hsk _ (List.getElem_mem hk);rw[zq8 hwas hnow];have hwl:(WaitS.c ⟨k,D.secs[k],⟨bs,t⟩⟩).length=131:=WaitS.len hwas hnow;refine zcv ?_;rw[zq9 hwl (by simp[ze5])];refine zcv (z0v fun wb=>?_);refine z7v 3 rfl (fun q hq=>z06.len hq) fun hwsl=>?_;rw[znf fun w hw=>⟨(hwk w hw).1,(hwk w hw).2.1⟩]at hwsl;refine z02 [3,0] (zon (k:=1) (e:=131) (by':=144) (by omega) (by omega) (by
  rw[List.take_of_length_le (by omega)];exact WaitS.cell _) (by have:most=70368744177664:=rfl;omega)) fun r=>?_
 refine z01 ?_;dsimp only[sel,rem,nth,del,cat,upd];refine zcu 2 rfl ?_;dsimp only[sel,rem,nth,del,cat,upd];refine z9i 2 rfl rfl ?_;refine z5f 4 rfl (by omega) ?_;rw[List.drop_zero,List.take_of_length_le (l:=SecS.c _) (by omega)];refine z2l hk (z50 3 rfl hnl (by rw[zcw hsk,hnl];have:=z3s (e:=65) hk;omega) (SecS.cell _) ?_);rw[Nat.zero_add,zne hsk hnow hk,List.take_of_length_le (by omega)];dsimp only[sel,rem,nth,del,cat,upd];refine z03 [2,2,0,2] fun q hq=>⟨hp.symm,?_⟩;rw[Int.toNat_natCast,List.getElem?_eq_getElem hk];have hwc:z6n D.waits++WaitS.c ⟨k,D.secs[k],⟨bs,t⟩⟩=z6n (D.waits++[⟨k,D.secs[k],⟨bs,t⟩⟩]):=by
  simp[z6n]
 rw[hwc]at hq;dsimp only[sel,rem,nth,del,cat,upd]at hq;refine zgz (l:=[z06 ⟨some ⟨sb,0⟩,bs.length⟩ 1 (bytesOf bs)]) [_,_,_] (fun q h=>?_) (z1g (fun q=>z1g (fun q=>z1g fun q=>z4k fun q h =>.mk e2 h)) hq);refine⟨(bs',r),⟨?_,?_,?_,hD.4⟩,?_⟩
 ·intro s hs;rcases List.mem_or_eq_of_mem_set hs with hs | rfl
  ·exact hsk s hs
  ·exact hnow
 ·intro w hw;rw[List.length_set];rcases List.mem_append.1 hw with hw | hw
  ·exact hwk w hw
  ·simp at hw;subst hw;exact⟨hwas,hnow,hk⟩
 ·have:=hD.many
  rw[z5x]at this;rw[List.length_set];exact this
 ·dsimp only;rw[List.length_set];exact h
end
end Go.Moat
