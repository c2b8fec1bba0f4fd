/- Layers 8 and 10: bits; rows of labels. -/
import Derived.Test.YtcaaljlhljemoaaGreatP15a
namespace Go.Moat
open Go.Mini
def zhw(b:UInt8)(k:Nat)(on:Bool):UInt8:=
 UInt8.ofNat (if on then z37 .or .u8 (z37 .andNot .u8 b.toNat (z6q .u8 1 k)) (z6q .u8 1 k)else z37 .andNot .u8 b.toNat (z6q .u8 1 k)).toNat
theorem shl1{k:Nat}(hk:k<8):z6q .u8 (1:Int) (k:Int)=((2^k:Nat):Int):=by
 have:=zm2 (k :=.u8) (a:=1) (j:=k) rfl (by show k≤8;omega) (by rw[Nat.one_mul];exact Nat.pow_lt_pow_right (by omega) hk)
 rw[Nat.one_mul]at this;exact this
theorem zl1(b:UInt8){k:Nat}(hk:k<8):∃m:Nat,z37 .andNot .u8 b.toNat (z6q .u8 1 k)=(m:Int)∧m<256∧z37 .or .u8 m (z6q .u8 1 k)=((m ||| 2^k:Nat):Int)∧m ||| 2^k<256∧∀i,m.testBit i=(b.toNat.testBit i && !decide (k=i)):=by
 have h1:2^k<2^IntKind.u8.bits:=Nat.pow_lt_pow_right (by omega) hk;obtain⟨m,h2,h3,h4⟩:=zun (k :=.u8) rfl (a:=b.toNat) (b:=2^k) b.toNat_lt h1;refine⟨m,by rw[shl1 hk,h2],h3,by rw[shl1 hk];exact(zcd (k :=.u8) rfl h3 h1).2.1,Nat.or_lt_two_pow (n:=8) h3 h1,fun i=>?_⟩;rw[h4,Nat.testBit_two_pow]
theorem zxl(b:UInt8){k:Nat}(hk:k<8)(on:Bool)(i:Nat):(zhw b k on).toNat.testBit i=if i=k then on else b.toNat.testBit i:=by
 obtain⟨m,h1,h2,h3,h4,h5⟩:=zl1 b hk;unfold zhw;cases on
 ·simp only[Bool.false_eq_true,if_false];rw[h1,Int.toNat_natCast,UInt8.toNat_ofNat_of_lt' (by simpa using h2),h5];by_cases e:i=k
  ·subst e;simp
  ·simp[e,Ne.symm e]
 ·simp only[if_true];rw[h1,h3,Int.toNat_natCast,UInt8.toNat_ofNat_of_lt' (by simpa using h4),Nat.testBit_or,h5,Nat.testBit_two_pow];by_cases e:i=k
  ·subst e;simp
  ·simp[e,Ne.symm e]
def z11(bs:List UInt8)(i:Nat)(on:Bool):List UInt8:=bs.set (i / 8) (zhw (bs[i / 8]?.getD 0) (i%8) on)
theorem z7e(bs:List UInt8)(i:Nat)(on:Bool):(z11 bs i on).length=bs.length:=by simp[z11]
theorem z3s{bs:List UInt8}{i:Nat}(hi:i<8 * bs.length)(on:Bool)(j:Nat):z0r (z11 bs i on) j=if j=i then on else z0r bs j:=by
 unfold z0r z11;have h8:i / 8<bs.length:=by omega
 rw[List.getElem?_set];by_cases h:i / 8=j / 8
 ·rw[if_pos h,if_pos h8];simp only[zxl _ (show i%8<8 by omega)];by_cases e:j=i
  ·subst e;simp
  ·rw[if_neg e,if_neg (by omega),h,List.getElem?_eq_getElem (by omega)];rfl
 ·rw[if_neg h,if_neg (by rintro rfl;exact h rfl)]
def z69(bs:List UInt8)(lo hi:Nat)(on:Bool):Option Nat:=((List.range' lo (hi - lo)).find? fun i=>z0r bs i==on)
def z39(bs:List UInt8)(lo hi:Nat):Nat:=((List.range' lo (hi - lo)).filter fun i=>z0r bs i).length
section
variable{N:Nat}{β:Type}{l:List HA}{S:β→HA}{T:HA}{s:Sl}{bs:List UInt8}
theorem z4o(hr:RdC T s 1 (bytesOf bs)):s.len=bs.length:=by
 have:=hr.1
 rw[z0e]at this;omega
theorem zqj(hr:RdC T s 1 (bytesOf bs))(hb:bs.length≤512)(i:Int):Tri (z00 [T]) (F_0j N s i) fun r=>pu (r=(decide (0≤i)&&z0r bs i.toNat)) (z00 [T]):=by
 have hlen:=z4o hr;unfold F_0j;rw[hlen];have e8:(8:Int) * (bs.length:Int)=((8 * bs.length:Nat):Int):=by simp
 rw[e8,z0i (n:=((8 * bs.length:Nat):Int)) (by omega) (by omega)];refine z02 [0] (Q:=fun r=>pu (r=(decide (0≤i)&&z0r bs i.toNat)) (z00 [T])) ?_ fun c=>z04 fun hc=>z01 (z03 [0] fun q hq=>⟨hc,hq⟩);by_cases h:0≤i∧i<((8 * bs.length:Nat):Int)
 ·obtain⟨k,rfl⟩:∃k:Nat,i=k:=⟨i.toNat,by omega⟩;refine z07 (by simp;omega) ?_;have e1:(k:Int).tdiv 8=((k / 8:Nat):Int):=rfl;have e2:(k:Int).tmod 8=((k%8:Nat):Int):=rfl;rw[e1,e2,z0i (by omega) (by omega)];have h8:k / 8<bs.length:=by omega
  refine z3h 0 rfl hr (z9l h8) (z05 (by omega) (z03 [0] fun q hq=>⟨?_,hq⟩));rw[zhy (by show k%8≤8;omega)];have h1:bs[k / 8].toNat / 2^(k%8)<2^IntKind.u8.bits:=Nat.lt_of_le_of_lt (Nat.div_le_self _ _) bs[k / 8].toNat_lt;have:=(zcd (k :=.u8) (b:=1) rfl h1 (by decide)).1
  have e3:z37 .and .u8 ((bs[k / 8].toNat / 2^(k%8):Nat):Int) (1:Int)=((bs[k / 8].toNat / 2^(k%8)%2:Nat):Int):=by
   rw[←Nat.and_one_is_mod];exact this
  rw[e3];unfold z0r;rw[Int.toNat_natCast,List.getElem?_eq_getElem h8];simp only[Nat.testBit_eq_decide_div_mod_eq,Int.natCast_nonneg,decide_true,Bool.true_and];congr 1;apply propext;omega
 ·refine z05 (by simp;omega) (z03 [0] fun q hq=>⟨?_,hq⟩);by_cases h0:0≤i
  ·have:z0r bs i.toNat=false:=by
    cases hg:z0r bs i.toNat with
    | false=>rfl
    | true=>have:=zhb hg;omega
   simp[this]
  ·simp[h0]
theorem zt4(hr:RdC T s 1 (bytesOf bs))(hb:bs.length≤512)(i:Nat):Tri (z00 [T]) (F_0j N s (i:Int)) fun r=>pu (r=z0r bs i) (z00 [T]):=
 (zqj hr hb i).post fun r q hq=>⟨by rw[hq.1];simp,hq.2⟩
theorem zl2(hlen:s.len=bs.length)(hb:bs.length≤512){lo hi:Nat}(h2:hi≤8 * bs.length):F_18 N s (lo:Int) (hi:Int)=ret ((lo:Int),(hi:Int)):=by
 unfold F_18;rw[hlen,z0i (by omega) (by omega),if_neg (by omega),if_neg (by omega)]
theorem zfi(hr:RdC T s 1 (bytesOf bs))(hb:bs.length≤512){lo hi:Nat}(h1:lo≤hi)(h2:hi≤8 * bs.length)(hN:5000<N):Tri (z00 [T]) (F_19 N s (lo:Int) (hi:Int)) fun r=>pu (r=(z39 bs lo hi:Nat)) (z00 [T]):=by
 have hlen:=z4o hr;unfold F_19;rw[zl2 hlen hb h2];refine z0s ?_;have loop:∀(K j n:Nat),hi - j<K→lo≤j→j≤hi→n=z39 bs lo j→Tri (z00 [T]) (z0l K (F_4g N s ((lo:Int),(hi:Int))) ((n:Int),(j:Int))) fun r=>pu (r=(z39 bs lo hi:Nat)) (z00 [T]):=by
  intro K;induction K with
  | zero=>intro j n h;omega
  | succ K ih=>
   intro j n h hl hj hn;rw[z18];unfold F_4g;have hle:z39 bs lo j≤j - lo:=Nat.le_trans (List.length_filter_le _ _) (by simp);by_cases hjk:j<hi
   ·refine z07 (by simp;omega) ?_;refine z02 [0] (zt4 hr hb j) fun r=>z04 fun hr'=>z01 ?_;dsimp only[sel,rem,nth,del,cat,upd];subst hr';have e:z39 bs lo (j+1)=z39 bs lo j+if z0r bs j then 1 else 0:=by
     unfold z39;rw[show j+1 - lo=(j - lo)+1 by omega,List.range'_concat,List.filter_append,List.length_append];congr 1;rw[show lo+1 * (j - lo)=j by omega];cases hgb:z0r bs j<;>simp[hgb]
    rw[z0i (n:=(n:Int)+1) (by omega) (by omega),z0i (n:=(j:Int)+1) (by omega) (by omega)];cases hg:z0r bs j
    ·refine z02 [0] (Q:=fun r=>pu (r=(n:Int)) (z00 [T])) (z05 (by simp) (z1l fun q hq=>⟨rfl,hq⟩)) fun r=>z04 fun hr'=>z01 ?_;subst hr';refine ih (j+1) n (by omega) (by omega) (by omega) ?_;rw[e,hg,hn];simp
    ·refine z02 [0] (Q:=fun r=>pu (r=((n+1:Nat):Int)) (z00 [T])) (z07 rfl (z1l fun q hq=>⟨by simp,hq⟩)) fun r=>z04 fun hr'=>z01 ?_;subst hr';refine ih (j+1) (n+1) (by omega) (by omega) (by omega) ?_;rw[e,hg,hn];simp
   ·obtain rfl:j=hi:=by omega
    refine z05 (by simp) (z1l fun q hq=>⟨?_,hq⟩);rw[hn]
 refine z02 [0] ((loop N lo 0 (by omega) (by omega) h1 (by simp[z39])).pre fun q hq=>hq) fun r=>z04 fun hr=>z01 (z03 [0] fun q hq=>⟨hr,hq⟩)
theorem zl3(hr:RdC T s 1 (bytesOf bs))(hb:bs.length≤512){lo hi:Nat}(h1:lo≤hi)(h2:hi≤8 * bs.length)(on:Bool)(hN:5000<N) :
  Tri (z00 [T]) (F_2k N s (lo:Int) (hi:Int) on) fun r=>pu (r=match z69 bs lo hi on with | some i=>((i:Int),true) | none=>(0,false)) (z00 [T]):=by
 have hlen:=z4o hr;unfold F_2k;rw[zl2 hlen hb h2];refine z0s ?_;have loop:∀(K j:Nat),hi - j<K→lo≤j→j≤hi→z69 bs lo hi on=z69 bs j hi on→Tri (z00 [T]) (z0l K (F_4p N s on ((lo:Int),(hi:Int))) (j:Int)) fun r=>pu (r=match z69 bs lo hi on with | some i =>.inr ((i:Int),true) | none =>.inl ()) (z00 [T]):=by
  intro K;induction K with
  | zero=>intro j h;omega
  | succ K ih=>
   intro j h hl hj he;rw[z18];unfold F_4p;by_cases hjk:j<hi
   ·refine z07 (by simp;omega) ?_;refine z02 [0] (zt4 hr hb j) fun r=>z04 fun hr'=>z01 ?_;dsimp only[sel,rem,nth,del,cat,upd];subst hr';have e:z69 bs j hi on=if z0r bs j==on then some j else z69 bs (j+1) hi on:=by
     unfold z69;rw[show hi - j=(hi - (j+1))+1 by omega,List.range'_succ,List.find?_cons];cases (z0r bs j==on)<;>rfl
    by_cases hg:(z0r bs j==on)=true
    ·refine z07 hg (z1l fun q hq=>⟨?_,hq⟩);rw[he,e,if_pos hg]
    ·refine z05 hg ?_;rw[z0i (by omega) (by omega)];refine ih (j+1) (by omega) (by omega) (by omega) ?_;rw[he,e,if_neg hg]
   ·obtain rfl:j=hi:=by omega
    refine z05 (by simp) (z1l fun q hq=>⟨?_,hq⟩);rw[he];simp[z69]
 refine z02 [0] ((loop N lo (by omega) (by omega) h1 rfl).pre fun q hq=>hq) fun r=>z04 fun hr=>z01 ?_;subst hr;cases z69 bs lo hi on with
 | none=>exact z03 [0] fun q hq=>⟨rfl,hq⟩
 | some i=>exact z03 [0] fun q hq=>⟨rfl,hq⟩
theorem zxm(hr:RdC T s 1 (bytesOf bs))(hb:bs.length≤512){i:Nat}(hi:i<8 * bs.length)(on:Bool):Tri (z00 [T]) (F_2l N s (i:Int) on) fun r=>pu (r.2=0) (z00 [z08 r.1 1 (bytesOf (z11 bs i on)),T]):=by
 have hlen:=z4o hr;unfold F_2l;rw[hlen];have e8:(8:Int) * (bs.length:Int)=((8 * bs.length:Nat):Int):=by simp
 rw[e8,z0i (n:=((8 * bs.length:Nat):Int)) (by omega) (by omega)];refine z05 (by simp;omega) (z05 (by simp;omega) ?_);have h8:i / 8<bs.length:=by omega
 refine Tri.pre ?_ (A:=z00 [T]) (B:=z00 [z08 ⟨none,0⟩ 1 [],T]) fun q hq=>z2z (fun q h =>.nil 1 h) hq;refine z02 [0,0] (z2y hr (by omega) (z4z _) (by
  have:most=70368744177664:=rfl
  dsimp only;omega)) fun l4=>z01 ?_
 dsimp only[sel,rem,nth,del,cat,upd];rw[List.nil_append];refine z6w 0 rfl (fun h1 h2=>?_) fun b ln h1 h2=>?_
 ·have:=congrArg List.length h2
  rw[z0e,List.length_nil]at this;omega
 subst h1;rw[z0e,Nat.mul_one]at h2;dsimp only[sel,rem,nth,del,cat,upd];have e1:(i:Int).tdiv 8=((i / 8:Nat):Int):=rfl;have e2:(i:Int).tmod 8=((i%8:Nat):Int):=rfl;rw[e1,e2,z0i (by omega) (by omega)];refine z1x (by omega) (z2d 0 rfl (by rw[Nat.zero_add,Nat.mul_one];exact z9l h8) ?_);refine z05 (by omega) ?_;refine z1x (by omega) (z1v 0 rfl (by rw[z0e];omega) rfl ?_);obtain⟨m,k1,k2,k3,k4,k5⟩:=zl1 bs[i / 8] (show i%8<8 by omega);rw[k1,Nat.zero_add,Nat.mul_one];dsimp only[sel,rem,nth,del,cat,upd];have hset:∀x:Nat,x<256→(bytesOf bs).set (i / 8) (.int .u8 (x:Int))=bytesOf (bs.set (i / 8) (UInt8.ofNat x)):=by
  intro x hx;unfold bytesOf;rw[List.map_set];congr 2;rw[UInt8.toNat_ofNat_of_lt' (by simpa using hx)]
 have fin:∀x:Nat,x<256→UInt8.ofNat x=zhw bs[i / 8] (i%8) on→Tri (z00 [pts b (.cells ((bytesOf bs).set (i / 8) (.int .u8 (x:Int))) false),T]) (ret (((⟨some ⟨b,0⟩,ln⟩:Sl),(0:Int)))) fun r=>pu (r.2=0) (z00 [z08 r.1 1 (bytesOf (z11 bs i on)),T]):=by
  intro x hx he;rw[hset x hx,he];refine z1l fun q hq=>⟨rfl,?_⟩;unfold z11;rw[List.getElem?_eq_getElem h8];exact z54 (.cons (fun _ k =>.mk (by rw[z0e];simpa using h2) k) (.cons (fun _ k=>k) .nil)) q hq
 cases on with
 | false=>
  refine z02 [0,0] (Q:=fun _=>z00 [pts b (.cells ((bytesOf bs).set (i / 8) (.int .u8 (m:Int))) false),T]) (z05 (by simp) (z1l fun q hq=>hq)) fun _=>z01 ?_;dsimp only[sel,rem,nth,del,cat,upd];refine fin m k2 ?_;unfold zhw;rw[k1];simp
 | true=>
  refine z02 [0,0] (Q:=fun _=>z00 [pts b (.cells ((bytesOf bs).set (i / 8) (.int .u8 ((m ||| 2^(i%8):Nat):Int))) false),T]) ?_ fun _=>z01 ?_
  ·refine z07 rfl ?_;refine z1x (by omega) (z2d 0 rfl (v:=(m:Int)) (by rw[Nat.zero_add,Nat.mul_one,List.getElem?_set,if_pos rfl,if_pos (by rw[z0e];omega)]) ?_);refine z05 (by omega) ?_;refine z1x (by omega) (z1v 0 rfl (by rw[List.length_set,z0e];omega) rfl ?_);rw[k3,Nat.zero_add,Nat.mul_one,List.set_set];exact z1l fun q hq=>hq
  ·dsimp only[sel,rem,nth,del,cat,upd];refine fin _ k4 ?_;unfold zhw;rw[k1];simp only[if_true];rw[k3,Int.toNat_natCast]
end
abbrev Row:=Nat×Nat
def zau(r:Row):List MV:=[.int .u16 r.1,.int .i64 r.2]
abbrev z13(rs:List Row):List MV:=z1j zau rs
theorem z1c(r:Row):(zau r).length=2:=rfl
theorem zbs(r:Row):(zau r).all z0v=true:=rfl
structure RowsOk(rs:List Row):Prop where
 len:rs.length=16
 rng:∀r∈rs,r.1<65536∧r.2≤65535
 zero:∀r∈rs,r.2=0→r.1=0
 dist:∀(i j:Nat)(hi:i<rs.length)(hj:j<rs.length),0<rs[i].2→0<rs[j].2→rs[i].1=rs[j].1→i=j
section
variable{N:Nat}{β:Type}{l:List HA}{S:β→HA}{T:HA}{s:Sl}{rs:List Row}
theorem z7k(hr:RdC T s 2 (z13 rs)):s.len=rs.length:=by
 have:=hr.1
 rw[z0p z1c]at this;omega
theorem zhx(n:Nat)(hl:l[n]? = some T)(hr:RdC T s 2 (z13 rs)){i:Nat}(hi:i<rs.length){f:Int×Int→M β}(kk:Tri (z00 l) (f ((rs[i].1:Int),(rs[i].2:Int))) S):Tri (z00 l) (bd (idx 2 s (i:Int)) fun q=>bd (ldSt [.int .u16,.int .i64] q) f) S:=
 zt3 (ts:=[.int .u16,.int .i64]) n hl hr (by rw[z7k hr];exact hi) (x:=((rs[i].1:Int),(rs[i].2:Int))) (by
  have:=zcc z1c hi
  show HC.dec _ (((z13 rs).drop (i * 2)).take 2)=_;rw[this];rfl) kk
theorem z7n(ok:RowsOk rs)(hr:RdC T s 2 (z13 rs))(hN:100<N):Tri (z00 [T]) (F_06 N s) fun r=>pu (r=true) (z00 [T]):=by
 have hlen:=z7k hr;have h16:=ok.len;unfold F_06;refine z05 (by simp[hlen,h16]) ?_;refine zxi .u16 fun m=>?_;have loop:∀(K j:Nat)(kvs:List (Int×MV)),rs.length - j<K→j≤rs.length→(∀k:Int,z6x kvs k=none∨(z6x kvs k=some (.bool true)∧∃(i:Nat)(hi:i<rs.length),i<j∧0<rs[i].2∧(rs[i].1:Int)=k)) →
   Tri (z00 [z5v .u16 m kvs,T]) (z0l K (F_4b N s (some m)) (j:Int)) fun r=>pu (r=.inl ()) (z00 [T]):=by
  intro K;induction K with
  | zero=>intro j kvs h;omega
  | succ K ih=>
   intro j kvs h hj hk;rw[z18];unfold F_4b;by_cases hjl:j<rs.length
   ·refine z07 (by simp[hlen];omega) ?_;refine zhx 1 rfl hr hjl ?_;have hm:=List.getElem_mem hjl;have h1:=ok.rng _ hm;by_cases hz:rs[j].2=0
    ·have hz1:=ok.zero _ hm hz;refine z02 [0,0] (Q:=fun r=>pu (r=.inl ()) (z00 [z5v .u16 m kvs,T])) ?_ fun r=>z04 fun hr'=>z01 ?_
     ·refine z07 (by simp[hz]) (z05 (by simp[hz1]) (z1l fun q hq=>⟨rfl,hq⟩))
     ·subst hr';dsimp only;rw[z0i (by omega) (by omega)];exact ih (j+1) kvs (by omega) (by omega) fun k=>(hk k).imp id fun ⟨a,i,hi,b,c⟩=>⟨a,i,hi,by omega,c⟩
    ·have hno:z6x kvs (rs[j].1:Int)=none:=by
      rcases hk (rs[j].1:Int)with h0 | ⟨_,i,hi,h2,h3,h4⟩
      ·exact h0
      ·have:=ok.dist i j hi hjl h3 (by omega) (by omega)
       omega
     refine z02 [0,0] (Q:=fun r=>pu (r=.inl ()) (z00 [z5v .u16 m (z6e kvs rs[j].1 (.bool true)),T])) ?_ fun r=>z04 fun hr'=>z01 ?_
     ·refine z05 (by simp;omega) ?_;refine z02 [0,0] (Q:=fun r=>pu (r=false) (z00 [z5v .u16 m kvs,T])) ?_ fun r=>z04 fun hr'=>z01 ?_
      ·refine z07 (by simp;omega) ?_;refine z10d 0 rfl _ ?_;rw[hno];refine z15 ?_;exact z03 [0,0] fun q hq=>⟨rfl,hq⟩
      ·dsimp only[sel,rem,nth,del,cat,upd];subst hr';refine z05 (by simp) ?_;refine zt2 0 rfl _ _ ?_;exact z03 [0,0] fun q hq=>⟨rfl,hq⟩
     ·subst hr';dsimp only;rw[z0i (by omega) (by omega)];refine ih (j+1) _ (by omega) (by omega) fun k=>?_;rw[zjc];by_cases hkj:k=(rs[j].1:Int)
      ·rw[if_pos hkj];exact .inr ⟨rfl,j,hjl,by omega,by omega,hkj.symm⟩
      ·rw[if_neg hkj];exact(hk k).imp id fun ⟨a,i,hi,b,c⟩=>⟨a,i,hi,by omega,c⟩
   ·obtain rfl:j=rs.length:=by omega
    refine z05 (by simp[hlen]) (z03 [1] fun q hq=>⟨rfl,?_⟩);exact hq
 refine z02 [0,0] ((loop N 0 [] (by omega) (by omega) fun k =>.inl rfl).pre fun q hq=>hq) fun r=>z04 fun hr'=>z01 ?_;subst hr';exact z03 [0] fun q hq=>⟨rfl,hq⟩
def z2v(a:Nat)(r:Row):Bool:=decide (0<r.2)&&decide (r.1=a)
def z5d(r:Row):Bool:=decide (r.2=0)
theorem zqk{a:Nat}(ha:a<65536)(hr:RdC T s 2 (z13 rs))(hl:rs.length=16)(hN:100<N):Tri (z00 [T]) (F_1c N s (a:Int)) fun r=>pu (r=fi (z2v a) rs) (z00 [T]):=by
 have hlen:=z7k hr;unfold F_1c;refine z8m (g:=fun b=>some ⟨b,0⟩) (x :=.cells [.int .u16 a] false) (fun h'=>rfl) fun b=>?_;unfold F_3u F_3t;refine z02 [0,0] (Q:=fun r=>pu (r=fi (z2v a) rs) (z00 [pts b (.cells [.int .u16 a] false),T])) ?_ fun r=>z04 fun h=>z01 (z03 [1] fun q hq=>⟨h,hq⟩);refine z02 [0,0] (zcs (A:=z00 [pts b (.cells [.int .u16 a] false),T]) (z2v a) rs (by omega) (fun rec i hi Q k=>?_) fun rec Q k=>?_) fun r=>z04 fun h=>z01 (z03 [0,0] fun q hq=>⟨h,hq⟩)
 ·unfold F_4o;refine z07 (by simp[hlen];omega) ?_;refine zhx 1 rfl hr hi ?_;refine z02 [0,0] (Q:=fun r=>pu (r=z2v a rs[i]) (z00 [pts b (.cells [.int .u16 a] false),T])) ?_ fun r=>z04 fun hr'=>z01 ?_
  ·unfold F_3s z2v;refine z02 [0,0] (Q:=fun r=>pu (r=(decide (0<rs[i].2)&&decide (rs[i].1=a))) (z00 [pts b (.cells [.int .u16 a] false),T])) ?_ fun r=>z04 fun hr'=>z01 (z03 [0,0] fun q hq=>⟨hr',hq⟩);by_cases h0:0<rs[i].2
   ·refine z07 (by simpa using h0) (z2d 0 rfl rfl (z03 [0,0] fun q hq=>⟨?_,hq⟩));simp only[h0,decide_true,Bool.true_and];congr 1;apply propext;omega
   ·refine z05 (by simpa using h0) (z03 [0,0] fun q hq=>⟨by simp[h0],hq⟩)
  ·subst hr';rw[z0i (by omega) (by omega)];exact k
 ·unfold F_4o;refine z05 (by simp[hlen]) k
theorem zul(hr:RdC T s 2 (z13 rs))(hl:rs.length=16)(hN:100<N):Tri (z00 [T]) (F_2n N s ()) fun r=>pu (r=fi z5d rs) (z00 [T]):=by
 have hlen:=z7k hr;unfold F_2n F_3w;refine z02 [0] (zcs (A:=z00 [T]) z5d rs (by omega) (fun rec i hi Q k=>?_) fun rec Q k=>?_) fun r=>z04 fun h=>z01 (z03 [0] fun q hq=>⟨h,hq⟩)
 ·unfold F_4r;refine z07 (by simp[hlen];omega) ?_;refine zhx 0 rfl hr hi ?_;unfold F_3v;refine z0s ?_;rw[z0i (by omega) (by omega)];have:(decide ((rs[i].2:Int)=0))=z5d rs[i]:=by
   unfold z5d;congr 1;apply propext;omega
  rw[this];exact k
 ·unfold F_4r;refine z05 (by simp[hlen]) k
theorem zum{a:Nat}(ha:a<65536)(ok:RowsOk rs)(hr:RdC T s 2 (z13 rs))(hN:100<N):Tri (z00 [T]) (F_2j N s (a:Int)) fun r=>pu (r=match rs.findIdx? (z2v a)with | some i=>((i:Int),true) | none=>(0,false)) (z00 [T]):=by
 unfold F_2j;refine z02 [0] (zqk ha hr ok.len hN) fun r=>z04 fun h=>z01 ?_;subst h;dsimp only[sel,rem,nth,del,cat,upd];cases hx:rs.findIdx? (z2v a)with
 | none=>
  rw[ze7 hx];refine z02 [0] (Q:=fun c=>pu (c=true) (z00 [T])) (z05 (by simp) (z1l fun q hq=>⟨rfl,hq⟩)) fun c=>z04 fun hc=>z01 ?_;subst hc;exact z07 rfl (z03 [0] fun q hq=>⟨rfl,hq⟩)
 | some i=>
  rw[ze8 hx];refine z02 [0] (Q:=fun c=>pu (c=false) (z00 [T])) (z07 (by simp) (z02 [0] (z7n ok hr hN) fun r=>z04 fun h=>z01 (z03 [0] fun q hq=>⟨by rw[h];rfl,hq⟩))) fun c=>z04 fun hc=>z01 ?_;subst hc;exact z05 (by simp) (z03 [0] fun q hq=>⟨rfl,hq⟩)
theorem zfj(hr:RdC T s 2 (z13 rs))(hl:rs.length=16){i:Nat}(hi:i<16)(a n:Nat):Tri (z00 [T]) (F_0r N s (i:Int) ((a:Int),(n:Int))) fun r=>z00 [z08 r 2 (z13 (rs.set i (a,n))),T]:=by
 have hlen:=z7k hr;unfold F_0r;refine z8m (g:=fun b=>(⟨some ⟨b,0⟩,16⟩:Sl)) (x :=.cells (z13 (List.replicate 16 (0,0))) false) (fun h'=>?_) fun b=>?_
 ·unfold mkSl;rw[hlen,hl,if_pos ⟨by omega,by omega,by have:most=70368744177664:=rfl;omega,rfl⟩];rfl
 ·refine z02 [0,0] (ze6 (o:=0) (k:=16) hr (by rw[z0p z1c];simp) (z9k zbs _) (by omega)) fun r=>z04 fun h=>z01 ?_;dsimp only[sel,rem,nth,del,cat,upd];have e1:z0w (z13 (List.replicate 16 (0,0))) 0 ((z13 rs).take (min s.len 16 * 2))=z13 rs:=by
   rw[hlen,hl,List.take_of_length_le (by rw[z0p z1c,hl];exact Nat.le_refl _)];unfold z0w;rw[List.drop_of_length_le (by rw[z0p z1c,z0p z1c,hl];simp)];simp
  rw[e1];refine z1x hi (z5n 0 rfl rfl (by rw[z0p z1c,hl];simp;omega) rfl ?_);refine z03 [0,0] fun q hq=>?_;have e2:z0w (z13 rs) (0+i * 2) [MV.int .u16 (a:Int),MV.int .i64 (n:Int)]=z13 (rs.set i (a,n)):=by
   rw[Nat.zero_add];exact zfe z1c (by omega) (a,n)
  rw[e2]at hq;exact z54 (.cons (fun _ k =>.mk (by rw[z0p z1c];simp[hl]) k) (.cons (fun _ k=>k) .nil)) q hq
def z95(rs:List Row)(a:Nat):Option Nat:=match rs.findIdx? (z2v a)with
 | some i=>some i
 | none=>rs.findIdx? z5d
def rowN(rs:List Row)(i:Nat):Row:=rs[i]?.getD (0,0)
def z3a(rs:List Row)(a:Nat):Int:=match z95 rs a with
 | none=>5
 | some i=>if(rowN rs i).2=65535 then 4 else 0
def retI(rs:List Row)(a:Nat):Nat:=(z95 rs a).getD 0
def za4(rs:List Row)(a:Nat):List Row:=rs.set (retI rs a) (a,(rowN rs (retI rs a)).2+1)
theorem zt5{a i:Nat}(h:z95 rs a=some i):i<rs.length:=by
 unfold z95 at h;split at h
 ·rename_i j hj;cases h;exact(List.findIdx?_eq_some_iff_getElem.1 hj).1
 ·exact(List.findIdx?_eq_some_iff_getElem.1 h).1
theorem zin{a:Nat}(ha:a<65536)(ok:RowsOk rs)(hr:RdC T s 2 (z13 rs))(hN:100<N):Tri (z00 [T]) (F_1d N s (a:Int)) fun r=>pu (r.2.2=z3a rs a∧(z3a rs a=0→r.2.1=(retI rs a:Nat)∧retI rs a<16)) (z00 [if z3a rs a=0 then z08 r.1 2 (z13 (za4 rs a))else emp,T]):=by
 have hlen:=z7k hr;have h16:=ok.len;unfold F_1d;refine z02 [0] (z7n ok hr hN) fun r=>z04 fun h=>z01 ?_;subst h;dsimp only[sel,rem,nth,del,cat,upd];refine z05 (by simp) ?_;refine z02 [0] (zqk ha hr ok.len hN) fun r=>z04 fun h=>z01 ?_;subst h;dsimp only[sel,rem,nth,del,cat,upd];refine z02 [0] (Q:=fun r=>pu (r=match z95 rs a with | some i=>(i:Int) | none => -1) (z00 [T])) ?_ fun j=>z04 fun hj=>z01 ?_
 ·cases hx:rs.findIdx? (z2v a)with
  | none=>
   rw[ze7 hx];refine z07 (by simp) (z02 [0] (zul hr ok.len hN) fun r=>z04 fun h=>z01 (z03 [0] fun q hq=>⟨?_,hq⟩));rw[h];unfold z95 fi;rw[hx];rfl
  | some i=>
   rw[ze8 hx];refine z05 (by simp) (z03 [0] fun q hq=>⟨?_,hq⟩);unfold z95;rw[hx]
 ·dsimp only[sel,rem,nth,del,cat,upd];cases hx:z95 rs a with
  | none=>
   rw[hx]at hj;subst hj;have hE:z3a rs a=5:=by unfold z3a;rw[hx]
   refine z07 (by simp) (z03 [0] fun q hq=>⟨⟨hE.symm,fun c=>by rw[hE]at c;cases c⟩,?_⟩);rw[if_neg (by rw[hE];decide)];exact z2z (fun _ h=>h) hq
  | some i=>
   rw[hx]at hj;subst hj;have hi:=zt5 hx;have hrow:rowN rs i=rs[i]:=by simp[rowN,hi]
   have hI:retI rs a=i:=by unfold retI;rw[hx];rfl
   have hb:=(ok.rng _ (List.getElem_mem hi)).2;refine z05 (by simp) ?_;have hg:(z13 rs)[i * 2+1]? = some (.int .i64 (rs[i].2:Int)):=by rw[z2u z1c hi (by omega)];rfl
   refine z1s 0 rfl hr (by omega) (by omega) hg ?_;by_cases hf:rs[i].2=65535
   ·have hE:z3a rs a=4:=by unfold z3a;rw[hx];simp only[hrow,hf,if_true]
    refine z07 (by simp[hf]) (z03 [0] fun q hq=>⟨⟨hE.symm,fun c=>by rw[hE]at c;cases c⟩,?_⟩);rw[if_neg (by rw[hE];decide)];exact z2z (fun _ h=>h) hq
   ·have hE:z3a rs a=0:=by unfold z3a;rw[hx];simp only[hrow,hf,if_false]
    refine z05 (by simp;omega) ?_;refine z1s 0 rfl hr (by omega) (by omega) hg ?_;rw[z0i (by omega) (by omega)];have e:((rs[i].2:Int)+1)=((rs[i].2+1:Nat):Int):=by simp
    rw[e];refine z02 [0] (zfj hr ok.len (by omega) a (rs[i].2+1)) fun r=>z01 ?_;refine z03 [0,0] fun q hq=>⟨⟨hE.symm,fun _=>⟨by rw[hI],by omega⟩⟩,?_⟩;rw[if_pos hE];unfold za4;rw[hI,hrow];exact hq
def z7f(rs:List Row)(i:Nat):List Row:=rs.set i (if(rowN rs i).2=1 then(0,0)else((rowN rs i).1,(rowN rs i).2 - 1))
theorem zql(ok:RowsOk rs)(hr:RdC T s 2 (z13 rs)){i:Nat}(hi:i<16)(h0:0<(rowN rs i).2)(hN:100<N):Tri (z00 [T]) (F_2p N s (i:Int)) fun r=>pu (r.2=0) (z00 [z08 r.1 2 (z13 (z7f rs i)),T]):=by
 have hlen:=z7k hr;have h16:=ok.len;have hil:i<rs.length:=by omega
 have hrow:rowN rs i=rs[i]:=by simp[rowN,hil]
 rw[hrow]at h0;have hb:=(ok.rng _ (List.getElem_mem hil)).2;unfold F_2p;refine z02 [0] (z7n ok hr hN) fun r=>z04 fun h=>z01 ?_;subst h;dsimp only[sel,rem,nth,del,cat,upd];refine z05 (by simp[hlen];omega) ?_;have hg:(z13 rs)[i * 2+1]? = some (.int .i64 (rs[i].2:Int)):=by rw[z2u z1c hil (by omega)];rfl
 have hg0:(z13 rs)[i * 2+0]? = some (.int .u16 (rs[i].1:Int)):=by rw[z2u z1c hil (by omega)];rfl
 refine z1s 0 rfl hr (by omega) (by omega) hg (z05 (by simp;omega) (z1s 0 rfl hr (by omega) (by omega) hg ?_));by_cases h1:rs[i].2=1
 ·refine z07 (by simp[h1]) ?_;refine z02 [0] (zfj hr ok.len hi 0 0) fun r=>z01 (z03 [0,0] fun q hq=>⟨rfl,?_⟩);unfold z7f;rw[hrow,if_pos h1];exact hq
 ·refine z05 (by simp;omega) ?_;refine z1s 0 rfl hr (by omega) (by omega) hg0 (z1s 0 rfl hr (by omega) (by omega) hg ?_);rw[z0i (by omega) (by omega)];have e:((rs[i].2:Int) - 1)=((rs[i].2 - 1:Nat):Int):=by omega
  rw[e];refine z02 [0] (zfj hr ok.len hi rs[i].1 (rs[i].2 - 1)) fun r=>z01 (z03 [0,0] fun q hq=>⟨rfl,?_⟩);unfold z7f;rw[hrow,if_neg h1];exact hq
end
end Go.Moat

/- Layer 11: inodes. -/
namespace Go.Mini
section
variable{β:Type}{l:List HA}{S:β→HA}
theorem z155(is:List Nat){b c:Nat}{x y:Blk}{m:M β}(hs:sel is l=[pts b x,pts c y])(k:b≠c→Tri (z00 l) m S):Tri (z00 l) m S:=by
 rintro h q hq hh
 have hq2:=hq;rw[z72 is l,hs]at hq2;obtain⟨q1,q2,h1,_⟩:=hq2;have h3:z1a (pts b x) (pts c y) q1:=by
  have:z00 [pts b x,pts c y]=z1a (pts b x) (pts c y):=by
   show z1a _ (z1a _ emp)=_;rw[z40]
  rwa [this]at h1
 exact k (z151 h3) h q hq hh
end
end Go.Mini
namespace Go.Moat
open Go.Mini
def i64s(xs:List Int):List MV:=xs.map (.int .i64)
theorem zav(xs:List Int):(i64s xs).length=xs.length:=by simp[i64s]
theorem zn6(xs:List Int):(i64s xs).all z0v=true:=by simp[i64s,z0v]
theorem zjd{xs:List Int}{i:Nat}(h:i<xs.length):(i64s xs)[i]? = some (.int .i64 xs[i]):=by simp[i64s,h]
structure Ino where
 k:Nat
 r:Nat
 xs:{l:List Int // l.length=12}
 deriving DecidableEq
def Ino.z:Ino:=⟨0,0,⟨List.replicate 12 0,by simp⟩⟩
def z0u(n:Ino):List MV :=.int .u8 n.k :: .int .u8 n.r::i64s n.xs.1
theorem z0h(n:Ino):(z0u n).length=14:=by simp[z0u,zav,n.xs.2]
theorem z88(n:Ino):(z0u n).all z0v=true:=by
 unfold z0u;rw[List.all_cons,List.all_cons,zn6];rfl
theorem z89:([MV.int .u8 (0:Int),MV.int .u8 (0:Int)]++z0q 12 [MV.int .i64 (0:Int)])=z0u Ino.z:=rfl
def Ino.at(n:Ino)(i:Nat):Int:=n.xs.1[i]?.getD 0
def z2i(p:Int):Bool:=decide (0≤p)&&decide (p≤512)
def Ino.ok(n:Ino):Bool:=decide (n.k<3)&&(decide (n.k≠0) || decide (n=Ino.z))&&decide (n.r<16)&&(decide (0≤n.at 0)&&decide (n.at 0≤65535))&&(decide (0≤n.at 1)&&decide (n.at 1≤3840))&&(n.xs.1.drop 2).all z2i
theorem Ino.get_at(n:Ino){i:Nat}(h:i<12):n.xs.1[i]? = some (n.at i):=by
 unfold Ino.at;rw[List.getElem?_eq_getElem (by rw[n.xs.2];exact h)];rfl
theorem z5o(n:Ino){i:Nat}(h:i<12):(z0u n)[i+2]? = some (.int .i64 (n.at i)):=by
 unfold z0u i64s;simp[n.get_at h]
theorem Ino.ext{n m:Ino}(hk:n.k=m.k)(hr:n.r=m.r)(h:∀i,i<12→n.at i=m.at i):n=m:=by
 obtain⟨k,r,xs,hx⟩:=n;obtain⟨k',r',xs',hx'⟩:=m;dsimp only at hk hr;subst hk hr;have:xs=xs':=by
  apply List.ext_getElem (by omega);intro i h1 h2;have:=h i (by omega)
  unfold Ino.at at this;simpa[h1,h2]using this
 subst this;rfl
section
variable{N:Nat}{β:Type}{l:List HA}{S:β→HA}{T:HA}{s:Sl}{n:Ino}
theorem eqZ(n:Ino):z7u [(0,.int .u8),(1,.int .u8),(2,.int .i64),(3,.int .i64),(4,.int .i64),(5,.int .i64),(6,.int .i64),(7,.int .i64),(8,.int .i64),(9,.int .i64),(10,.int .i64),(11,.int .i64),(12,.int .i64),(13,.int .i64)] (z0u n) (z0u Ino.z)=some (decide (n=Ino.z)):=by
 obtain⟨k,r,xs,hx⟩:=n;match xs,hx with
 | [a,b,c,d,e,f,g,h,i,j,p,q],_=>
  simp only[z0u,i64s,Ino.z,z7u,eqC,List.getElem?_cons_zero,List.getElem?_cons_succ,List.map_cons,List.map_nil,List.replicate,and_self,if_true];congr 1;rw[Bool.eq_iff_iff];simp[Ino.mk.injEq]
theorem zru(hN:20<N):z0l N (F_0x N (i64s (n.xs.1.drop 2 |>.take 8))) (0:Int)=ret (if(n.xs.1.drop 2 |>.take 8).all z2i then .inl ()else .inr false):=by
 have hl:(n.xs.1.drop 2 |>.take 8).length=8:=by simp[n.xs.2]
 generalize (n.xs.1.drop 2 |>.take 8)=ds at hl;have loop:∀(K j:Nat),8 - j<K→j≤8→z0l K (F_0x N (i64s ds)) (j:Int)=ret (if(ds.drop j).all z2i then .inl ()else .inr false):=by
  intro K;induction K with
  | zero=>intro j h;omega
  | succ K ih=>
   intro j h hj;rw[z18];unfold F_0x;by_cases h8:j<8
   ·rw[if_pos (by simp;omega)];have e1:idxV 8 (i64s ds) (j:Int)=ret (.int .i64 ds[j]):=by
     unfold idxV;rw[if_pos (by omega),Int.toNat_natCast,zjd (by omega)];rfl
    rw[e1,List.drop_eq_getElem_cons (by omega),List.all_cons];show(if(!z2i ds[j])=true then _ else _)=_;cases hp:z2i ds[j]
    ·rfl
    ·rw[if_neg (by simp),z0i (by omega) (by omega)];exact ih (j+1) (by omega) (by omega)
   ·obtain rfl:j=8:=by omega
    rw[if_neg (by simp),List.drop_of_length_le (by omega)];rfl
 exact loop N 0 (by omega) (by omega)
theorem zb9(hN:20<N):F_0i N (z0u n)=ret n.ok:=by
 unfold F_0i;have g0:(z0u n)[0]? = some (.int .u8 n.k):=rfl;have g1:(z0u n)[1]? = some (.int .u8 n.r):=rfl;have g2:(z0u n)[2]? = some (.int .i64 (n.at 0)):=z5o n (i:=0) (by omega);have g3:(z0u n)[3]? = some (.int .i64 (n.at 1)):=z5o n (i:=1) (by omega);have g12:(z0u n)[12]? = some (.int .i64 (n.at 10)):=z5o n (i:=10) (by omega);have g13:(z0u n)[13]? = some (.int .i64 (n.at 11)):=z5o n (i:=11) (by omega);have e14:0+14≤(z0u n).length:=by rw[z0h];omega
 have t14:((z0u n).drop 0).take 14=z0u n:=by rw[List.drop_zero,List.take_of_length_le (by rw[z0h];omega)]
 have e8:4+8≤(z0u n).length:=by rw[z0h];omega
 have t8:((z0u n).drop 4).take 8=i64s (n.xs.1.drop 2 |>.take 8):=by simp[z0u,i64s]
 rw[g0,g1,g2,g3,g12,g13,if_pos e14,t14,if_pos e8,t8,z89];have hall:(n.xs.1.drop 2).all z2i=((n.xs.1.drop 2 |>.take 8).all z2i&&(z2i (n.at 10)&&z2i (n.at 11))):=by
  obtain⟨k,r,xs,hx⟩:=n;match xs,hx with
  | [a,b,c,d,e,f,g,h,i,j,p,q],_=>simp[Ino.at,Bool.and_assoc]
 have lp:=zru (n:=n) hN;show bd (if(decide ((3:Int)≤(n.k:Int)))=true then ret (decide ((3:Int)≤(n.k:Int)))else(bd (if(decide ((n.k:Int)=0))=true then z19 (z7u _ (z0u n) (z0u Ino.z)) (fun z=>ret (!z))else ret false) fun c8=>bd (if c8=true then ret c8 else ret (decide ((16:Int)≤(n.r:Int)))) fun j=>ret j)) (fun j12=>if j12=true then ret false else bd (if decide (n.at 0<0)=false then ret (decide (65535<n.at 0))else ret true) fun c17=>bd (if c17=false then ret (decide (n.at 1<0))else ret true) fun c20=>bd (if c20=false then ret (decide (3840<n.at 1))else ret true) fun c23=>if c23=true then ret false else bd (show M (Unit⊕Bool)from z0l N (F_0x N (i64s (n.xs.1.drop 2 |>.take 8))) (0:Int)) fun j30=>match j30 with
  | .inl _=>bd (if z2i (n.at 10)=true then ret (z2i (n.at 11))else ret false) fun c39=>ret c39
  | .inr j=>ret j)=ret n.ok
 rw[eqZ];show bd (if(decide ((3:Int)≤(n.k:Int)))=true then ret (decide ((3:Int)≤(n.k:Int)))else(bd (if(decide ((n.k:Int)=0))=true then ret (!decide (n=Ino.z))else ret false) fun c8=>bd (if c8=true then ret c8 else ret (decide ((16:Int)≤(n.r:Int)))) fun j=>ret j)) (fun j12=>if j12=true then ret false else bd (if decide (n.at 0<0)=false then ret (decide (65535<n.at 0))else ret true) fun c17=>bd (if c17=false then ret (decide (n.at 1<0))else ret true) fun c20=>bd (if c20=false then ret (decide (3840<n.at 1))else ret true) fun c23=>if c23=true then ret false else bd (z0l N (F_0x N (i64s (n.xs.1.drop 2 |>.take 8))) (0:Int)) fun j30=>match j30 with
  | .inl _=>bd (if z2i (n.at 10)=true then ret (z2i (n.at 11))else ret false) fun c39=>ret c39
  | .inr j=>ret j)=ret n.ok
 rw[lp];unfold Ino.ok;rw[hall];have br:∀{α γ:Type}(a:α)(f:α→M γ),bd (ret a) f=f a:=fun a f=>rfl;by_cases c1:n.k<3
 case neg=>simp[show(3:Int)≤(n.k:Int) by omega,br,c1]
 have f1:¬(3:Int)≤(n.k:Int):=by omega
 by_cases c2:(n.k≠0∨n=Ino.z)
 case neg=>
  rw[not_or]at c2;have k0:n.k=0:=Classical.not_not.1 c2.1;simp[k0,c2.2,br]
 have f2:(if(decide ((n.k:Int)=0))=true then(ret (!decide (n=Ino.z)))else ret false:M Bool)=ret false:=by
  split
  ·rename_i hk;have:n=Ino.z:=c2.resolve_left fun c=>c (by simpa using hk)
   simp[this]
  ·rfl
 have f4:(decide (n.k≠0) || decide (n=Ino.z))=true:=by simpa using c2
 rw[f2,f4];by_cases c3:n.r<16
 case neg=>simp[f1,br,c3,show(16:Int)≤(n.r:Int) by omega]
 have f3:¬(16:Int)≤(n.r:Int):=by omega
 by_cases c4:0≤n.at 0
 case neg=>simp[f1,f3,br,c4,show n.at 0<0 by omega]
 by_cases c5:n.at 0≤65535
 case neg=>simp[f1,f3,br,c5,show ¬n.at 0<0 by omega,show(65535:Int)<n.at 0 by omega]
 by_cases c6:0≤n.at 1
 case neg=>simp[f1,f3,br,c6,show ¬n.at 0<0 by omega,show ¬(65535:Int)<n.at 0 by omega,show n.at 1<0 by omega]
 by_cases c7:n.at 1≤3840
 case neg=>simp[f1,f3,br,c7,show ¬n.at 0<0 by omega,show ¬(65535:Int)<n.at 0 by omega,show ¬n.at 1<0 by omega,show(3840:Int)<n.at 1 by omega]
 simp only[f1,f3,decide_false,Bool.false_eq_true,if_false,br,show ¬n.at 0<0 by omega,show ¬(65535:Int)<n.at 0 by omega,show ¬n.at 1<0 by omega,show ¬(3840:Int)<n.at 1 by omega,if_true];cases ha:(n.xs.1.drop 2 |>.take 8).all z2i
 ·simp[br]
 ·cases hb:z2i (n.at 10)<;>cases hc:z2i (n.at 11)<;>simp[br,c1,c3,c4,c5,c6,c7]
def z3c(n:Ino):List Nat:=(n.k+256 * n.r)::n.xs.1.map Int.toNat
def z4j(n:Ino):List UInt8:=z1y (z3t 2 (z3c n)) 32
theorem z73(n:Ino):(z3c n).length=13:=by simp[z3c,n.xs.2]
theorem zt7(n:Ino):z4j n=z3t 2 (z3c n++[0,0,0]):=by
 unfold z4j z1y;rw[zqm,lays_len,z73];rfl
theorem z2g(n:Ino):(z4j n).length=32:=by rw[zt7,lays_len,List.length_append,z73];rfl
structure Ino.Ok(n:Ino):Prop where
 k:n.k<3
 z:n.k=0→n=Ino.z
 r:n.r<16
 l0:0≤n.at 0
 l1:n.at 0≤65535
 s0:0≤n.at 1
 s1:n.at 1≤3840
 p:∀i,2≤i→i<12→0≤n.at i∧n.at i≤512
theorem Ino.ok_iff:n.ok=true↔n.Ok:=by
 unfold Ino.ok;simp only[Bool.and_eq_true,Bool.or_eq_true,decide_eq_true_eq,List.all_eq_true];constructor
 ·rintro⟨⟨⟨⟨⟨h1,h2⟩,h3⟩,h4,h5⟩,h6,h7⟩,h8⟩
  refine⟨h1,fun c=>h2.resolve_left fun d=>d c,h3,h4,h5,h6,h7,fun i hi h12=>?_⟩;have hm:n.at i∈n.xs.1.drop 2:=by
   refine List.mem_of_getElem? (i:=i - 2) ?_;rw[List.getElem?_drop,show 2+(i - 2)=i by omega];exact n.get_at h12
  have:=h8 _ hm
  unfold z2i at this;simpa using this
 ·rintro⟨h1,h2,h3,h4,h5,h6,h7,h8⟩
  refine⟨⟨⟨⟨⟨h1,?_⟩,h3⟩,h4,h5⟩,h6,h7⟩,fun x hx=>?_⟩
  ·by_cases c:n.k=0
   ·exact .inr (h2 c)
   ·exact .inl c
  ·obtain⟨i,hi,rfl⟩:=List.mem_iff_getElem.1 hx;have hl:=n.xs.2;rw[List.length_drop,hl]at hi;have:=h8 (i+2) (by omega) (by omega)
   have e:(n.xs.1.drop 2)[i]'(by rw[List.length_drop,hl];exact hi)=n.at (i+2):=by
    unfold Ino.at;rw[List.getElem?_eq_getElem (by omega)];simp[Nat.add_comm]
   rw[e];unfold z2i;simpa using this
theorem Ino.Ok.rng(h:n.Ok){i:Nat}(hi:i<12):0≤n.at i∧n.at i≤65535:=by
 by_cases c:2≤i
 ·have:=h.p i c hi
  omega
 ·have:i=0∨i=1:=by omega
  rcases this with rfl | rfl
  ·exact⟨h.l0,h.l1⟩
  ·have:=h.s1
   exact⟨h.s0,by omega⟩
theorem z_ok:Ino.z.Ok:=Ino.ok_iff.1 (by decide)
theorem z10l(h:n.Ok):∀x∈z3c n++[0,0,0],x<256^2:=by
 intro x hx;rcases List.mem_append.1 hx with hx | hx
 ·rcases List.mem_cons.1 hx with rfl | hx
  ·have:=h.k
   have:=h.r
   omega
  ·obtain⟨y,hy,rfl⟩:=List.mem_map.1 hx;obtain⟨i,hi,rfl⟩:=List.mem_iff_getElem.1 hy;have hl:=n.xs.2;have:=h.rng (i:=i) (by omega)
   have e:n.xs.1[i]=n.at i:=by
    have:=n.get_at (i:=i) (by omega)
    rw[List.getElem?_eq_getElem hi]at this;exact Option.some.inj this
   rw[e];omega
 ·simp at hx;omega
theorem zxx{i:Nat}(hi:i<12):(z3c n++[0,0,0])[i+1]? = some (n.at i).toNat:=by
 rw[List.getElem?_append_left (by rw[z73];omega)];unfold z3c;rw[List.getElem?_cons_succ,List.getElem?_map,n.get_at hi];rfl
def z8z(n:Ino)(m:Nat):List MV :=.int .u8 n.k :: .int .u8 n.r::i64s (n.xs.1.take m++List.replicate (12 - m) 0)
theorem z9m(n:Ino)(m:Nat)(h:m≤12):(z8z n m).length=14:=by
 simp[z8z,zav,n.xs.2];omega
theorem zhd(n:Ino){m:Nat}(h:m<12):(z8z n m).set (m+2) (.int .i64 (n.at m))=z8z n (m+1):=by
 have hl:=n.xs.2;have hg:n.xs.1[m]'(by omega)=n.at m:=by
  have:=n.get_at h
  rw[List.getElem?_eq_getElem (by omega)]at this;exact Option.some.inj this
 unfold z8z;rw[List.set_cons_succ,List.set_cons_succ];congr 2;unfold i64s;rw[List.map_append,List.map_append,List.set_append_right _ _ (by simp[hl];omega),List.length_map,List.length_take,hl,Nat.min_eq_left (by omega),Nat.sub_self,List.take_succ_eq_append_getElem (by omega),hg,show 12 - m=(12 - (m+1))+1 by omega,List.replicate_succ];simp
theorem zxy(n:Ino):z8z n 12=z0u n:=by
 unfold z8z z0u;rw[List.take_of_length_le (by rw[n.xs.2];omega)];simp
theorem z9n{cs vs:List MV}(h:vs.length=cs.length):z0w cs 0 vs=vs:=by
 unfold z0w;simp[h]
theorem zuq(h:n.Ok)(hr:RdC T s 1 (bytesOf (z4j n)))(hN:5000<N):Tri (z00 [T]) (F_2e N s) fun r=>pu (r=(z0u n,0)) (z00 [T]):=by
 have hlen:s.len=32:=by
  have:=hr.1
  rw[z0e,z2g]at this;omega
 unfold F_2e;refine z02 [0] (zh9 (size:=2) (k:=16) hr (by omega) (by omega) (by rw[z2g]) (by rw[z2g];omega) hN) fun r=>z04 fun hr2=>z01 ?_;dsimp only[sel,rem,nth,del,cat,upd];have e16:z4c 2 16 (z4j n)=z3c n++[0,0,0]:=by
  have:=zdg (size:=2) (z3c n++[0,0,0]) (z10l h)
  rw[List.length_append,z73]at this;rw[zt7];exact this
 rw[e16];have hL:(z3c n++[0,0,0]).length=16:=by rw[List.length_append,z73];rfl
 refine z05 (by simp[hr2,hlen]) ?_;obtain⟨rs,re⟩:=r;dsimp only;refine z6w 0 rfl (fun h1 h2=>?_) fun b ln h1 h2=>?_
 ·have:=congrArg List.length h2
  rw[z4u,hL]at this;cases this
 subst h1;rw[z4u,hL,Nat.mul_one]at h2;subst h2;dsimp only[sel,rem,nth,del,cat,upd];have g:∀i(hi:i<16),(z1u (z3c n++[0,0,0]))[0+i * 1]? = some (.int .u64 ((z3c n++[0,0,0])[i]'(by omega):Nat)):=by
  intro i hi;rw[Nat.zero_add,Nat.mul_one];unfold z1u;rw[List.getElem?_map,List.getElem?_eq_getElem (by omega)];rfl
 have hk:=h.k;have hrr:=h.r;have v0:(z3c n++[0,0,0])[0]'(by omega)=n.k+256 * n.r:=rfl;have vi:∀i(hi:i<12),(z3c n++[0,0,0])[i+1]'(by omega)=(n.at i).toNat:=by
  intro i hi;have:=zxx (n:=n) hi
  rw[List.getElem?_eq_getElem (by omega)]at this;exact Option.some.inj this
 have vz:∀i(hi:i<3),(z3c n++[0,0,0])[i+13]'(by omega)=0:=by
  intro i hi;rw[List.getElem_append_right (by rw[z73];omega)];simp only[z73,Nat.add_sub_cancel];match i,hi with
  | 0,_=>rfl
  | 1,_=>rfl
  | 2,_=>rfl
 refine z1x (i:=0) (by omega) (z2d 0 rfl (g 0 (by omega)) ?_);refine z1x (i:=0) (by omega) (z2d 0 rfl (g 0 (by omega)) ?_);refine z1x (i:=1) (by omega) (z2d 0 rfl (g 1 (by omega)) ?_);refine z1x (i:=2) (by omega) (z2d 0 rfl (g 2 (by omega)) ?_);refine z0z fun c=>?_;rw[v0,vi 0 (by omega),vi 1 (by omega)];have r0:=h.rng (i:=0) (by omega);have r1:=h.rng (i:=1) (by omega);have e0:wr .u8 ((n.k+256 * n.r:Nat):Int)=(n.k:Int):=by
  rw[zqo rfl];show(((n.k+256 * n.r)%256:Nat):Int)=_;congr 1;omega
 have e1:wr .u8 (zci .u64 ((n.k+256 * n.r:Nat):Int) (8:Int))=(n.r:Int):=by
  have:=zhy (k :=.u64) (a:=n.k+256 * n.r) (j:=8) (by decide)
  rw[show((8:Nat):Int)=8 from rfl]at this;rw[this,show(n.k+256 * n.r) / 2^8=n.r by omega,zd8 rfl (by show n.r<256;omega)]
 rw[e0,e1,Int.toNat_of_nonneg r0.1,Int.toNat_of_nonneg r1.1,z0i (by omega) (by omega),z0i (by omega) (by omega)];have eup:([MV.int .u8 (n.k:Int),MV.int .u8 (n.r:Int),MV.int .i64 (n.at 0),MV.int .i64 (n.at 1)]++z0q 10 [MV.int .i64 (0:Int)])=z8z n 2:=by
  have hl:=n.xs.2;unfold z8z;have:n.xs.1.take 2=[n.at 0,n.at 1]:=by
   obtain⟨k,r,xs,hx⟩:=n;match xs,hx with
   | [a,b,c,d,e,f,g,h,i,j,p,q],_=>rfl
  rw[this,zas];rfl
 rw[eup,z89];refine z5n 0 rfl (z9m n 2 (by omega)) (by rw[z9m n 2 (by omega),z0h];omega) (by
  unfold z8z;rw[List.all_cons,List.all_cons,zn6];rfl) ?_
 rw[z9n (by rw[z9m n 2 (by omega),z0h])];dsimp only[sel,rem,nth,del,cat,upd];refine tri_slc (lo:=3) (hi:=16) (by omega) (by omega) (by dsimp only;omega) ?_;have es:z3q 1 ⟨some ⟨b,0⟩,16⟩ (3:Int).toNat (16:Int).toNat=⟨some ⟨b,3⟩,13⟩:=rfl;rw[es];have g3:∀i(hi:i<13),(z1u (z3c n++[0,0,0]))[3+i * 1]? = some (.int .u64 ((z3c n++[0,0,0])[i+3]'(by omega):Nat)):=by
  intro i hi;have:=g (i+3) (by omega)
  rw[show 0+(i+3) * 1=3+i * 1 by omega]at this;exact this
 have loop:∀(K j:Nat),8 - j<K→j≤8→Tri (z00 [pts c (.cells (z8z n (j+2)) false),pts b (.cells (z1u (z3c n++[0,0,0])) false),T]) (z0l K (F_4e N (some ⟨c,0⟩) ⟨some ⟨b,3⟩,13⟩) (j:Int)) fun _=>z00 [pts c (.cells (z8z n 10) false),pts b (.cells (z1u (z3c n++[0,0,0])) false),T]:=by
  intro K;induction K with
  | zero=>intro j h;omega
  | succ K ih=>
   intro j hK hj;rw[z18];unfold F_4e;by_cases h8:j<8
   ·refine z07 (by simp;omega) ?_;refine z1x (i:=j) (by omega) (z2d 1 rfl (g3 j (by omega)) ?_);refine z06 ?_;have ei:idxA 8 1 (some ⟨c,0+4⟩) (j:Int)=ret (some ⟨c,0+4+j * 1⟩):=by
     unfold idxA;dsimp only;rw[if_pos (by omega),Int.toNat_natCast];rfl
    rw[ei];refine z0s (z1v 0 rfl (by rw[z9m n _ (by omega)];omega) rfl ?_);dsimp only[sel,rem,nth,del,cat,upd];have rj:=h.rng (i:=j+2) (by omega);rw[vi (j+2) (by omega),Int.toNat_of_nonneg rj.1,z0i (n:=n.at (j+2)) (by omega) (by omega),show 0+4+j * 1=j+2+2 by omega,zhd n (by omega),z0i (by omega) (by omega)];exact ih (j+1) (by omega) (by omega)
   ·obtain rfl:j=8:=by omega
    exact z05 (by simp) (z1l fun q hq=>hq)
 refine z02 [0,0,0] (loop N 0 (by omega) (by omega)) fun _=>z01 ?_;dsimp only[sel,rem,nth,del,cat,upd];refine z4g fun _=>?_;refine z1x (i:=8) (by omega) (z2d 1 rfl (g3 8 (by omega)) ?_);refine z1x (i:=9) (by omega) (z2d 1 rfl (g3 9 (by omega)) ?_);refine z06 ?_;have r10:=h.rng (i:=10) (by omega);have r11:=h.rng (i:=11) (by omega);rw[vi 10 (by omega),vi 11 (by omega),Int.toNat_of_nonneg r10.1,Int.toNat_of_nonneg r11.1,z0i (by omega) (by omega),z0i (by omega) (by omega)];refine z1v 0 rfl (by rw[z9m n _ (by omega)];omega) rfl ?_;refine z06 ?_;rw[show 0+12=10+2 from rfl,zhd n (by omega)];dsimp only[sel,rem,nth,del,cat,upd];refine z1v 0 rfl (by rw[z9m n _ (by omega)];omega) rfl ?_;rw[show 0+13=11+2 from rfl,zhd n (by omega),zxy];dsimp only[sel,rem,nth,del,cat,upd];refine z155 [1,0] rfl fun hbc=>?_;have hap:zk5 (Option.map MA.blk (some ⟨b,3+9 * 1⟩)) (Option.map MA.blk (some (⟨c,10+2⟩:MA)))=true:=by
  show(!(Nat.beq b c))=true;have:Nat.beq b c=false:=by
   cases hb:Nat.beq b c with
   | false=>rfl
   | true=>exact absurd (Nat.eq_of_beq_eq_true hb) hbc
  rw[this];rfl
 rw[hap,cond_true];refine tri_slc (lo:=10) (hi:=13) (by omega) (by omega) (by dsimp only;omega) ?_;have es2:z3q 1 ⟨some ⟨b,3⟩,13⟩ (10:Int).toNat (13:Int).toNat=⟨some ⟨b,13⟩,3⟩:=rfl;rw[es2];have hcf:Tri (z00 [pts c (.cells (z0u n) false),pts b (.cells (z1u (z3c n++[0,0,0])) false),T]) (F_2c N ⟨some ⟨b,13⟩,3⟩ ()) fun r=>pu (r=false) (z00 [pts c (.cells (z0u n) false),pts b (.cells (z1u (z3c n++[0,0,0])) false),T]):=by
  unfold F_2c F_3r;refine z02 [0,0,0] (zcs (A:=z00 [pts c (.cells (z0u n) false),pts b (.cells (z1u (z3c n++[0,0,0])) false),T]) (fun x:Nat=>decide (x≠0)) [0,0,0] (by simp;omega) (fun rec i hi Q k=>?_) fun rec Q k=>?_) fun r=>z04 fun h=>z01 (z03 [0,0,0] fun q hq=>⟨by rw[h];rfl,hq⟩)
  ·unfold F_4d;have hi3:i<3:=hi;refine z07 (by simp;omega) ?_;refine z1x (i:=i) hi3 (z2d 1 rfl (v:=0) (by
    have:=g (i+13) (by omega)
    rw[vz i hi3,show 0+(i+13) * 1=13+i * 1 by omega]at this;exact this) ?_)
   unfold F_3q;refine z0s (z05 (by simp) ?_);rw[z0i (by omega) (by omega)];have:(decide (([0,0,0]:List Nat)[i]≠0))=false:=by
    match i,hi3 with
    | 0,_=>rfl
    | 1,_=>rfl
    | 2,_=>rfl
   rw[this]at k;exact k
  ·unfold F_4d;exact z05 (by simp) k
 refine z02 [0,0,0] hcf fun r29=>z04 fun h29=>z01 ?_;subst h29;dsimp only[sel,rem,nth,del,cat,upd];refine z02 [0,0,0] (Q:=fun c'=>pu (c'=false) (z00 [pts c (.cells (z0u n) false),pts b (.cells (z1u (z3c n++[0,0,0])) false),T])) ?_ fun c'=>z04 fun hc'=>z01 ?_
 ·refine z07 rfl (z7m 0 rfl (by rw[z0h];omega) ?_);rw[List.drop_zero,List.take_of_length_le (by rw[z0h];omega),zb9 (by omega),Ino.ok_iff.2 h];exact z0s (z03 [0,0,0] fun q hq=>⟨rfl,hq⟩)
 ·subst hc';dsimp only[sel,rem,nth,del,cat,upd];refine z05 (by simp) (z7m 0 rfl (by rw[z0h];omega) ?_);rw[List.drop_zero,List.take_of_length_le (by rw[z0h];omega),if_pos ⟨z0h n,by rw[z0h];omega,z88 n⟩];refine z0s ?_;rw[z9n (by rw[z0h,z0h]),if_pos (by rw[z0h];omega),List.drop_zero,List.take_of_length_le (by rw[z0h];omega)];exact z0s (z03 [2] fun q hq=>⟨rfl,hq⟩)
end
end Go.Moat
