/- The document's answer for layers 8, 10 and 11: bits, rows, inodes. -/
import Derived.Test.YtcaaljlhljemoaaGreatP15l
namespace Go.Moat
open Go.Mini
theorem z101(bs:List UInt8){lo j:Nat}(h:lo≤j):z39 bs lo (j+1)=z39 bs lo j+if z0r bs j=true then 1 else 0:=by
 unfold z39;rw[show j+1 - lo=(j - lo)+1 by omega,List.range'_concat,List.filter_append,List.length_append];rw[show lo+1 * (j - lo)=j by omega];congr 1;by_cases hb:z0r bs j=true
 ·simp[hb]
 ·simp[hb]
theorem cnt_le'(bs:List UInt8)(lo j:Nat):z39 bs lo j≤j - lo:=Nat.le_trans (List.length_filter_le _ _) (by simp)
def z7p(f:Nat→Bool):Nat→Nat
 | 0=>0
 | m+1=>z7p f m+if f m=true then 2^m else 0
theorem zsr(f:Nat→Bool):∀m,z7p f m<2^m
 | 0=>by simp[z7p]
 | m+1=>by
  have:=zsr f m
  unfold z7p;rw[Nat.pow_succ];split<;>omega
theorem zmv(x:Nat):∀m,z7p (fun t=>x.testBit t) m=x%2^m
 | 0=>by simp[z7p,Nat.mod_one]
 | m+1=>by
  unfold z7p;rw[zmv x m,Nat.mod_pow_succ];congr 1;have h2:x / 2^m%2<2:=Nat.mod_lt _ (by omega);rw[Nat.testBit_eq_decide_div_mod_eq];generalize x / 2^m%2=y at *;rcases(show y=0∨y=1 by omega)with rfl | rfl<;>simp
section
variable{N:Nat}{β:Type}{l:List HA}{S:β→HA}{T:HA}{s:Sl}{bs:List UInt8}{rs:List Row}
theorem zx2(hr:RdC T s 1 (bytesOf bs))(hb:bs.length≤512)(i:Int)(hN:100<N):Tri (z00 [T]) (F_08 N s i) fun r=>pu (r=(decide (0≤i)&&z0r bs i.toNat)) (z00 [T]):=by
 have hlen:=z4o hr;unfold F_08;rw[hlen];have e8:(8:Int) * (bs.length:Int)=((8 * bs.length:Nat):Int):=by simp
 rw[e8,z0i (n:=((8 * bs.length:Nat):Int)) (by omega) (by omega)];by_cases h:0≤i∧i<((8 * bs.length:Nat):Int)
 ·obtain⟨k,rfl⟩:∃k:Nat,i=k:=⟨i.toNat,by omega⟩;refine z05 (by simp;omega) ?_;have e1:(k:Int).tdiv 8=((k / 8:Nat):Int):=rfl;have e2:(k:Int).tmod 8=((k%8:Nat):Int):=rfl;rw[e1,z0i (by omega) (by omega)];have h8:k / 8<bs.length:=by omega
  refine z3h 0 rfl hr (z9l h8) ?_;have hx:=bs[k / 8].toNat_lt;have loop:∀(K j:Nat),k%8 - j<K→j≤k%8→Tri (z00 [T]) (z0l K (F_51 N (k:Int)) (((bs[k / 8].toNat / 2^j:Nat):Int),(j:Int))) fun r=>pu (r=((bs[k / 8].toNat / 2^(k%8):Nat):Int)) (z00 [T]):=by
   intro K;induction K with
   | zero=>intro j h;omega
   | succ K ih=>
    intro j h hj;rw[z18];unfold F_51;rw[e2];dsimp only;by_cases hjk:j<k%8
    ·refine z07 (by simp;omega) ?_;have e3:((bs[k / 8].toNat / 2^j:Nat):Int).tdiv 2=((bs[k / 8].toNat / 2^(j+1):Nat):Int):=by
      rw[Nat.pow_succ,←Nat.div_div_eq_div_mul];rfl
     have h4:bs[k / 8].toNat / 2^(j+1)≤bs[k / 8].toNat:=Nat.div_le_self _ _;have ih':=ih (j+1) (by omega) (by omega);rw[e3];generalize bs[k / 8].toNat / 2^(j+1)=X at *;rw[wr8 (by omega) (by omega),z0i (by omega) (by omega)];exact ih'
    ·obtain rfl:j=k%8:=by omega
     exact z05 (by simp) (z03 [0] fun q hq=>⟨rfl,hq⟩)
  have l0:=loop N 0 (by omega) (by omega);rw[Nat.pow_zero,Nat.div_one]at l0;refine z02 [0] (l0.pre fun q hq=>hq) fun r=>z04 fun hr=>z01 (z03 [0] fun q hq=>⟨?_,hq⟩);rw[hr];unfold z0r;rw[Int.toNat_natCast,List.getElem?_eq_getElem h8];simp only[Nat.testBit_eq_decide_div_mod_eq,Int.natCast_nonneg,decide_true,Bool.true_and];congr 1;have e5:((bs[k / 8].toNat / 2^(k%8):Nat):Int).tmod 2=((bs[k / 8].toNat / 2^(k%8)%2:Nat):Int):=rfl;rw[e5];apply propext;omega
 ·refine z07 (by simp;omega) (z03 [0] fun q hq=>⟨?_,hq⟩);by_cases h0:0≤i
  ·have:z0r bs i.toNat=false:=by
    cases hg:z0r bs i.toNat with
    | false=>rfl
    | true=>have:=zhb hg;omega
   simp[this]
  ·simp[h0]
theorem zcm(hr:RdC T s 1 (bytesOf bs))(hb:bs.length≤512)(i:Nat)(hN:100<N):Tri (z00 [T]) (F_08 N s (i:Int)) fun r=>pu (r=z0r bs i) (z00 [T]):=
 (zx2 hr hb i hN).post fun r q hq=>⟨by rw[hq.1];simp,hq.2⟩
theorem zrq(hr:RdC T s 1 (bytesOf bs))(hb:bs.length≤512){lo hi:Nat}(h1:lo≤hi)(h2:hi≤8 * bs.length)(hN:5000<N):Tri (z00 [T]) (F_31 N s (lo:Int) (hi:Int)) fun r=>pu (r=(z39 bs lo hi:Nat)) (z00 [T]):=by
 have hlen:=z4o hr;unfold F_31;have e8:(8:Int) * (bs.length:Int)=((8 * bs.length:Nat):Int):=by simp
 have loop:∀(K j:Nat),8 * bs.length - j<K→j≤8 * bs.length→Tri (z00 [T]) (z0l K (F_55 N s (lo:Int) (hi:Int)) (((z39 bs lo (min j hi):Nat):Int),(j:Int))) fun r=>pu (r=(z39 bs lo hi:Nat)) (z00 [T]):=by
  intro K;induction K with
  | zero=>intro j h;omega
  | succ K ih=>
   intro j h hj;rw[z18];have hw:wr .i64 ((8:Int) * (s.len:Int))=((8 * bs.length:Nat):Int):=by rw[hlen,e8,z0i (by omega) (by omega)]
   unfold F_55;by_cases hjk:j<8 * bs.length
   ·refine z07 (by rw[hw];simp;omega) ?_;refine z02 [0] (Q:=fun c=>pu (c=(decide (lo≤j)&&decide (j<hi)&&z0r bs j)) (z00 [T])) ?_ fun c=>z04 fun hc=>z01 ?_
    ·by_cases hin:lo≤j∧j<hi
     ·refine z07 (by simp;omega) (z02 [0] (zcm hr hb j (by omega)) fun r=>z04 fun h=>z01 (z03 [0] fun q hq=>⟨?_,hq⟩));rw[h];simp[hin.1,hin.2]
     ·refine z05 (by simp;omega) (z03 [0] fun q hq=>⟨?_,hq⟩);by_cases hl:lo≤j
      ·simp[show ¬j<hi by omega]
      ·simp[hl]
    ·have hle:=cnt_le' bs lo (min j hi);have hstep:z39 bs lo (min (j+1) hi)=z39 bs lo (min j hi)+if c=true then 1 else 0:=by
      by_cases hl:lo≤j
      ·by_cases hh:j<hi
       ·rw[show min (j+1) hi=j+1 by omega,show min j hi=j by omega,z101 bs hl,hc];simp[hl,hh]
       ·rw[show min (j+1) hi=hi by omega,show min j hi=hi by omega,hc];simp[hh]
      ·have hz:∀x,x≤lo→z39 bs lo x=0:=fun x hx=>by unfold z39;rw[show x - lo=0 by omega];rfl
       rw[hz _ (by omega),hz _ (by omega),hc];simp[hl]
     dsimp only[sel,rem,nth,del,cat,upd];refine z02 [0] (Q:=fun(r:Int)=>pu (r=((z39 bs lo (min (j+1) hi):Nat):Int)) (z00 [T])) ?_ fun r=>z04 fun hr2=>z01 ?_
     ·rw[hstep];cases c with
      | true=>refine z07 rfl (z03 [0] fun q hq=>⟨?_,hq⟩);rw[z0i (by omega) (by omega)];simp
      | false=>exact z05 (by simp) (z03 [0] fun q hq=>⟨by simp,hq⟩)
     ·subst hr2;dsimp only[sel,rem,nth,del,cat,upd];rw[z0i (n:=(j:Int)+1) (by omega) (by omega)];exact ih (j+1) (by omega) (by omega)
   ·obtain rfl:j=8 * bs.length:=by omega
    refine z05 (by rw[hw];simp) (z03 [0] fun q hq=>⟨?_,hq⟩);rw[show min (8 * bs.length) hi=hi by omega]
 have e0:z39 bs lo (min 0 hi)=0:=by unfold z39;simp
 have:=loop N 0 (by omega) (by omega)
 rw[e0]at this;exact z02 [0] (this.pre fun q hq=>hq) fun r=>z04 fun hr=>z01 (z03 [0] fun q hq=>⟨hr,hq⟩)
theorem zuf(hr:RdC T s 1 (bytesOf bs))(hb:bs.length≤512){i:Nat}(hi:i<8 * bs.length)(on:Bool)(hN:5000<N):Tri (z00 [T]) (F_2z N s (i:Int) on) fun r=>pu (r.2=0) (z00 [z08 r.1 1 (bytesOf (z11 bs i on)),T]):=by
 have hlen:=z4o hr;unfold F_2z;have e8:(8:Int) * (bs.length:Int)=((8 * bs.length:Nat):Int):=by simp
 rw[hlen,e8,z0i (n:=((8 * bs.length:Nat):Int)) (by omega) (by omega)];refine z05 (by simp;omega) (z05 (by simp;omega) ?_);have inner:∀(v:Sl)(k:Nat),k<bs.length→∀(K m p:Nat),8 - m<K→m≤8→p=2^m%256 →
   Tri (z00 [T]) (z0l K (F_52 N s (i:Int) on (v,(k:Int))) (((z7p (fun t=>z0r (z11 bs i on) (8 * k+t)) m:Nat):Int),(p:Int),(m:Int))) fun r=>pu (r=((z7p (fun t=>z0r (z11 bs i on) (8 * k+t)) 8:Nat):Int)) (z00 [T]):=by
  intro v k hk K;induction K with
  | zero=>intro m p h;omega
  | succ K ih=>
   intro m p h hm hp;rw[z18];unfold F_52;by_cases hm8:m<8
   ·refine z07 (by simp;omega) ?_;have e1:(8:Int) * (k:Int)=((8 * k:Nat):Int):=by simp
    have e2:((8 * k:Nat):Int)+(m:Int)=((8 * k+m:Nat):Int):=by simp
    have e4:wr .i64 ((wr .i64 ((8:Int) * (k:Int)))+(m:Int))=((8 * k+m:Nat):Int):=by rw[e1,z0i (n:=((8 * k:Nat):Int)) (by omega) (by omega),e2,z0i (n:=((8 * k+m:Nat):Int)) (by omega) (by omega)]
    dsimp only;rw[e4];refine z02 [0] (zcm hr hb (8 * k+m) (by omega)) fun r8=>z04 fun h8=>z01 ?_;have hbit:=z3s hi on (8 * k+m);refine z02 [0] (Q:=fun c=>pu (c=z0r (z11 bs i on) (8 * k+m)) (z00 [T])) ?_ fun c=>z04 fun hc=>z01 ?_
    ·by_cases he:8 * k+m=i
     ·refine z07 (by simp;omega) (z03 [0] fun q hq=>⟨?_,hq⟩);rw[hbit,if_pos he]
     ·refine z05 (by simp;omega) (z03 [0] fun q hq=>⟨?_,hq⟩);rw[hbit,if_neg he,h8]
    ·have hlt:=zsr (fun t=>z0r (z11 bs i on) (8 * k+t)) (m+1);have hpow:2^(m+1)≤2^8:=Nat.pow_le_pow_right (by omega) (by omega);have hpm:2^m<2^8:=Nat.pow_lt_pow_right (by omega) hm8;have hp':p=2^m:=by rw[hp,Nat.mod_eq_of_lt (by simpa using hpm)]
     have hs:z7p (fun t=>z0r (z11 bs i on) (8 * k+t)) (m+1)=z7p (fun t=>z0r (z11 bs i on) (8 * k+t)) m+if c=true then 2^m else 0:=by
      rw[hc];rfl
     refine z02 [0] (Q:=fun r=>pu (r=((z7p (fun t=>z0r (z11 bs i on) (8 * k+t)) (m+1):Nat):Int)) (z00 [T])) ?_ fun r=>z04 fun hr2=>z01 ?_
     ·generalize z7p (fun t=>z0r (z11 bs i on) (8 * k+t)) (m+1)=y at *;generalize z7p (fun t=>z0r (z11 bs i on) (8 * k+t)) m=x at *;cases c with
      | true=>
       simp only[if_true]at hs;refine z07 rfl (z03 [0] fun q hq=>⟨?_,hq⟩);rw[hp',wr8 (by omega) (by omega),hs];simp
      | false=>
       simp at hs;exact z05 (by simp) (z03 [0] fun q hq=>⟨by rw[hs],hq⟩)
     ·subst hr2;dsimp only[sel,rem,nth,del,cat,upd];have e3:wr .u8 ((p:Int) * 2)=((2^(m+1)%256:Nat):Int):=by
       rw[show(p:Int) * 2=((p * 2:Nat):Int) by simp,zqo rfl,hp',Nat.pow_succ];rfl
      rw[e3,z0i (n:=(m:Int)+1) (by omega) (by omega)];exact ih (m+1) _ (by omega) (by omega) rfl
   ·obtain rfl:m=8:=by omega
    exact z05 (by simp) (z03 [0] fun q hq=>⟨rfl,hq⟩)
 have sl:=z7e bs i on;have hbyte:∀k(hk:k<(z11 bs i on).length),z7p (fun t=>z0r (z11 bs i on) (8 * k+t)) 8=(z11 bs i on)[k].toNat:=by
  intro k hk;have:∀m,m≤8→z7p (fun t=>z0r (z11 bs i on) (8 * k+t)) m=z7p (fun t=>(z11 bs i on)[k].toNat.testBit t) m:=by
   intro m;induction m with
   | zero=>intro _;rfl
   | succ m ih=>
    intro hm;unfold z7p;rw[ih (by omega)];have:z0r (z11 bs i on) (8 * k+m)=(z11 bs i on)[k].toNat.testBit m:=by
     unfold z0r;rw[show(8 * k+m) / 8=k by omega,show(8 * k+m)%8=m by omega,List.getElem?_eq_getElem hk]
    rw[this]
  rw[this 8 (Nat.le_refl _),zmv,Nat.mod_eq_of_lt];exact(z11 bs i on)[k].toNat_lt
 have outer:∀(K k:Nat)(o:Sl),bs.length - k<K→k≤bs.length→Tri (z00 [z08 o 1 (bytesOf ((z11 bs i on).take k)),T]) (z0l K (F_53 N s (i:Int) on) (o,(k:Int))) fun r=>z00 [z08 r 1 (bytesOf (z11 bs i on)),T]:=by
  intro K;induction K with
  | zero=>intro k o h;omega
  | succ K ih=>
   intro k o h hk;rw[z18];unfold F_53;by_cases hkl:k<bs.length
   ·refine z07 (by simp[hlen];omega) ?_;refine z0c 0 rfl fun lo=>?_;rw[z0e,List.length_take]at lo;refine z02 [1] ((inner o k hkl N 0 1 (by omega) (by omega) rfl).pre fun q hq=>hq) fun r=>z04 fun hr2=>z01 ?_;rw[hbyte k (by omega)]at hr2;dsimp only[sel,rem,nth,del,cat,upd];rw[hr2];refine z0z fun b=>?_;refine z02 [2,0] (z2y (s:=o) (by':=1) (T:=pts b (.cells [.int .u8 ((z11 bs i on)[k]'(by omega)).toNat] false)) (rd_pts0 (by simp)) (by omega) rfl (by
     have:most=70368744177664:=rfl
     dsimp only;omega)) fun o2=>z01 ?_
    dsimp only[sel,rem,nth,del,cat,upd];rw[z0i (by omega) (by omega)];refine tri_last [0,1] (Tri.pre (ih (k+1) o2 (by omega) (by omega)) fun q hq=>?_);refine ent_head (fun q h=>?_) hq;have e:bytesOf ((z11 bs i on).take k)++[.int .u8 ((z11 bs i on)[k]'(by omega)).toNat]=bytesOf ((z11 bs i on).take (k+1)):=by
     rw[List.take_add_one,List.getElem?_eq_getElem (show k<(z11 bs i on).length by omega),z8v];rfl
    rw[←e];exact h
   ·obtain rfl:k=bs.length:=by omega
    refine z05 (by simp[hlen]) (z03 [0,0] fun q hq=>?_);rw[List.take_of_length_le (by omega)]at hq;exact hq
 refine z02 [0] ((outer N 0 ⟨none,0⟩ (by omega) (by omega)).pre fun q hq=>z2z (fun q h =>.nil 1 h) hq) fun o=>z01 ?_;exact z03 [0,0] fun q hq=>⟨rfl,hq⟩
end
end Go.Moat

/- The document's answer for layers 10 and 11: rows and inodes. -/
namespace Go.Moat
open Go.Mini
section
variable{N:Nat}{β:Type}{l:List HA}{S:β→HA}{T:HA}{s:Sl}{rs:List Row}{n:Ino}
theorem row_get{i:Nat}(hi:i<rs.length):(z13 rs)[i * 2+1]? = some (.int .i64 (rs[i].2:Int)):=by rw[z2u z1c hi (by omega)];rfl
theorem zft{i:Nat}(hi:i<rs.length):(z13 rs)[i * 2+0]? = some (.int .u16 (rs[i].1:Int)):=by rw[z2u z1c hi (by omega)];rfl
theorem zdh(ok:RowsOk rs)(hr:RdC T s 2 (z13 rs))(hN:100<N):Tri (z00 [T]) (F_0v N s) fun r=>pu (r=true) (z00 [T]):=by
 have hlen:=z7k hr;have h16:=ok.len;unfold F_0v;refine z05 (by simp[hlen,h16]) ?_;have inner:∀(j:Nat)(hj:j<rs.length)(K i:Nat),j - i<K→i≤j→Tri (z00 [T]) (z0l K (F_4y N s (j:Int)) (i:Int)) fun r=>pu (r=.inl ()) (z00 [T]):=by
  intro j hj K;induction K with
  | zero=>intro i h;omega
  | succ K ih=>
   intro i h hi;rw[z18];unfold F_4y;by_cases hij:i<j
   ·have hil:i<rs.length:=by omega
    refine z07 (by simp;omega) ?_;refine z1s 0 rfl hr (by omega) (by omega) (row_get hj) ?_;refine z02 [0] (Q:=fun c=>pu (c=(decide (0<rs[j].2)&&decide (0<rs[i].2))) (z00 [T])) ?_ fun c=>z04 fun hc=>z01 ?_
    ·by_cases h0:0<rs[j].2
     ·refine z07 (by simp;omega) (z1s 0 rfl hr (by omega) (by omega) (row_get hil) (z03 [0] fun q hq=>⟨?_,hq⟩));simp[h0]
     ·refine z05 (by simp;omega) (z03 [0] fun q hq=>⟨by simp[h0],hq⟩)
    ·dsimp only[sel,rem,nth,del,cat,upd];refine z02 [0] (Q:=fun c=>pu (c=false) (z00 [T])) ?_ fun c2=>z04 fun hc2=>z01 ?_
     ·cases hcc:c with
      | true=>
       rw[hcc]at hc;have hc':=hc.symm;simp only[Bool.and_eq_true,decide_eq_true_eq]at hc';have:=ok.dist i j hil hj hc'.2 hc'.1
       refine z07 rfl (z1s 0 rfl hr (by omega) (by omega) (zft hj) (z1s 0 rfl hr (by omega) (by omega) (zft hil) (z03 [0] fun q hq=>⟨?_,hq⟩)));have hne:rs[j].1≠rs[i].1:=fun c=>by have:=this c.symm;omega
       simp;omega
      | false=>exact z05 (by simp) (z03 [0] fun q hq=>⟨rfl,hq⟩)
     ·subst hc2;refine z05 (by simp) ?_;rw[z0i (by omega) (by omega)];exact ih (i+1) (by omega) (by omega)
   ·exact z05 (by simp;omega) (z03 [0] fun q hq=>⟨rfl,hq⟩)
 have outer:∀(K j:Nat),rs.length - j<K→j≤rs.length→Tri (z00 [T]) (z0l K (F_4z N s) (j:Int)) fun r=>pu (r=.inl ()) (z00 [T]):=by
  intro K;induction K with
  | zero=>intro i h;omega
  | succ K ih=>
   intro j h hj;rw[z18];unfold F_4z;by_cases hjl:j<rs.length
   ·have hm:=List.getElem_mem hjl;have h1:=ok.rng _ hm;have hz:=ok.zero _ hm;refine z07 (by simp[hlen];omega) ?_;refine z1s 0 rfl hr (by omega) (by omega) (row_get hjl) ?_;refine z02 [0] (Q:=fun c=>pu (c=false) (z00 [T])) ?_ fun c=>z04 fun hc=>z01 ?_
    ·refine z07 (by simp) (z1s 0 rfl hr (by omega) (by omega) (row_get hjl) (z03 [0] fun q hq=>⟨?_,hq⟩));simp;omega
    ·subst hc;refine z02 [0] (Q:=fun c=>pu (c=false) (z00 [T])) ?_ fun c=>z04 fun hc=>z01 ?_
     ·refine z07 rfl (z1s 0 rfl hr (by omega) (by omega) (row_get hjl) ?_);refine z02 [0] (Q:=fun c=>pu (c=false) (z00 [T])) ?_ fun c=>z04 fun hc=>z01 (z03 [0] fun q hq=>⟨hc,hq⟩);by_cases h0:rs[j].2=0
      ·refine z07 (by simp[h0]) (z1s 0 rfl hr (by omega) (by omega) (zft hjl) (z03 [0] fun q hq=>⟨?_,hq⟩));simp[hz h0]
      ·exact z05 (by simp;omega) (z03 [0] fun q hq=>⟨rfl,hq⟩)
     ·subst hc;refine z05 (by simp) ?_;refine z02 [0] (inner j hjl N 0 (by omega) (by omega)) fun r=>z04 fun hr'=>z01 ?_;subst hr';dsimp only;rw[z0i (by omega) (by omega)];exact ih (j+1) (by omega) (by omega)
   ·exact z05 (by simp[hlen];omega) (z03 [0] fun q hq=>⟨rfl,hq⟩)
 refine z02 [0] (outer N 0 (by omega) (by omega)) fun r=>z04 fun hr'=>z01 ?_;subst hr';exact z03 [0] fun q hq=>⟨rfl,hq⟩
theorem zl8{a:Nat}(ha:a<65536)(ok:RowsOk rs)(hr:RdC T s 2 (z13 rs))(hN:100<N):Tri (z00 [T]) (F_1m N s (a:Int)) fun r=>pu (r=match rs.findIdx? (z2v a)with | some i=>((i:Int),true) | none=>(0,false)) (z00 [T]):=by
 have hlen:=z7k hr;have h16:=ok.len;unfold F_1m;have loop:∀(K j:Nat),rs.length - j<K→j≤rs.length→(∀(i:Nat)(hi:i<rs.length),i<j→z2v a rs[i]=false)→Tri (z00 [T]) (z0l K (F_50 N s (a:Int)) (j:Int)) fun r=>pu (r=match rs.findIdx? (z2v a)with | some i =>.inr ((i:Int),true) | none =>.inl ()) (z00 [T]):=by
  intro K;induction K with
  | zero=>intro i h;omega
  | succ K ih=>
   intro j h hj hno;rw[z18];unfold F_50;by_cases hjl:j<rs.length
   ·refine z02 [0] (Q:=fun c=>pu (c=true) (z00 [T])) ?_ fun c=>z04 fun hc=>z01 ?_
    ·exact z07 (by simp[hlen];omega) (z02 [0] (zdh ok hr hN) fun r=>z04 fun h=>z01 (z03 [0] fun q hq=>⟨h,hq⟩))
    subst hc;refine z07 rfl ?_;refine z1s 0 rfl hr (by omega) (by omega) (row_get hjl) ?_;refine z02 [0] (Q:=fun c=>pu (c=z2v a rs[j]) (z00 [T])) ?_ fun c=>z04 fun hc=>z01 ?_
    ·unfold z2v;by_cases h0:0<rs[j].2
     ·refine z07 (by simp;omega) (z1s 0 rfl hr (by omega) (by omega) (zft hjl) (z03 [0] fun q hq=>⟨?_,hq⟩));simp[h0];omega
     ·exact z05 (by simp;omega) (z03 [0] fun q hq=>⟨by simp[h0],hq⟩)
    ·dsimp only[sel,rem,nth,del,cat,upd];cases hcc:c with
     | true=>
      refine z07 rfl (z03 [0] fun q hq=>⟨?_,hq⟩);have:rs.findIdx? (z2v a)=some j:=by
       rw[List.findIdx?_eq_some_iff_getElem];exact⟨hjl,by rw[←hc,hcc],fun i hi=>by rw[hno i (by omega) hi];simp⟩
      rw[this]
     | false=>
      refine z05 (by simp) ?_;rw[z0i (by omega) (by omega)];refine ih (j+1) (by omega) (by omega) fun i hi hij=>?_;by_cases e:i=j
      ·subst e;rw[←hc,hcc]
      ·exact hno i hi (by omega)
   ·have:rs.findIdx? (z2v a)=none:=by
     rw[List.findIdx?_eq_none_iff];intro x hx;obtain⟨i,hi,rfl⟩:=List.mem_iff_getElem.1 hx;exact hno i hi (by omega)
    refine z02 [0] (Q:=fun c=>pu (c=false) (z00 [T])) ?_ fun c=>z04 fun hc=>z01 ?_
    ·exact z05 (by simp[hlen];omega) (z03 [0] fun q hq=>⟨rfl,hq⟩)
    subst hc;refine z05 (by simp) (z03 [0] fun q hq=>⟨?_,hq⟩);rw[this]
 refine z02 [0] (loop N 0 (by omega) (by omega) fun i _ h=>by omega) fun r=>z04 fun hr'=>z01 ?_;cases hx:rs.findIdx? (z2v a)with
 | none=>rw[hx]at hr';subst hr';exact z03 [0] fun q hq=>⟨rfl,hq⟩
 | some i=>rw[hx]at hr';subst hr';exact z03 [0] fun q hq=>⟨rfl,hq⟩
theorem z10o(n:Nat){s:Sl}{o:List Row}(hl:l[n]? = some (z08 s 2 (z13 o))){k:Nat}{x:Row}(hk:k<o.length){f:Unit→M β}(kk:Tri (z00 (upd l n (z08 s 2 (z13 (o.set k x))))) (f ()) S):Tri (z00 l) (bd (idx 2 s (k:Int)) fun q=>bd (stn 2 q [.int .u16 (x.1:Int),.int .i64 (x.2:Int)]) f) S:=by
 have hb:k * 2+2≤o.length * 2:=z2t hk;refine z6w n hl (fun h1 h2=>?_) fun b ln h1 h2=>?_
 ·have:=congrArg List.length h2
  rw[z0p z1c,List.length_nil]at this;omega
 ·subst h1;rw[z0p z1c]at h2;refine z1x (by omega) (z5n n (z30 l n _ hl) rfl (by rw[z0p z1c];exact by simpa using hb) rfl ?_);have e:z0w (z13 o) (0+k * 2) [.int .u16 (x.1:Int),.int .i64 (x.2:Int)]=z13 (o.set k x):=by
   rw[Nat.zero_add];exact zfe z1c hk x
  rw[z3p,e];refine kk.pre fun q hq=>?_;have:=z2x n (l:=upd l n (pts b (.cells (z13 (o.set k x)) false))) (B:=z08 ⟨some ⟨b,0⟩,ln⟩ 2 (z13 (o.set k x))) (z30 l n _ hl) (fun q h =>.mk (by rw[z0p z1c,List.length_set];exact h2) h) q hq
  rwa [z3p]at this
theorem zhe(n:Nat){s:Sl}{o:List Row}(hl:l[n]? = some (z08 s 2 (z13 o))){k j:Nat}{v:MV}{x:Row}(hk:k<o.length)(hj:j<2)(hc:z0v v=true)(hx:(zau o[k]).set j v=zau x){f:Unit→M β}(kk:Tri (z00 (upd l n (z08 s 2 (z13 (o.set k x))))) (f ()) S):Tri (z00 l) (bd (idx 2 s (k:Int)) fun q=>bd (fld q j) fun q=>bd (stc q v) f) S:=by
 have hb:k * 2+2≤o.length * 2:=z2t hk;refine z6w n hl (fun h1 h2=>?_) fun b ln h1 h2=>?_
 ·have:=congrArg List.length h2
  rw[z0p z1c,List.length_nil]at this;omega
 ·subst h1;rw[z0p z1c]at h2;refine z1x (by omega) (z06 (z1v n (z30 l n _ hl) (by rw[z0p z1c];omega) hc ?_));have e:(z13 o).set (0+k * 2+j) v=z13 (o.set k x):=by
   have hh:z0w (z13 o) (k * 2) (zau x)=z13 (o.set k x):=zfe z1c hk x;rw[←hh,←hx,Nat.zero_add];unfold z0w;have ht:((z13 o).drop (k * 2)).take 2=zau o[k]:=zcc z1c hk;have hlen:(z13 o).length=o.length * 2:=z0p z1c o;apply List.ext_getElem?;intro i;rw[List.getElem?_set,List.append_assoc,List.getElem?_append,List.length_take,List.getElem?_append,List.length_set,z1c,List.getElem?_set,z1c,List.getElem?_drop,List.getElem?_take];rw[show min (k * 2) (z13 o).length=k * 2 by omega];by_cases h1:i<k * 2
   ·rw[if_neg (by omega),if_pos h1,if_pos h1]
   ·rw[if_neg h1];by_cases h2:i<k * 2+2
    ·rw[if_pos (show i - k * 2<2 by omega)];by_cases h3:k * 2+j=i
     ·rw[if_pos h3,if_pos (by omega),if_pos (show j=i - k * 2 by omega),if_pos (by omega)]
     ·rw[if_neg h3,if_neg (show ¬j=i - k * 2 by omega),←ht,List.getElem?_take,if_pos (by omega),List.getElem?_drop];congr 1;omega
    ·rw[if_neg (show ¬k * 2+j=i by omega),if_neg (show ¬i - k * 2<2 by omega)];congr 1;omega
  rw[z3p,e];refine kk.pre fun q hq=>?_;have:=z2x n (l:=upd l n (pts b (.cells (z13 (o.set k x)) false))) (B:=z08 ⟨some ⟨b,0⟩,ln⟩ 2 (z13 (o.set k x))) (z30 l n _ hl) (fun q h =>.mk (by rw[z0p z1c,List.length_set];exact h2) h) q hq
  rwa [z3p]at this
theorem zhf{a:Nat}(ha:a<65536)(ok:RowsOk rs)(hr:RdC T s 2 (z13 rs))(hN:100<N):Tri (z00 [T]) (F_1n N s (a:Int)) fun r=>pu (r.2.2=z3a rs a∧(z3a rs a=0→r.2.1=(retI rs a:Nat)∧retI rs a<16)) (z00 [if z3a rs a=0 then z08 r.1 2 (z13 (za4 rs a))else emp,T]):=by
 have hlen:=z7k hr;have h16:=ok.len;unfold F_1n;refine z02 [0] (zdh ok hr hN) fun r=>z04 fun h=>z01 ?_;subst h;dsimp only[sel,rem,nth,del,cat,upd];refine z05 (by simp) ?_;refine z0z fun b=>?_;refine z02 [0,0] ((z2y (s:=⟨some ⟨b,0⟩,0⟩) (by':=16) (cs:=[]) hr (by omega) (z9k zbs _) (by
  have:most=70368744177664:=rfl
  dsimp only;omega)).pre fun q hq=>ent_head (A:=pts b (.cells [] false)) (l:=[T]) (fun q h =>.mk (by simp) h) hq) fun l5=>z01 ?_
 dsimp only[sel,rem,nth,del,cat,upd];refine z02 [1] (zl8 ha ok hr hN) fun r6=>z04 fun h6=>z01 ?_;subst h6;dsimp only[sel,rem,nth,del,cat,upd];cases hx:rs.findIdx? (z2v a)with
 | some i=>
  have hi:=(List.findIdx?_eq_some_iff_getElem.1 hx).1;have hrow:rowN rs i=rs[i]:=by simp[rowN,hi]
  have hN':z95 rs a=some i:=by unfold z95;rw[hx]
  have hI:retI rs a=i:=by unfold retI;rw[hN'];rfl
  have hb:=(ok.rng _ (List.getElem_mem hi)).2;have hlab:rs[i].1=a:=by
   have:=(List.findIdx?_eq_some_iff_getElem.1 hx).2.1
   unfold z2v at this;simp at this;exact this.2
  dsimp only;refine z02 [0] (Q:=fun c=>pu (c=decide (rs[i].2=65535)) (z00 [T])) ?_ fun c=>z04 fun hc=>z01 ?_
  ·refine z07 rfl (z1s 0 rfl hr (by omega) (by omega) (row_get hi) (z03 [0] fun q hq=>⟨?_,hq⟩));congr 1;apply propext;omega
  dsimp only[sel,rem,nth,del,cat,upd];by_cases hf:rs[i].2=65535
  ·have hE:z3a rs a=4:=by unfold z3a;rw[hN'];simp only[hrow,hf,if_true]
   refine z07 (by rw[hc];simp[hf]) (z03 [0] fun q hq=>⟨⟨hE.symm,fun c=>by rw[hE]at c;cases c⟩,?_⟩);rw[if_neg (by rw[hE];decide)];exact z2z (fun _ h=>h) hq
  ·have hE:z3a rs a=0:=by unfold z3a;rw[hN'];simp only[hrow,hf,if_false]
   refine z05 (by rw[hc];simp[hf]) (z07 rfl ?_);refine z0c 1 rfl fun ll=>?_;refine z1s 1 rfl (z0k ll) (by rw[List.nil_append,z0p z1c]at ll;omega) (by omega) (by rw[List.nil_append];exact row_get hi) ?_;rw[List.nil_append,z0i (by omega) (by omega)];refine zhe 1 rfl (x:=(a,rs[i].2+1)) hi (by omega) rfl (by rw[←hlab];simp[zau]) ?_;refine z03 [1,0] fun q hq=>⟨⟨hE.symm,fun _=>⟨by rw[hI],by omega⟩⟩,?_⟩;rw[if_pos hE];unfold za4;rw[hI,hrow];exact hq
 | none=>
  dsimp only;refine z02 [0] (Q:=fun c=>pu (c=false) (z00 [T])) (z05 (by simp) (z03 [0] fun q hq=>⟨rfl,hq⟩)) fun c=>z04 fun hc=>z01 ?_;subst hc;dsimp only[sel,rem,nth,del,cat,upd];refine z05 (by simp) (z05 (by simp) ?_);have hN':z95 rs a=rs.findIdx? z5d:=by unfold z95;rw[hx]
  have loop:∀(K j:Nat),rs.length - j<K→j≤rs.length→(∀(i:Nat)(hi:i<rs.length),i<j→z5d rs[i]=false) →
    Tri (z00 [z08 l5 2 (z13 rs),T]) (z0l K (F_54 N s (a:Int) l5) (j:Int)) fun r=>pu (r=match rs.findIdx? z5d with | some i =>.inr (l5,(i:Int),0) | none =>.inl ()) (z00 [z08 l5 2 (z13 (match rs.findIdx? z5d with | some i=>rs.set i (a,1) | none=>rs)),T]):=by
   intro K;induction K with
   | zero=>intro i h;omega
   | succ K ih=>
    intro j h hj hno;rw[z18];unfold F_54;by_cases hjl:j<rs.length
    ·refine z07 (by simp[hlen];omega) ?_;refine z1s 1 rfl hr (by omega) (by omega) (row_get hjl) ?_;by_cases hz:rs[j].2=0
     ·have:rs.findIdx? z5d=some j:=by
       rw[List.findIdx?_eq_some_iff_getElem];exact⟨hjl,by simp[z5d,hz],fun i hi=>by rw[hno i (by omega) hi];simp⟩
      rw[this];refine z07 (by simp[hz]) (z10o 0 rfl (x:=(a,1)) hjl (z03 [0,0] fun q hq=>⟨rfl,hq⟩))
     ·refine z05 (by simp;omega) ?_;rw[z0i (by omega) (by omega)];refine ih (j+1) (by omega) (by omega) fun i hi hij=>?_;by_cases e:i=j
      ·subst e;simp[z5d,hz]
      ·exact hno i hi (by omega)
    ·have:rs.findIdx? z5d=none:=by
      rw[List.findIdx?_eq_none_iff];intro x hx;obtain⟨i,hi,rfl⟩:=List.mem_iff_getElem.1 hx;exact hno i hi (by omega)
     rw[this];exact z05 (by simp[hlen];omega) (z03 [0,0] fun q hq=>⟨rfl,hq⟩)
  refine z02 [1,0] (loop N 0 (by omega) (by omega) fun i _ h=>by omega) fun r=>z04 fun hr'=>z01 ?_;cases hf:rs.findIdx? z5d with
  | none=>
   rw[hf]at hr';subst hr';dsimp only[sel,rem,nth,del,cat,upd];have hE:z3a rs a=5:=by unfold z3a;rw[hN',hf]
   refine z03 [1] fun q hq=>⟨⟨hE.symm,fun c=>by rw[hE]at c;cases c⟩,?_⟩;rw[if_neg (by rw[hE];decide)];exact z2z (fun _ h=>h) hq
  | some i=>
   rw[hf]at hr';subst hr';dsimp only[sel,rem,nth,del,cat,upd];have hi:=(List.findIdx?_eq_some_iff_getElem.1 hf).1;have hrow:rowN rs i=rs[i]:=by simp[rowN,hi]
   have hz:rs[i].2=0:=by
    have:=(List.findIdx?_eq_some_iff_getElem.1 hf).2.1
    unfold z5d at this;simpa using this
   have hI:retI rs a=i:=by unfold retI;rw[hN',hf];rfl
   have hE:z3a rs a=0:=by unfold z3a;rw[hN',hf];simp only[hrow,hz];rfl
   refine z03 [0,0] fun q hq=>⟨⟨hE.symm,fun _=>⟨by rw[hI],by omega⟩⟩,?_⟩;rw[if_pos hE];unfold za4;rw[hI,hrow,hz];exact hq
theorem zg2(ok:RowsOk rs)(hr:RdC T s 2 (z13 rs)){i:Nat}(hi:i<16)(h0:0<(rowN rs i).2)(hN:100<N):Tri (z00 [T]) (F_1o N s (i:Int)) fun r=>pu (r.2=0) (z00 [z08 r.1 2 (z13 (z7f rs i)),T]):=by
 have hlen:=z7k hr;have h16:=ok.len;have hil:i<rs.length:=by omega
 have hrow:rowN rs i=rs[i]:=by simp[rowN,hil]
 rw[hrow]at h0;have hb:=(ok.rng _ (List.getElem_mem hil)).2;unfold F_1o;refine z02 [0] (zdh ok hr hN) fun r=>z04 fun h=>z01 ?_;subst h;dsimp only[sel,rem,nth,del,cat,upd];refine z05 (by simp[hlen];omega) ?_;refine z1s 0 rfl hr (by omega) (by omega) (row_get hil) (z05 (by simp;omega) ?_);refine z0z fun b=>?_;refine z02 [0,0] ((z2y (s:=⟨some ⟨b,0⟩,0⟩) (by':=16) (cs:=[]) hr (by omega) (z9k zbs _) (by
  have:most=70368744177664:=rfl
  dsimp only;omega)).pre fun q hq=>ent_head (A:=pts b (.cells [] false)) (l:=[T]) (fun q h =>.mk (by simp) h) hq) fun l8=>z01 ?_
 dsimp only[sel,rem,nth,del,cat,upd];rw[List.nil_append];refine z0c 0 rfl fun ll=>?_;have ll2:=ll;rw[z0p z1c]at ll2;refine z1s 0 rfl (z0k ll) (by omega) (by omega) (row_get hil) ?_;rw[z0i (by omega) (by omega)];have e:((rs[i].2:Int) - 1)=((rs[i].2 - 1:Nat):Int):=by omega
 rw[e];refine zhe 0 rfl (x:=(rs[i].1,rs[i].2 - 1)) hil (by omega) rfl (by simp[zau]) ?_;dsimp only[sel,rem,nth,del,cat,upd];have hsl:i<(rs.set i (rs[i].1,rs[i].2 - 1)).length:=by rw[List.length_set];exact hil
 have hget:(rs.set i (rs[i].1,rs[i].2 - 1))[i]=(rs[i].1,rs[i].2 - 1):=by simp
 refine z0c 0 rfl fun ll3=>?_;refine z1s 0 rfl (z0k ll3) (by omega) (by omega) (v:=(rs[i].2 - 1:Nat)) (by rw[row_get hsl,hget]) ?_;by_cases h1:rs[i].2=1
 ·refine z02 [0,0] (Q:=fun _=>z00 [z08 l8 2 (z13 (z7f rs i)),T]) ?_ fun _=>z01 (z03 [0,0] fun q hq=>⟨rfl,hq⟩);refine z07 (by simp[h1]) (zhe 0 rfl (x:=(0,0)) hsl (by omega) rfl (by rw[hget,h1];rfl) (z03 [0,0] fun q hq=>?_));unfold z7f;rw[hrow,if_pos h1];rw[List.set_set]at hq;exact hq
 ·refine z02 [0,0] (Q:=fun _=>z00 [z08 l8 2 (z13 (z7f rs i)),T]) ?_ fun _=>z01 (z03 [0,0] fun q hq=>⟨rfl,hq⟩);refine z05 (by simp;omega) (z03 [0,0] fun q hq=>?_);unfold z7f;rw[hrow,if_neg h1];exact hq
theorem zy6(hN:20<N):z0l N (F_20 N (z0u n)) (0:Int)=ret (if(List.range' 0 8).all (fun t=>z2i (n.at (2+t)))then .inl ()else .inr false):=by
 have loop:∀(K j:Nat),8 - j<K→j≤8→z0l K (F_20 N (z0u n)) (j:Int)=ret (if(List.range' j (8 - j)).all (fun t=>z2i (n.at (2+t)))then .inl ()else .inr false):=by
  intro K;induction K with
  | zero=>intro j h;omega
  | succ K ih=>
   intro j h hj;rw[z18];unfold F_20;by_cases h8:j<8
   ·have g:(z0u n)[4+((j:Int)).toNat * 1]? = some (.int .i64 (n.at (2+j))):=by
     rw[show 4+((j:Int)).toNat * 1=(2+j)+2 by omega];exact z5o n (by omega)
    rw[if_pos (by simp;omega),if_pos (show(0:Int)≤(j:Int)∧(j:Int)<8 by omega),g];rw[show 8 - j=(8 - (j+1))+1 by omega,List.range'_succ,List.all_cons];show(if(!z2i (n.at (2+j)))=true then _ else _)=_;cases hp:z2i (n.at (2+j))
    ·rfl
    ·rw[if_neg (by simp),z0i (by omega) (by omega)];exact ih (j+1) (by omega) (by omega)
   ·obtain rfl:j=8:=by omega
    rfl
 exact loop N 0 (by omega) (by omega)
theorem zqs(hN:20<N):F_3b N (z0u n)=ret n.ok:=by
 unfold F_3b;have g0:(z0u n)[0]? = some (.int .u8 n.k):=rfl;have g1:(z0u n)[1]? = some (.int .u8 n.r):=rfl;have g2:(z0u n)[2]? = some (.int .i64 (n.at 0)):=z5o n (i:=0) (by omega);have g3:(z0u n)[3]? = some (.int .i64 (n.at 1)):=z5o n (i:=1) (by omega);have g12:(z0u n)[12]? = some (.int .i64 (n.at 10)):=z5o n (i:=10) (by omega);have g13:(z0u n)[13]? = some (.int .i64 (n.at 11)):=z5o n (i:=11) (by omega);have e14:0+14≤(z0u n).length:=by rw[z0h];omega
 have t14:((z0u n).drop 0).take 14=z0u n:=by rw[List.drop_zero,List.take_of_length_le (by rw[z0h];omega)]
 rw[g0,g1,g2,g3,g12,g13,if_pos e14,t14,z89];have hall:(n.xs.1.drop 2).all z2i=((List.range' 0 8).all (fun t=>z2i (n.at (2+t)))&&(z2i (n.at 10)&&z2i (n.at 11))):=by
  obtain⟨k,r,xs,hx⟩:=n;match xs,hx with
  | [a,b,c,d,e,f,g,h,i,j,p,q],_=>simp[Ino.at,Bool.and_assoc,List.range']
 have lp:=zy6 (n:=n) hN;show bd (if(decide ((2:Int)<(n.k:Int)))=false then(bd (if(decide ((n.k:Int)=0))=true then z19 (z7u _ (z0u n) (z0u Ino.z)) (fun z=>ret (!z))else ret false) fun c8=>ret c8)else ret true) (fun c9=>bd (if c9=false then ret (decide ((16:Int)≤(n.r:Int)))else ret true) fun c12=>bd (if c12=false then ret (decide (n.at 0<0))else ret true) fun c15=>bd (if c15=false then ret (decide (65535<n.at 0))else ret true) fun c18=>bd (if c18=false then ret (decide (n.at 1<0))else ret true) fun c21=>bd (if c21=false then ret (decide (3840<n.at 1))else ret true) fun c24=>if c24=true then ret false else bd (z0l N (F_20 N (z0u n)) (0:Int)) fun j30=>match j30 with
  | .inl _=>bd (ret (z2i (n.at 10))) fun r35=>bd (if r35=true then bd (ret (z2i (n.at 11))) fun r38=>ret r38 else ret false) fun c39=>ret c39
  | .inr j=>ret j)=ret n.ok
 rw[eqZ,lp];show bd (if(decide ((2:Int)<(n.k:Int)))=false then(bd (if(decide ((n.k:Int)=0))=true then ret (!decide (n=Ino.z))else ret false) fun c8=>ret c8)else ret true) (fun c9=>bd (if c9=false then ret (decide ((16:Int)≤(n.r:Int)))else ret true) fun c12=>bd (if c12=false then ret (decide (n.at 0<0))else ret true) fun c15=>bd (if c15=false then ret (decide (65535<n.at 0))else ret true) fun c18=>bd (if c18=false then ret (decide (n.at 1<0))else ret true) fun c21=>bd (if c21=false then ret (decide (3840<n.at 1))else ret true) fun c24=>if c24=true then ret false else bd (ret (if(List.range' 0 8).all (fun t=>z2i (n.at (2+t)))then .inl ()else .inr false):M (Unit⊕Bool)) fun j30=>match j30 with
  | .inl _=>bd (ret (z2i (n.at 10))) fun r35=>bd (if r35=true then bd (ret (z2i (n.at 11))) fun r38=>ret r38 else ret false) fun c39=>ret c39
  | .inr j=>ret j)=ret n.ok
 unfold Ino.ok;rw[hall];have br:∀{α γ:Type}(a:α)(f:α→M γ),bd (ret a) f=f a:=fun a f=>rfl;by_cases c1:n.k<3
 case neg=>simp[show(2:Int)<(n.k:Int) by omega,br,c1]
 have f1:¬(2:Int)<(n.k:Int):=by omega
 by_cases c2:(n.k≠0∨n=Ino.z)
 case neg=>
  rw[not_or]at c2;have k0:n.k=0:=Classical.not_not.1 c2.1;simp[k0,c2.2,br]
 have f2:(if(decide ((n.k:Int)=0))=true then(ret (!decide (n=Ino.z)))else ret false:M Bool)=ret false:=by
  split
  ·rename_i hk;have:n=Ino.z:=c2.resolve_left fun c=>c (by simpa using hk)
   simp[this]
  ·rfl
 have f4:(decide (n.k≠0) || decide (n=Ino.z))=true:=by simpa using c2
 rw[f2,f4];by_cases c3:n.r<16
 case neg=>simp[f1,br,c3,show(16:Int)≤(n.r:Int) by omega]
 have f3:¬(16:Int)≤(n.r:Int):=by omega
 by_cases c4:0≤n.at 0
 case neg=>simp[f1,f3,br,c4,show n.at 0<0 by omega]
 by_cases c5:n.at 0≤65535
 case neg=>simp[f1,f3,br,c5,show ¬n.at 0<0 by omega,show(65535:Int)<n.at 0 by omega]
 by_cases c6:0≤n.at 1
 case neg=>simp[f1,f3,br,c6,show ¬n.at 0<0 by omega,show ¬(65535:Int)<n.at 0 by omega,show n.at 1<0 by omega]
 by_cases c7:n.at 1≤3840
 case neg=>simp[f1,f3,br,c7,show ¬n.at 0<0 by omega,show ¬(65535:Int)<n.at 0 by omega,show ¬n.at 1<0 by omega,show(3840:Int)<n.at 1 by omega]
 simp only[f1,f3,decide_false,Bool.false_eq_true,if_false,br,show ¬n.at 0<0 by omega,show ¬(65535:Int)<n.at 0 by omega,show ¬n.at 1<0 by omega,show ¬(3840:Int)<n.at 1 by omega,if_true];cases ha:(List.range' 0 8).all (fun t=>z2i (n.at (2+t)))
 ·simp[br]
 ·cases hb:z2i (n.at 10)<;>cases hc:z2i (n.at 11)<;>simp[br,c1,c3,c4,c5,c6,c7]
end
end Go.Moat

/- The document's answer for layer 15. -/
namespace Go.Moat
open Go.Mini
structure RefS where
 m:MetaS
 B:List (List UInt8)
 D:List Bool
structure RC where
 rows:Sl
 own:Sl
 used:Sl
 ino:Sl
 bs:Sl
 ds:Sl
def zay(l:List (List UInt8)):List MV:=l.map .str
def z8p(l:List Bool):List MV:=l.map .bool
def zfu(g:Geo)(x:RC):List MV:=[.int .i64 g.J,.int .i64 g.I,.int .i64 g.G,.int .i64 g.P,.sl x.rows.p x.rows.len 2,.sl x.own.p x.own.len 1,.sl x.used.p x.used.len 1,.sl x.ino.p x.ino.len 14,.sl x.bs.p x.bs.len 1,.sl x.ds.p x.ds.len 1]
abbrev z5b(w:Nat)(g:Geo)(W:RefS)(x:RC):List HA:=[pts w (.cells (zfu g x) false),z08 x.rows 2 (z13 W.m.rows),z08 x.own 1 (z3i W.m.own),z08 x.used 1 (bytesOf W.m.used),z08 x.ino 14 (z2b W.m.ino),z08 x.bs 1 (zay W.B),z08 x.ds 1 (z8p W.D)]
def z2e(w:Nat)(g:Geo)(W:RefS):HA:=exA fun x=>z00 (z5b w g W x)
def RefS.wM(W:RefS)(m:MetaS):RefS:={W with m:=m}
def RefS.write(W:RefS)(b:Nat)(bs:List UInt8):RefS:={W with B:=W.B.set b bs,D:=W.D.set b true}
structure RWok(g:Geo)(W:RefS):Prop where
 inv:Inv g W.m
 bl:W.B.length=g.B
 dl:W.D.length=g.B
section
variable{N:Nat}{β:Type}{l:List HA}{S:β→HA}{T:HA}{w:Nat}{g:Geo}{W:RefS}{m:M β}
theorem z7h(o:List (List UInt8)):(zay o).length=o.length:=by simp[zay]
theorem z74(o:List Bool):(z8p o).length=o.length:=by simp[z8p]
theorem z58(n:Nat)(hl:l[n]? = some (z2e w g W))(k:∀x,Tri (z00 (cat (z5b w g W x) (del l n))) m S):Tri (z00 l) m S:=
 zf9 (γ:=RC) (φ:=fun _=>True) (L:=fun x=>z5b w g W x) n hl (fun _ ⟨x,h⟩=>⟨x,trivial,h⟩) fun x _=>k x
theorem z1k{x:RC}{q:PH}(hq:z00 (z5b w g W x) q):z2e w g W q:=⟨x,hq⟩
theorem zqt(n:Nat){s:Sl}{o:List (List UInt8)}(hl:l[n]? = some (z08 s 1 (zay o))){k:Nat}{x:List UInt8}(hk:k<o.length){f:Unit→M β}(kk:Tri (z00 (upd l n (z08 s 1 (zay (o.set k x))))) (f ()) S):Tri (z00 l) (bd (idx 1 s (k:Int)) fun q=>bd (stc q (.str x)) f) S:=by
 refine z6w n hl (fun h1 h2=>?_) fun b ln h1 h2=>?_
 ·have:=congrArg List.length h2
  rw[z7h,List.length_nil]at this;omega
 ·subst h1;rw[z7h]at h2;refine z1x (by omega) (z1v n (z30 l n _ hl) (by rw[z7h];omega) rfl ?_);rw[z3p,Nat.zero_add,Nat.mul_one];have e:(zay o).set k (.str x)=zay (o.set k x):=by
   unfold zay;rw[List.map_set]
  rw[e];refine kk.pre fun q hq=>?_;have:=z2x n (l:=upd l n (pts b (.cells (zay (o.set k x)) false))) (B:=z08 ⟨some ⟨b,0⟩,ln⟩ 1 (zay (o.set k x))) (z30 l n _ hl) (fun q h =>.mk (by rw[z7h,List.length_set];exact h2) h) q hq
  rwa [z3p]at this
theorem zn9(n:Nat){s:Sl}{o:List Bool}(hl:l[n]? = some (z08 s 1 (z8p o))){k:Nat}{x:Bool}(hk:k<o.length){f:Unit→M β}(kk:Tri (z00 (upd l n (z08 s 1 (z8p (o.set k x))))) (f ()) S):Tri (z00 l) (bd (idx 1 s (k:Int)) fun q=>bd (stc q (.bool x)) f) S:=by
 refine z6w n hl (fun h1 h2=>?_) fun b ln h1 h2=>?_
 ·have:=congrArg List.length h2
  rw[z74,List.length_nil]at this;omega
 ·subst h1;rw[z74]at h2;refine z1x (by omega) (z1v n (z30 l n _ hl) (by rw[z74];omega) rfl ?_);rw[z3p,Nat.zero_add,Nat.mul_one];have e:(z8p o).set k (.bool x)=z8p (o.set k x):=by
   unfold z8p;rw[List.map_set]
  rw[e];refine kk.pre fun q hq=>?_;have:=z2x n (l:=upd l n (pts b (.cells (z8p (o.set k x)) false))) (B:=z08 ⟨some ⟨b,0⟩,ln⟩ 1 (z8p (o.set k x))) (z30 l n _ hl) (fun q h =>.mk (by rw[z74,List.length_set];exact h2) h) q hq
  rwa [z3p]at this
theorem zhg(hg:g.ok)(hu:W.m.used.length=64){b:Nat}(hb:b<g.B)(on:Bool)(hN:5000<N):Tri (z00 [z2e w g W]) (F_0w N (some ⟨w,0⟩) (b:Int) on) fun _=>z00 [z2e w g (W.wM {W.m with used:=z11 W.m.used b on})]:=by
 have hgp:=hg.gp;have hB:g.B=g.G * g.P:=rfl;unfold F_0w;refine z58 0 rfl fun x=>?_;dsimp only[sel,rem,nth,del,cat,upd];refine z0m (z06 (z06 (z16 0 rfl rfl ?_)));refine z0c 3 rfl fun h3=>?_;refine z02 [3] (zuf (z0k h3) (by omega) (by omega) on hN) fun r=>z04 fun hr=>z01 ?_;dsimp only[sel,rem,nth,del,cat,upd];refine z0m (z06 (z06 (z1v 2 rfl (by simp[zfu]) rfl ?_)));dsimp only[sel,rem,nth,del,cat,upd];refine z03 [2,2,2,0,1,1,1] fun q hq=>?_;rw[z0y];exact z1k (x:={x with used:=r.1}) hq
theorem zuw(hg:g.ok)(ok:RWok g W)(b:Int)(hN:5000<N) :
  Tri (z00 [z2e w g W]) (F_32 N (some ⟨w,0⟩) b) fun r=>pu (r=W.m.usedE g b) (z00 [z2e w g (if W.m.usedE g b=0 then(W.write b.toNat z14).wM (W.m.free g b.toNat)else W)]):=by
 have hgp:=hg.gp;have hp1:=hg.p1;have hul:=ok.inv.ok.usedl;have hB:g.B=g.G * g.P:=rfl;have hbl:=ok.bl;have hdl:=ok.dl;unfold F_32;refine z58 0 rfl fun x=>?_;dsimp only[sel,rem,nth,del,cat,upd];refine z0c 5 rfl fun h5=>z0c 3 rfl fun h3=>z0c 6 rfl fun h6=>?_;rw[z7h]at h5;rw[z74]at h6;refine z02 [0,0,0,0,0,0,0] (Q:=fun c=>pu (c = !decide (0≤b∧b<g.B)) (z00 (z5b w g W x))) ?_ fun c=>z04 fun hc=>z01 ?_
 ·by_cases h0:0≤b
  ·refine z07 (by simp;omega) (z0m (z06 (z16 0 rfl rfl (z03 [0,0,0,0,0,0,0] fun q hq=>⟨?_,hq⟩))));dsimp only;by_cases hbb:b<g.B
   ·simp[h0,hbb];omega
   ·simp[hbb];omega
  ·exact z05 (by simp;omega) (z03 [0,0,0,0,0,0,0] fun q hq=>⟨by simp[h0],hq⟩)
 dsimp only[sel,rem,nth,del,cat,upd];by_cases hin:0≤b∧b<g.B
 case neg=>
  have hE:W.m.usedE g b=1:=by unfold MetaS.usedE;rw[if_neg hin]
  refine z07 (by rw[hc];simp[hin]) (z03 [0,0,0,0,0,0,0] fun q hq=>⟨hE.symm,?_⟩);rw[hE,if_neg (by decide),z0y];exact z1k hq
 refine z05 (by rw[hc];simp[hin]) ?_;obtain⟨k,rfl⟩:∃k:Nat,b=k:=⟨b.toNat,by omega⟩;have hk:k<g.B:=by omega
 rw[Int.toNat_natCast];refine z0m (z06 (z06 (z16 0 rfl rfl ?_)));refine z02 [3] (zcm (z0k h3) (by omega) k (by omega)) fun r11=>z04 fun h11=>z01 ?_;dsimp only[sel,rem,nth,del,cat,upd];cases hbit:z0r W.m.used k with
 | false=>
  have hE:W.m.usedE g k=2:=by unfold MetaS.usedE;rw[if_pos hin,Int.toNat_natCast,hbit];rfl
  refine z07 (by rw[h11,hbit];rfl) (z03 [1,1,1,0,0,0,0] fun q hq=>⟨hE.symm,?_⟩);rw[hE,if_neg (by decide),z0y];exact z1k hq
 | true=>
 have hE:W.m.usedE g k=0:=by unfold MetaS.usedE;rw[if_pos hin,Int.toNat_natCast,hbit];rfl
 rw[hE,if_pos rfl];refine z05 (by rw[h11,hbit];simp) ?_;refine z02 [1,1,1,0,0,0,0] ((zhg hg hul hk false hN).pre fun q hq=>by rw[z0y];exact z1k hq) fun _=>z01 ?_;dsimp only[sel,rem,nth,del,cat,upd];clear h3 h5 h6 x;refine z58 0 rfl fun x=>?_;dsimp only[sel,rem,nth,del,cat,upd];refine z0c 5 rfl fun h5=>z0c 3 rfl fun h3=>z0c 6 rfl fun h6=>z0c 2 rfl fun h2=>z0c 1 rfl fun h1=>?_;rw[z7h]at h5;rw[z74]at h6;refine z0m (z06 (z16 0 rfl rfl ?_));refine z6z 64 (by omega) fun sb=>?_;refine z4t 0 rfl (bs:=z14) (rd_pts0 (k:=64) (by rw[z0e];rfl)) ?_;refine zqt 6 rfl (by show k<W.B.length;omega) ?_;refine z0m (z06 (z16 1 rfl rfl ?_));refine zn9 7 rfl (by show k<W.D.length;omega) ?_;dsimp only[sel,rem,nth,del,cat,upd];refine z0m (z06 (z06 (z2d 1 rfl rfl ?_)));refine z05 (by omega) ?_;refine z0m (z06 (z06 (z16 1 rfl rfl ?_)));refine z0m (z06 (z06 (z2d 1 rfl rfl ?_)));refine z0m (z06 (z06 (z2d 1 rfl rfl ?_)));have hkG:k / g.P<g.G:=by
  rw[Nat.div_lt_iff_lt_mul (by omega)];exact hk
 have hb2:(k / g.P+1) * g.P≤g.G * g.P:=Nat.mul_le_mul_right _ hkG;have hb1:(k / g.P) * g.P≤(k / g.P+1) * g.P:=Nat.mul_le_mul_right _ (by omega);have hkl:k / g.P<W.m.own.length:=by rw[ok.inv.ok.ownl];exact hkG
 have h0:=ok.inv.gr hg k hk hbit;rw[List.getElem?_eq_getElem hkl,Option.getD_some]at h0;have h16:=ok.inv.ok.own16 _ (List.getElem_mem hkl);have hG:=hg.g2;have hrow:0<(rowN W.m.rows (W.m.own[k / g.P] - 1)).2:=ok.inv.rf.own _ (List.getElem_mem hkl) h0;have efree:W.m.free g k=if z39 (z11 W.m.used k false) (k / g.P * g.P) ((k / g.P+1) * g.P)=0 then {W.m with used:=z11 W.m.used k false,rows:=z7f W.m.rows (W.m.own[k / g.P] - 1),own:=W.m.own.set (k / g.P) 0}else {W.m with used:=z11 W.m.used k false}:=by
  unfold MetaS.free;rw[List.getElem?_eq_getElem hkl,Option.getD_some]
 rw[efree];have hown:(i64s (W.m.own.map Int.ofNat))[k / g.P]? = some (.int .i64 (W.m.own[k / g.P]:Nat)):=by simp[i64s,hkl]
 generalize hkk:k / g.P=kk at *;have ediv:(k:Int).tdiv (g.P:Int)=(kk:Int):=by rw[←hkk];rfl
 rw[ediv,z0i (n:=(kk:Int)) (by omega) (by omega)];have e1:(kk:Int) * (g.P:Int)=((kk * g.P:Nat):Int):=by simp
 have e2:wr .i64 ((kk:Int)+1)=((kk+1:Nat):Int):=by rw[z0i (by omega) (by omega)];simp
 have e3:((kk+1:Nat):Int) * (g.P:Int)=(((kk+1) * g.P:Nat):Int):=by simp
 rw[e2,e1,e3,z0i (by omega) (by omega),z0i (by omega) (by omega)];have sl:=z7e W.m.used k false;refine z02 [4] (zrq (bs:=z11 W.m.used k false) (z0k h3) (by omega) hb1 (by omega) hN) fun r39=>z04 fun h39=>z01 ?_;dsimp only[sel,rem,nth,del,cat,upd];by_cases hz:z39 (z11 W.m.used k false) (kk * g.P) ((kk+1) * g.P)=0
 ·rw[if_pos hz];refine z02 [2,2,2,0,1,1,1] (Q:=fun _=>z00 [z2e w g ((W.write k z14).wM {W.m with used:=z11 W.m.used k false,rows:=z7f W.m.rows (W.m.own[kk] - 1),own:=W.m.own.set kk 0})]) ?_ fun _=>z01 (z03 [0] fun q hq=>⟨rfl,hq⟩);refine z07 (by rw[h39,hz];rfl) ?_;refine z0m (z06 (z06 (z16 0 rfl rfl ?_)));refine z0m (z06 (z06 (z16 0 rfl rfl ?_)));refine z3h 2 rfl (z0k h2) hown ?_;have e4:wr .i64 (((W.m.own[kk]:Nat):Int) - 1)=((W.m.own[kk] - 1:Nat):Int):=by rw[z0i (by omega) (by omega)];omega
  rw[e4];refine z02 [1] (zg2 ok.inv.ok.rows (z0k h1) (by omega) hrow (by omega)) fun r50=>z04 fun h50=>z01 ?_;dsimp only[sel,rem,nth,del,cat,upd];refine z0m (z06 (z06 (z1v 2 rfl (by simp[zfu]) rfl ?_)));dsimp only[sel,rem,nth,del,cat,upd];refine z0m (z06 (z06 (z16 2 rfl rfl ?_)));refine zfn 3 rfl (x:=0) hkl ?_;dsimp only[sel,rem,nth,del,cat,upd];refine z03 [2,0,1,1,1,1,1] fun q hq=>?_;rw[z0y];exact z1k (x:={x with rows:=r50.1}) hq
 ·rw[if_neg hz];refine z02 [2,2,2,0,1,1,1] (Q:=fun _=>z00 [z2e w g ((W.write k z14).wM {W.m with used:=z11 W.m.used k false})]) ?_ fun _=>z01 (z03 [0] fun q hq=>⟨rfl,hq⟩);refine z05 (by rw[h39];simp;omega) (z03 [0,0,0,0,0,0,0] fun q hq=>?_);rw[z0y];exact z1k hq
end
end Go.Moat
