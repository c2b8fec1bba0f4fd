/- The document's answer for layers 8, 10 and 11: bits, rows, inodes. -/
import Derived.Test.YtcaaljlhljemoaaGreatP15l
namespace Go.Moat
open Go.Mini
theorem z101(bs:List UInt8){lo j:Nat}(h:lo≤j):z3j bs lo (j+1)=z3j bs lo j+if z0s bs j=true then 1 else 0:=by
 unfold z3j;rw[show j+1 - lo=(j - lo)+1 by omega,List.range'_concat,List.filter_append,List.length_append];rw[show lo+1 * (j - lo)=j by omega];congr 1;by_cases hb:z0s bs j=true
 ·simp[hb]
 ·simp[hb]
theorem cnt_le'(bs:List UInt8)(lo j:Nat):z3j bs lo j≤j - lo:=Nat.le_trans (List.length_filter_le _ _) (by simp)
def z83(f:Nat→Bool):Nat→Nat
 | 0=>0
 | m+1=>z83 f m+if f m=true then 2^m else 0
theorem zsv(f:Nat→Bool):∀m,z83 f m<2^m
 | 0=>by simp[z83]
 | m+1=>by
  have:=zsv f m
  unfold z83;rw[Nat.pow_succ];split<;>omega
theorem zn5(x:Nat):∀m,z83 (fun t=>x.testBit t) m=x%2^m
 | 0=>by simp[z83,Nat.mod_one]
 | m+1=>by
  unfold z83;rw[zn5 x m,Nat.mod_pow_succ];congr 1;have h2:x / 2^m%2<2:=Nat.mod_lt _ (by omega);rw[Nat.testBit_eq_decide_div_mod_eq];generalize x / 2^m%2=y at *;rcases(show y=0∨y=1 by omega)with rfl | rfl<;>simp
section
variable{N:Nat}{β:Type}{l:List HA}{S:β→HA}{T:HA}{s:Sl}{bs:List UInt8}{rs:List Row}
theorem zww(hr:RdC T s 1 (bytesOf bs))(hb:bs.length≤512)(i:Int)(hN:100<N):Tri (z00 [T]) (F_09 N s i) fun r=>pu (r=(decide (0≤i)&&z0s bs i.toNat)) (z00 [T]):=by
 have hlen:=z4t hr;unfold F_09;rw[hlen];have e8:(8:Int) * (bs.length:Int)=((8 * bs.length:Nat):Int):=by simp
 rw[e8,z0f (n:=((8 * bs.length:Nat):Int)) (by omega) (by omega)];by_cases h:0≤i∧i<((8 * bs.length:Nat):Int)
 ·obtain⟨k,rfl⟩:∃k:Nat,i=k:=⟨i.toNat,by omega⟩;refine z05 (by simp;omega) ?_;have e1:(k:Int).tdiv 8=((k / 8:Nat):Int):=rfl;have e2:(k:Int).tmod 8=((k%8:Nat):Int):=rfl;rw[e1,z0f (by omega) (by omega)];have h8:k / 8<bs.length:=by omega
  refine tri_rI 0 rfl hr (z9u h8) ?_;have hx:=bs[k / 8].toNat_lt;have loop:∀(K j:Nat),k%8 - j<K→j≤k%8→Tri (z00 [T]) (z0l K (F_5i N (k:Int)) (((bs[k / 8].toNat / 2^j:Nat):Int),(j:Int))) fun r=>pu (r=((bs[k / 8].toNat / 2^(k%8):Nat):Int)) (z00 [T]):=by
   intro K;induction K with
   | zero=>intro j h;omega
   | succ K ih=>
    intro j h hj;rw[z16];unfold F_5i;rw[e2];dsimp only;by_cases hjk:j<k%8
    ·refine z08 (by simp;omega) ?_;have e3:((bs[k / 8].toNat / 2^j:Nat):Int).tdiv 2=((bs[k / 8].toNat / 2^(j+1):Nat):Int):=by
      rw[Nat.pow_succ,←Nat.div_div_eq_div_mul];rfl
     have h4:bs[k / 8].toNat / 2^(j+1)≤bs[k / 8].toNat:=Nat.div_le_self _ _;have ih':=ih (j+1) (by omega) (by omega);rw[e3];generalize bs[k / 8].toNat / 2^(j+1)=X at *;rw[wr8 (by omega) (by omega),z0f (by omega) (by omega)];exact ih'
    ·obtain rfl:j=k%8:=by omega
     exact z05 (by simp) (z03 [0] fun q hq=>⟨rfl,hq⟩)
  have l0:=loop N 0 (by omega) (by omega);rw[Nat.pow_zero,Nat.div_one]at l0;refine z02 [0] (l0.pre fun q hq=>hq) fun r=>z04 fun hr=>z01 (z03 [0] fun q hq=>⟨?_,hq⟩);rw[hr];unfold z0s;rw[Int.toNat_natCast,List.getElem?_eq_getElem h8];simp only[Nat.testBit_eq_decide_div_mod_eq,Int.natCast_nonneg,decide_true,Bool.true_and];congr 1;have e5:((bs[k / 8].toNat / 2^(k%8):Nat):Int).tmod 2=((bs[k / 8].toNat / 2^(k%8)%2:Nat):Int):=rfl;rw[e5];apply propext;omega
 ·refine z08 (by simp;omega) (z03 [0] fun q hq=>⟨?_,hq⟩);by_cases h0:0≤i
  ·have:z0s bs i.toNat=false:=by
    cases hg:z0s bs i.toNat with
    | false=>rfl
    | true=>have:=zh6 hg;omega
   simp[this]
  ·simp[h0]
theorem zcy(hr:RdC T s 1 (bytesOf bs))(hb:bs.length≤512)(i:Nat)(hN:100<N):Tri (z00 [T]) (F_09 N s (i:Int)) fun r=>pu (r=z0s bs i) (z00 [T]):=
 (zww hr hb i hN).post fun r q hq=>⟨by rw[hq.1];simp,hq.2⟩
theorem zrl(hr:RdC T s 1 (bytesOf bs))(hb:bs.length≤512){lo hi:Nat}(h1:lo≤hi)(h2:hi≤8 * bs.length)(hN:5000<N):Tri (z00 [T]) (F_38 N s (lo:Int) (hi:Int)) fun r=>pu (r=(z3j bs lo hi:Nat)) (z00 [T]):=by
 have hlen:=z4t hr;unfold F_38;have e8:(8:Int) * (bs.length:Int)=((8 * bs.length:Nat):Int):=by simp
 have loop:∀(K j:Nat),8 * bs.length - j<K→j≤8 * bs.length→Tri (z00 [T]) (z0l K (F_5m N s (lo:Int) (hi:Int)) (((z3j bs lo (min j hi):Nat):Int),(j:Int))) fun r=>pu (r=(z3j bs lo hi:Nat)) (z00 [T]):=by
  intro K;induction K with
  | zero=>intro j h;omega
  | succ K ih=>
   intro j h hj;rw[z16];have hw:wr .i64 ((8:Int) * (s.len:Int))=((8 * bs.length:Nat):Int):=by rw[hlen,e8,z0f (by omega) (by omega)]
   unfold F_5m;by_cases hjk:j<8 * bs.length
   ·refine z08 (by rw[hw];simp;omega) ?_;refine z02 [0] (Q:=fun c=>pu (c=(decide (lo≤j)&&decide (j<hi)&&z0s bs j)) (z00 [T])) ?_ fun c=>z04 fun hc=>z01 ?_
    ·by_cases hin:lo≤j∧j<hi
     ·refine z08 (by simp;omega) (z02 [0] (zcy hr hb j (by omega)) fun r=>z04 fun h=>z01 (z03 [0] fun q hq=>⟨?_,hq⟩));rw[h];simp[hin.1,hin.2]
     ·refine z05 (by simp;omega) (z03 [0] fun q hq=>⟨?_,hq⟩);by_cases hl:lo≤j
      ·simp[show ¬j<hi by omega]
      ·simp[hl]
    ·have hle:=cnt_le' bs lo (min j hi);have hstep:z3j bs lo (min (j+1) hi)=z3j bs lo (min j hi)+if c=true then 1 else 0:=by
      by_cases hl:lo≤j
      ·by_cases hh:j<hi
       ·rw[show min (j+1) hi=j+1 by omega,show min j hi=j by omega,z101 bs hl,hc];simp[hl,hh]
       ·rw[show min (j+1) hi=hi by omega,show min j hi=hi by omega,hc];simp[hh]
      ·have hz:∀x,x≤lo→z3j bs lo x=0:=fun x hx=>by unfold z3j;rw[show x - lo=0 by omega];rfl
       rw[hz _ (by omega),hz _ (by omega),hc];simp[hl]
     dsimp only[sel,rem,nth,del,cat,upd];refine z02 [0] (Q:=fun(r:Int)=>pu (r=((z3j bs lo (min (j+1) hi):Nat):Int)) (z00 [T])) ?_ fun r=>z04 fun hr2=>z01 ?_
     ·rw[hstep];cases c with
      | true=>refine z08 rfl (z03 [0] fun q hq=>⟨?_,hq⟩);rw[z0f (by omega) (by omega)];simp
      | false=>exact z05 (by simp) (z03 [0] fun q hq=>⟨by simp,hq⟩)
     ·subst hr2;dsimp only[sel,rem,nth,del,cat,upd];rw[z0f (n:=(j:Int)+1) (by omega) (by omega)];exact ih (j+1) (by omega) (by omega)
   ·obtain rfl:j=8 * bs.length:=by omega
    refine z05 (by rw[hw];simp) (z03 [0] fun q hq=>⟨?_,hq⟩);rw[show min (8 * bs.length) hi=hi by omega]
 have e0:z3j bs lo (min 0 hi)=0:=by unfold z3j;simp
 have:=loop N 0 (by omega) (by omega)
 rw[e0]at this;exact z02 [0] (this.pre fun q hq=>hq) fun r=>z04 fun hr=>z01 (z03 [0] fun q hq=>⟨hr,hq⟩)
theorem zue(hr:RdC T s 1 (bytesOf bs))(hb:bs.length≤512){i:Nat}(hi:i<8 * bs.length)(on:Bool)(hN:5000<N):Tri (z00 [T]) (F_36 N s (i:Int) on) fun r=>pu (r.2=0) (z00 [z07 r.1 1 (bytesOf (z13 bs i on)),T]):=by
 have hlen:=z4t hr;unfold F_36;have e8:(8:Int) * (bs.length:Int)=((8 * bs.length:Nat):Int):=by simp
 rw[hlen,e8,z0f (n:=((8 * bs.length:Nat):Int)) (by omega) (by omega)];refine z05 (by simp;omega) (z05 (by simp;omega) ?_);have inner:∀(v:Sl)(k:Nat),k<bs.length→∀(K m p:Nat),8 - m<K→m≤8→p=2^m%256 →
   Tri (z00 [T]) (z0l K (F_5j N s (i:Int) on (v,(k:Int))) (((z83 (fun t=>z0s (z13 bs i on) (8 * k+t)) m:Nat):Int),(p:Int),(m:Int))) fun r=>pu (r=((z83 (fun t=>z0s (z13 bs i on) (8 * k+t)) 8:Nat):Int)) (z00 [T]):=by
  intro v k hk K;induction K with
  | zero=>intro m p h;omega
  | succ K ih=>
   intro m p h hm hp;rw[z16];unfold F_5j;by_cases hm8:m<8
   ·refine z08 (by simp;omega) ?_;have e1:(8:Int) * (k:Int)=((8 * k:Nat):Int):=by simp
    have e2:((8 * k:Nat):Int)+(m:Int)=((8 * k+m:Nat):Int):=by simp
    have e4:wr .i64 ((wr .i64 ((8:Int) * (k:Int)))+(m:Int))=((8 * k+m:Nat):Int):=by rw[e1,z0f (n:=((8 * k:Nat):Int)) (by omega) (by omega),e2,z0f (n:=((8 * k+m:Nat):Int)) (by omega) (by omega)]
    dsimp only;rw[e4];refine z02 [0] (zcy hr hb (8 * k+m) (by omega)) fun r8=>z04 fun h8=>z01 ?_;have hbit:=z3x hi on (8 * k+m);refine z02 [0] (Q:=fun c=>pu (c=z0s (z13 bs i on) (8 * k+m)) (z00 [T])) ?_ fun c=>z04 fun hc=>z01 ?_
    ·by_cases he:8 * k+m=i
     ·refine z08 (by simp;omega) (z03 [0] fun q hq=>⟨?_,hq⟩);rw[hbit,if_pos he]
     ·refine z05 (by simp;omega) (z03 [0] fun q hq=>⟨?_,hq⟩);rw[hbit,if_neg he,h8]
    ·have hlt:=zsv (fun t=>z0s (z13 bs i on) (8 * k+t)) (m+1);have hpow:2^(m+1)≤2^8:=Nat.pow_le_pow_right (by omega) (by omega);have hpm:2^m<2^8:=Nat.pow_lt_pow_right (by omega) hm8;have hp':p=2^m:=by rw[hp,Nat.mod_eq_of_lt (by simpa using hpm)]
     have hs:z83 (fun t=>z0s (z13 bs i on) (8 * k+t)) (m+1)=z83 (fun t=>z0s (z13 bs i on) (8 * k+t)) m+if c=true then 2^m else 0:=by
      rw[hc];rfl
     refine z02 [0] (Q:=fun r=>pu (r=((z83 (fun t=>z0s (z13 bs i on) (8 * k+t)) (m+1):Nat):Int)) (z00 [T])) ?_ fun r=>z04 fun hr2=>z01 ?_
     ·generalize z83 (fun t=>z0s (z13 bs i on) (8 * k+t)) (m+1)=y at *;generalize z83 (fun t=>z0s (z13 bs i on) (8 * k+t)) m=x at *;cases c with
      | true=>
       simp only[if_true]at hs;refine z08 rfl (z03 [0] fun q hq=>⟨?_,hq⟩);rw[hp',wr8 (by omega) (by omega),hs];simp
      | false=>
       simp at hs;exact z05 (by simp) (z03 [0] fun q hq=>⟨by rw[hs],hq⟩)
     ·subst hr2;dsimp only[sel,rem,nth,del,cat,upd];have e3:wr .u8 ((p:Int) * 2)=((2^(m+1)%256:Nat):Int):=by
       rw[show(p:Int) * 2=((p * 2:Nat):Int) by simp,zqm rfl,hp',Nat.pow_succ];rfl
      rw[e3,z0f (n:=(m:Int)+1) (by omega) (by omega)];exact ih (m+1) _ (by omega) (by omega) rfl
   ·obtain rfl:m=8:=by omega
    exact z05 (by simp) (z03 [0] fun q hq=>⟨rfl,hq⟩)
 have sl:=z7q bs i on;have hbyte:∀k(hk:k<(z13 bs i on).length),z83 (fun t=>z0s (z13 bs i on) (8 * k+t)) 8=(z13 bs i on)[k].toNat:=by
  intro k hk;have:∀m,m≤8→z83 (fun t=>z0s (z13 bs i on) (8 * k+t)) m=z83 (fun t=>(z13 bs i on)[k].toNat.testBit t) m:=by
   intro m;induction m with
   | zero=>intro _;rfl
   | succ m ih=>
    intro hm;unfold z83;rw[ih (by omega)];have:z0s (z13 bs i on) (8 * k+m)=(z13 bs i on)[k].toNat.testBit m:=by
     unfold z0s;rw[show(8 * k+m) / 8=k by omega,show(8 * k+m)%8=m by omega,List.getElem?_eq_getElem hk]
    rw[this]
  rw[this 8 (Nat.le_refl _),zn5,Nat.mod_eq_of_lt];exact(z13 bs i on)[k].toNat_lt
 have outer:∀(K k:Nat)(o:Sl),bs.length - k<K→k≤bs.length→Tri (z00 [z07 o 1 (bytesOf ((z13 bs i on).take k)),T]) (z0l K (F_5k N s (i:Int) on) (o,(k:Int))) fun r=>z00 [z07 r 1 (bytesOf (z13 bs i on)),T]:=by
  intro K;induction K with
  | zero=>intro k o h;omega
  | succ K ih=>
   intro k o h hk;rw[z16];unfold F_5k;by_cases hkl:k<bs.length
   ·refine z08 (by simp[hlen];omega) ?_;refine z0a 0 rfl fun lo=>?_;rw[z0i,List.length_take]at lo;refine z02 [1] ((inner o k hkl N 0 1 (by omega) (by omega) rfl).pre fun q hq=>hq) fun r=>z04 fun hr2=>z01 ?_;rw[hbyte k (by omega)]at hr2;dsimp only[sel,rem,nth,del,cat,upd];rw[hr2];refine z11 fun b=>?_;refine z02 [2,0] (z2a (s:=o) (by':=1) (T:=pts b (.cells [.int .u8 ((z13 bs i on)[k]'(by omega)).toNat] false)) (rd_pts0 (by simp)) (by omega) rfl (by
     have:z1z=70368744177664:=rfl
     dsimp only;omega)) fun o2=>z01 ?_
    dsimp only[sel,rem,nth,del,cat,upd];rw[z0f (by omega) (by omega)];refine tri_last [0,1] (Tri.pre (ih (k+1) o2 (by omega) (by omega)) fun q hq=>?_);refine z49 (fun q h=>?_) hq;have e:bytesOf ((z13 bs i on).take k)++[.int .u8 ((z13 bs i on)[k]'(by omega)).toNat]=bytesOf ((z13 bs i on).take (k+1)):=by
     rw[List.take_add_one,List.getElem?_eq_getElem (show k<(z13 bs i on).length by omega),z92];rfl
    rw[←e];exact h
   ·obtain rfl:k=bs.length:=by omega
    refine z05 (by simp[hlen]) (z03 [0,0] fun q hq=>?_);rw[List.take_of_length_le (by omega)]at hq;exact hq
 refine z02 [0] ((outer N 0 ⟨none,0⟩ (by omega) (by omega)).pre fun q hq=>z2r (fun q h =>.nil 1 h) hq) fun o=>z01 ?_;exact z03 [0,0] fun q hq=>⟨rfl,hq⟩
end
end Go.Moat

/- The document's answer for layers 10 and 11: rows and inodes. -/
namespace Go.Moat
open Go.Mini
section
variable{N:Nat}{β:Type}{l:List HA}{S:β→HA}{T:HA}{s:Sl}{rs:List Row}{n:Ino}
theorem z6e{i:Nat}(hi:i<rs.length):(z0y rs)[i * 2+1]? = some (.int .i64 (rs[i].2:Int)):=by rw[z2s z17 hi (by omega)];rfl
theorem zfs{i:Nat}(hi:i<rs.length):(z0y rs)[i * 2+0]? = some (.int .u16 (rs[i].1:Int)):=by rw[z2s z17 hi (by omega)];rfl
theorem zdo(ok:RowsOk rs)(hr:RdC T s 2 (z0y rs))(hN:100<N):Tri (z00 [T]) (F_0y N s) fun r=>pu (r=true) (z00 [T]):=by
 have hlen:=z6l hr;have h16:=ok.len;unfold F_0y;refine z05 (by simp[hlen,h16]) ?_;have inner:∀(j:Nat)(hj:j<rs.length)(K i:Nat),j - i<K→i≤j→Tri (z00 [T]) (z0l K (F_5f N s (j:Int)) (i:Int)) fun r=>pu (r=.inl ()) (z00 [T]):=by
  intro j hj K;induction K with
  | zero=>intro i h;omega
  | succ K ih=>
   intro i h hi;rw[z16];unfold F_5f;by_cases hij:i<j
   ·have hil:i<rs.length:=by omega
    refine z08 (by simp;omega) ?_;refine z1v 0 rfl hr (by omega) (by omega) (z6e hj) ?_;refine z02 [0] (Q:=fun c=>pu (c=(decide (0<rs[j].2)&&decide (0<rs[i].2))) (z00 [T])) ?_ fun c=>z04 fun hc=>z01 ?_
    ·by_cases h0:0<rs[j].2
     ·refine z08 (by simp;omega) (z1v 0 rfl hr (by omega) (by omega) (z6e hil) (z03 [0] fun q hq=>⟨?_,hq⟩));simp[h0]
     ·refine z05 (by simp;omega) (z03 [0] fun q hq=>⟨by simp[h0],hq⟩)
    ·dsimp only[sel,rem,nth,del,cat,upd];refine z02 [0] (Q:=fun c=>pu (c=false) (z00 [T])) ?_ fun c2=>z04 fun hc2=>z01 ?_
     ·cases hcc:c with
      | true=>
       rw[hcc]at hc;have hc':=hc.symm;simp only[Bool.and_eq_true,decide_eq_true_eq]at hc';have:=ok.dist i j hil hj hc'.2 hc'.1
       refine z08 rfl (z1v 0 rfl hr (by omega) (by omega) (zfs hj) (z1v 0 rfl hr (by omega) (by omega) (zfs hil) (z03 [0] fun q hq=>⟨?_,hq⟩)));have hne:rs[j].1≠rs[i].1:=fun c=>by have:=this c.symm;omega
       simp;omega
      | false=>exact z05 (by simp) (z03 [0] fun q hq=>⟨rfl,hq⟩)
     ·subst hc2;refine z05 (by simp) ?_;rw[z0f (by omega) (by omega)];exact ih (i+1) (by omega) (by omega)
   ·exact z05 (by simp;omega) (z03 [0] fun q hq=>⟨rfl,hq⟩)
 have outer:∀(K j:Nat),rs.length - j<K→j≤rs.length→Tri (z00 [T]) (z0l K (F_5g N s) (j:Int)) fun r=>pu (r=.inl ()) (z00 [T]):=by
  intro K;induction K with
  | zero=>intro i h;omega
  | succ K ih=>
   intro j h hj;rw[z16];unfold F_5g;by_cases hjl:j<rs.length
   ·have hm:=List.getElem_mem hjl;have h1:=ok.rng _ hm;have hz:=ok.zero _ hm;refine z08 (by simp[hlen];omega) ?_;refine z1v 0 rfl hr (by omega) (by omega) (z6e hjl) ?_;refine z02 [0] (Q:=fun c=>pu (c=false) (z00 [T])) ?_ fun c=>z04 fun hc=>z01 ?_
    ·refine z08 (by simp) (z1v 0 rfl hr (by omega) (by omega) (z6e hjl) (z03 [0] fun q hq=>⟨?_,hq⟩));simp;omega
    ·subst hc;refine z02 [0] (Q:=fun c=>pu (c=false) (z00 [T])) ?_ fun c=>z04 fun hc=>z01 ?_
     ·refine z08 rfl (z1v 0 rfl hr (by omega) (by omega) (z6e hjl) ?_);refine z02 [0] (Q:=fun c=>pu (c=false) (z00 [T])) ?_ fun c=>z04 fun hc=>z01 (z03 [0] fun q hq=>⟨hc,hq⟩);by_cases h0:rs[j].2=0
      ·refine z08 (by simp[h0]) (z1v 0 rfl hr (by omega) (by omega) (zfs hjl) (z03 [0] fun q hq=>⟨?_,hq⟩));simp[hz h0]
      ·exact z05 (by simp;omega) (z03 [0] fun q hq=>⟨rfl,hq⟩)
     ·subst hc;refine z05 (by simp) ?_;refine z02 [0] (inner j hjl N 0 (by omega) (by omega)) fun r=>z04 fun hr'=>z01 ?_;subst hr';dsimp only;rw[z0f (by omega) (by omega)];exact ih (j+1) (by omega) (by omega)
   ·exact z05 (by simp[hlen];omega) (z03 [0] fun q hq=>⟨rfl,hq⟩)
 refine z02 [0] (outer N 0 (by omega) (by omega)) fun r=>z04 fun hr'=>z01 ?_;subst hr';exact z03 [0] fun q hq=>⟨rfl,hq⟩
theorem zlj{a:Nat}(ha:a<65536)(ok:RowsOk rs)(hr:RdC T s 2 (z0y rs))(hN:100<N):Tri (z00 [T]) (F_1t N s (a:Int)) fun r=>pu (r=match rs.findIdx? (z31 a)with | some i=>((i:Int),true) | none=>(0,false)) (z00 [T]):=by
 have hlen:=z6l hr;have h16:=ok.len;unfold F_1t;have loop:∀(K j:Nat),rs.length - j<K→j≤rs.length→(∀(i:Nat)(hi:i<rs.length),i<j→z31 a rs[i]=false)→Tri (z00 [T]) (z0l K (F_5h N s (a:Int)) (j:Int)) fun r=>pu (r=match rs.findIdx? (z31 a)with | some i =>.inr ((i:Int),true) | none =>.inl ()) (z00 [T]):=by
  intro K;induction K with
  | zero=>intro i h;omega
  | succ K ih=>
   intro j h hj hno;rw[z16];unfold F_5h;by_cases hjl:j<rs.length
   ·refine z02 [0] (Q:=fun c=>pu (c=true) (z00 [T])) ?_ fun c=>z04 fun hc=>z01 ?_
    ·exact z08 (by simp[hlen];omega) (z02 [0] (zdo ok hr hN) fun r=>z04 fun h=>z01 (z03 [0] fun q hq=>⟨h,hq⟩))
    subst hc;refine z08 rfl ?_;refine z1v 0 rfl hr (by omega) (by omega) (z6e hjl) ?_;refine z02 [0] (Q:=fun c=>pu (c=z31 a rs[j]) (z00 [T])) ?_ fun c=>z04 fun hc=>z01 ?_
    ·unfold z31;by_cases h0:0<rs[j].2
     ·refine z08 (by simp;omega) (z1v 0 rfl hr (by omega) (by omega) (zfs hjl) (z03 [0] fun q hq=>⟨?_,hq⟩));simp[h0];omega
     ·exact z05 (by simp;omega) (z03 [0] fun q hq=>⟨by simp[h0],hq⟩)
    ·dsimp only[sel,rem,nth,del,cat,upd];cases hcc:c with
     | true=>
      refine z08 rfl (z03 [0] fun q hq=>⟨?_,hq⟩);have:rs.findIdx? (z31 a)=some j:=by
       rw[List.findIdx?_eq_some_iff_getElem];exact⟨hjl,by rw[←hc,hcc],fun i hi=>by rw[hno i (by omega) hi];simp⟩
      rw[this]
     | false=>
      refine z05 (by simp) ?_;rw[z0f (by omega) (by omega)];refine ih (j+1) (by omega) (by omega) fun i hi hij=>?_;by_cases e:i=j
      ·subst e;rw[←hc,hcc]
      ·exact hno i hi (by omega)
   ·have:rs.findIdx? (z31 a)=none:=by
     rw[List.findIdx?_eq_none_iff];intro x hx;obtain⟨i,hi,rfl⟩:=List.mem_iff_getElem.1 hx;exact hno i hi (by omega)
    refine z02 [0] (Q:=fun c=>pu (c=false) (z00 [T])) ?_ fun c=>z04 fun hc=>z01 ?_
    ·exact z05 (by simp[hlen];omega) (z03 [0] fun q hq=>⟨rfl,hq⟩)
    subst hc;refine z05 (by simp) (z03 [0] fun q hq=>⟨?_,hq⟩);rw[this]
 refine z02 [0] (loop N 0 (by omega) (by omega) fun i _ h=>by omega) fun r=>z04 fun hr'=>z01 ?_;cases hx:rs.findIdx? (z31 a)with
 | none=>rw[hx]at hr';subst hr';exact z03 [0] fun q hq=>⟨rfl,hq⟩
 | some i=>rw[hx]at hr';subst hr';exact z03 [0] fun q hq=>⟨rfl,hq⟩
theorem z10n(n:Nat){s:Sl}{o:List Row}(hl:l[n]? = some (z07 s 2 (z0y o))){k:Nat}{x:Row}(hk:k<o.length){f:Unit→M β}(kk:Tri (z00 (upd l n (z07 s 2 (z0y (o.set k x))))) (f ()) S):Tri (z00 l) (bd (idx 2 s (k:Int)) fun q=>bd (stn 2 q [.int .u16 (x.1:Int),.int .i64 (x.2:Int)]) f) S:=by
 have hb:k * 2+2≤o.length * 2:=z30 hk;refine z77 n hl (fun h1 h2=>?_) fun b ln h1 h2=>?_
 ·have:=congrArg List.length h2
  rw[z0o z17,List.length_nil]at this;omega
 ·subst h1;rw[z0o z17]at h2;refine z21 (by omega) (z5c n (z37 l n _ hl) rfl (by rw[z0o z17];exact by simpa using hb) rfl ?_);have e:z0x (z0y o) (0+k * 2) [.int .u16 (x.1:Int),.int .i64 (x.2:Int)]=z0y (o.set k x):=by
   rw[Nat.zero_add];exact zfg z17 hk x
  rw[z3u,e];refine kk.pre fun q hq=>?_;have:=z34 n (l:=upd l n (pts b (.cells (z0y (o.set k x)) false))) (B:=z07 ⟨some ⟨b,0⟩,ln⟩ 2 (z0y (o.set k x))) (z37 l n _ hl) (fun q h =>.mk (by rw[z0o z17,List.length_set];exact h2) h) q hq
  rwa [z3u]at this
theorem zha(n:Nat){s:Sl}{o:List Row}(hl:l[n]? = some (z07 s 2 (z0y o))){k j:Nat}{v:MV}{x:Row}(hk:k<o.length)(hj:j<2)(hc:z0u v=true)(hx:(zb1 o[k]).set j v=zb1 x){f:Unit→M β}(kk:Tri (z00 (upd l n (z07 s 2 (z0y (o.set k x))))) (f ()) S):Tri (z00 l) (bd (idx 2 s (k:Int)) fun q=>bd (fld q j) fun q=>bd (stc q v) f) S:=by
 have hb:k * 2+2≤o.length * 2:=z30 hk;refine z77 n hl (fun h1 h2=>?_) fun b ln h1 h2=>?_
 ·have:=congrArg List.length h2
  rw[z0o z17,List.length_nil]at this;omega
 ·subst h1;rw[z0o z17]at h2;refine z21 (by omega) (z06 (z1x n (z37 l n _ hl) (by rw[z0o z17];omega) hc ?_));have e:(z0y o).set (0+k * 2+j) v=z0y (o.set k x):=by
   have hh:z0x (z0y o) (k * 2) (zb1 x)=z0y (o.set k x):=zfg z17 hk x;rw[←hh,←hx,Nat.zero_add];unfold z0x;have ht:((z0y o).drop (k * 2)).take 2=zb1 o[k]:=zcn z17 hk;have hlen:(z0y o).length=o.length * 2:=z0o z17 o;apply List.ext_getElem?;intro i;rw[List.getElem?_set,List.append_assoc,List.getElem?_append,List.length_take,List.getElem?_append,List.length_set,z17,List.getElem?_set,z17,List.getElem?_drop,List.getElem?_take];rw[show min (k * 2) (z0y o).length=k * 2 by omega];by_cases h1:i<k * 2
   ·rw[if_neg (by omega),if_pos h1,if_pos h1]
   ·rw[if_neg h1];by_cases h2:i<k * 2+2
    ·rw[if_pos (show i - k * 2<2 by omega)];by_cases h3:k * 2+j=i
     ·rw[if_pos h3,if_pos (by omega),if_pos (show j=i - k * 2 by omega),if_pos (by omega)]
     ·rw[if_neg h3,if_neg (show ¬j=i - k * 2 by omega),←ht,List.getElem?_take,if_pos (by omega),List.getElem?_drop];congr 1;omega
    ·rw[if_neg (show ¬k * 2+j=i by omega),if_neg (show ¬i - k * 2<2 by omega)];congr 1;omega
  rw[z3u,e];refine kk.pre fun q hq=>?_;have:=z34 n (l:=upd l n (pts b (.cells (z0y (o.set k x)) false))) (B:=z07 ⟨some ⟨b,0⟩,ln⟩ 2 (z0y (o.set k x))) (z37 l n _ hl) (fun q h =>.mk (by rw[z0o z17,List.length_set];exact h2) h) q hq
  rwa [z3u]at this
theorem zhb{a:Nat}(ha:a<65536)(ok:RowsOk rs)(hr:RdC T s 2 (z0y rs))(hN:100<N):Tri (z00 [T]) (F_1u N s (a:Int)) fun r=>pu (r.2.2=z3k rs a∧(z3k rs a=0→r.2.1=(z3d rs a:Nat)∧z3d rs a<16)) (z00 [if z3k rs a=0 then z07 r.1 2 (z0y (zad rs a))else emp,T]):=by
 have hlen:=z6l hr;have h16:=ok.len;unfold F_1u;refine z02 [0] (zdo ok hr hN) fun r=>z04 fun h=>z01 ?_;subst h;dsimp only[sel,rem,nth,del,cat,upd];refine z05 (by simp) ?_;refine z11 fun b=>?_;refine z02 [0,0] ((z2a (s:=⟨some ⟨b,0⟩,0⟩) (by':=16) (cs:=[]) hr (by omega) (z7c z9t _) (by
  have:z1z=70368744177664:=rfl
  dsimp only;omega)).pre fun q hq=>z49 (A:=pts b (.cells [] false)) (l:=[T]) (fun q h =>.mk (by simp) h) hq) fun l5=>z01 ?_
 dsimp only[sel,rem,nth,del,cat,upd];refine z02 [1] (zlj ha ok hr hN) fun r6=>z04 fun h6=>z01 ?_;subst h6;dsimp only[sel,rem,nth,del,cat,upd];cases hx:rs.findIdx? (z31 a)with
 | some i=>
  have hi:=(List.findIdx?_eq_some_iff_getElem.1 hx).1;have hrow:rowN rs i=rs[i]:=by simp[rowN,hi]
  have hN':z9d rs a=some i:=by unfold z9d;rw[hx]
  have hI:z3d rs a=i:=by unfold z3d;rw[hN'];rfl
  have hb:=(ok.rng _ (List.getElem_mem hi)).2;have hlab:rs[i].1=a:=by
   have:=(List.findIdx?_eq_some_iff_getElem.1 hx).2.1
   unfold z31 at this;simp at this;exact this.2
  dsimp only;refine z02 [0] (Q:=fun c=>pu (c=decide (rs[i].2=65535)) (z00 [T])) ?_ fun c=>z04 fun hc=>z01 ?_
  ·refine z08 rfl (z1v 0 rfl hr (by omega) (by omega) (z6e hi) (z03 [0] fun q hq=>⟨?_,hq⟩));congr 1;apply propext;omega
  dsimp only[sel,rem,nth,del,cat,upd];by_cases hf:rs[i].2=65535
  ·have hE:z3k rs a=4:=by unfold z3k;rw[hN'];simp only[hrow,hf,if_true]
   refine z08 (by rw[hc];simp[hf]) (z03 [0] fun q hq=>⟨⟨hE.symm,fun c=>by rw[hE]at c;cases c⟩,?_⟩);rw[if_neg (by rw[hE];decide)];exact z2r (fun _ h=>h) hq
  ·have hE:z3k rs a=0:=by unfold z3k;rw[hN'];simp only[hrow,hf,if_false]
   refine z05 (by rw[hc];simp[hf]) (z08 rfl ?_);refine z0a 1 rfl fun ll=>?_;refine z1v 1 rfl (z0e ll) (by rw[List.nil_append,z0o z17]at ll;omega) (by omega) (by rw[List.nil_append];exact z6e hi) ?_;rw[List.nil_append,z0f (by omega) (by omega)];refine zha 1 rfl (x:=(a,rs[i].2+1)) hi (by omega) rfl (by rw[←hlab];simp[zb1]) ?_;refine z03 [1,0] fun q hq=>⟨⟨hE.symm,fun _=>⟨by rw[hI],by omega⟩⟩,?_⟩;rw[if_pos hE];unfold zad;rw[hI,hrow];exact hq
 | none=>
  dsimp only;refine z02 [0] (Q:=fun c=>pu (c=false) (z00 [T])) (z05 (by simp) (z03 [0] fun q hq=>⟨rfl,hq⟩)) fun c=>z04 fun hc=>z01 ?_;subst hc;dsimp only[sel,rem,nth,del,cat,upd];refine z05 (by simp) (z05 (by simp) ?_);have hN':z9d rs a=rs.findIdx? z5k:=by unfold z9d;rw[hx]
  have loop:∀(K j:Nat),rs.length - j<K→j≤rs.length→(∀(i:Nat)(hi:i<rs.length),i<j→z5k rs[i]=false) →
    Tri (z00 [z07 l5 2 (z0y rs),T]) (z0l K (F_5l N s (a:Int) l5) (j:Int)) fun r=>pu (r=match rs.findIdx? z5k with | some i =>.inr (l5,(i:Int),0) | none =>.inl ()) (z00 [z07 l5 2 (z0y (match rs.findIdx? z5k with | some i=>rs.set i (a,1) | none=>rs)),T]):=by
   intro K;induction K with
   | zero=>intro i h;omega
   | succ K ih=>
    intro j h hj hno;rw[z16];unfold F_5l;by_cases hjl:j<rs.length
    ·refine z08 (by simp[hlen];omega) ?_;refine z1v 1 rfl hr (by omega) (by omega) (z6e hjl) ?_;by_cases hz:rs[j].2=0
     ·have:rs.findIdx? z5k=some j:=by
       rw[List.findIdx?_eq_some_iff_getElem];exact⟨hjl,by simp[z5k,hz],fun i hi=>by rw[hno i (by omega) hi];simp⟩
      rw[this];refine z08 (by simp[hz]) (z10n 0 rfl (x:=(a,1)) hjl (z03 [0,0] fun q hq=>⟨rfl,hq⟩))
     ·refine z05 (by simp;omega) ?_;rw[z0f (by omega) (by omega)];refine ih (j+1) (by omega) (by omega) fun i hi hij=>?_;by_cases e:i=j
      ·subst e;simp[z5k,hz]
      ·exact hno i hi (by omega)
    ·have:rs.findIdx? z5k=none:=by
      rw[List.findIdx?_eq_none_iff];intro x hx;obtain⟨i,hi,rfl⟩:=List.mem_iff_getElem.1 hx;exact hno i hi (by omega)
     rw[this];exact z05 (by simp[hlen];omega) (z03 [0,0] fun q hq=>⟨rfl,hq⟩)
  refine z02 [1,0] (loop N 0 (by omega) (by omega) fun i _ h=>by omega) fun r=>z04 fun hr'=>z01 ?_;cases hf:rs.findIdx? z5k with
  | none=>
   rw[hf]at hr';subst hr';dsimp only[sel,rem,nth,del,cat,upd];have hE:z3k rs a=5:=by unfold z3k;rw[hN',hf]
   refine z03 [1] fun q hq=>⟨⟨hE.symm,fun c=>by rw[hE]at c;cases c⟩,?_⟩;rw[if_neg (by rw[hE];decide)];exact z2r (fun _ h=>h) hq
  | some i=>
   rw[hf]at hr';subst hr';dsimp only[sel,rem,nth,del,cat,upd];have hi:=(List.findIdx?_eq_some_iff_getElem.1 hf).1;have hrow:rowN rs i=rs[i]:=by simp[rowN,hi]
   have hz:rs[i].2=0:=by
    have:=(List.findIdx?_eq_some_iff_getElem.1 hf).2.1
    unfold z5k at this;simpa using this
   have hI:z3d rs a=i:=by unfold z3d;rw[hN',hf];rfl
   have hE:z3k rs a=0:=by unfold z3k;rw[hN',hf];simp only[hrow,hz];rfl
   refine z03 [0,0] fun q hq=>⟨⟨hE.symm,fun _=>⟨by rw[hI],by omega⟩⟩,?_⟩;rw[if_pos hE];unfold zad;rw[hI,hrow,hz];exact hq
theorem zfz(ok:RowsOk rs)(hr:RdC T s 2 (z0y rs)){i:Nat}(hi:i<16)(h0:0<(rowN rs i).2)(hN:100<N):Tri (z00 [T]) (F_1v N s (i:Int)) fun r=>pu (r.2=0) (z00 [z07 r.1 2 (z0y (z7r rs i)),T]):=by
 have hlen:=z6l hr;have h16:=ok.len;have hil:i<rs.length:=by omega
 have hrow:rowN rs i=rs[i]:=by simp[rowN,hil]
 rw[hrow]at h0;have hb:=(ok.rng _ (List.getElem_mem hil)).2;unfold F_1v;refine z02 [0] (zdo ok hr hN) fun r=>z04 fun h=>z01 ?_;subst h;dsimp only[sel,rem,nth,del,cat,upd];refine z05 (by simp[hlen];omega) ?_;refine z1v 0 rfl hr (by omega) (by omega) (z6e hil) (z05 (by simp;omega) ?_);refine z11 fun b=>?_;refine z02 [0,0] ((z2a (s:=⟨some ⟨b,0⟩,0⟩) (by':=16) (cs:=[]) hr (by omega) (z7c z9t _) (by
  have:z1z=70368744177664:=rfl
  dsimp only;omega)).pre fun q hq=>z49 (A:=pts b (.cells [] false)) (l:=[T]) (fun q h =>.mk (by simp) h) hq) fun l8=>z01 ?_
 dsimp only[sel,rem,nth,del,cat,upd];rw[List.nil_append];refine z0a 0 rfl fun ll=>?_;have ll2:=ll;rw[z0o z17]at ll2;refine z1v 0 rfl (z0e ll) (by omega) (by omega) (z6e hil) ?_;rw[z0f (by omega) (by omega)];have e:((rs[i].2:Int) - 1)=((rs[i].2 - 1:Nat):Int):=by omega
 rw[e];refine zha 0 rfl (x:=(rs[i].1,rs[i].2 - 1)) hil (by omega) rfl (by simp[zb1]) ?_;dsimp only[sel,rem,nth,del,cat,upd];have hsl:i<(rs.set i (rs[i].1,rs[i].2 - 1)).length:=by rw[List.length_set];exact hil
 have hget:(rs.set i (rs[i].1,rs[i].2 - 1))[i]=(rs[i].1,rs[i].2 - 1):=by simp
 refine z0a 0 rfl fun ll3=>?_;refine z1v 0 rfl (z0e ll3) (by omega) (by omega) (v:=(rs[i].2 - 1:Nat)) (by rw[z6e hsl,hget]) ?_;by_cases h1:rs[i].2=1
 ·refine z02 [0,0] (Q:=fun _=>z00 [z07 l8 2 (z0y (z7r rs i)),T]) ?_ fun _=>z01 (z03 [0,0] fun q hq=>⟨rfl,hq⟩);refine z08 (by simp[h1]) (zha 0 rfl (x:=(0,0)) hsl (by omega) rfl (by rw[hget,h1];rfl) (z03 [0,0] fun q hq=>?_));unfold z7r;rw[hrow,if_pos h1];rw[List.set_set]at hq;exact hq
 ·refine z02 [0,0] (Q:=fun _=>z00 [z07 l8 2 (z0y (z7r rs i)),T]) ?_ fun _=>z01 (z03 [0,0] fun q hq=>⟨rfl,hq⟩);refine z05 (by simp;omega) (z03 [0,0] fun q hq=>?_);unfold z7r;rw[hrow,if_neg h1];exact hq
theorem zxz(hN:20<N):z0l N (F_26 N (z0w n)) (0:Int)=ret (if(List.range' 0 8).all (fun t=>z2l (n.at (2+t)))then .inl ()else .inr false):=by
 have loop:∀(K j:Nat),8 - j<K→j≤8→z0l K (F_26 N (z0w n)) (j:Int)=ret (if(List.range' j (8 - j)).all (fun t=>z2l (n.at (2+t)))then .inl ()else .inr false):=by
  intro K;induction K with
  | zero=>intro j h;omega
  | succ K ih=>
   intro j h hj;rw[z16];unfold F_26;by_cases h8:j<8
   ·have g:(z0w n)[4+((j:Int)).toNat * 1]? = some (.int .i64 (n.at (2+j))):=by
     rw[show 4+((j:Int)).toNat * 1=(2+j)+2 by omega];exact z5x n (by omega)
    rw[if_pos (by simp;omega),if_pos (show(0:Int)≤(j:Int)∧(j:Int)<8 by omega),g];rw[show 8 - j=(8 - (j+1))+1 by omega,List.range'_succ,List.all_cons];show(if(!z2l (n.at (2+j)))=true then _ else _)=_;cases hp:z2l (n.at (2+j))
    ·rfl
    ·rw[if_neg (by simp),z0f (by omega) (by omega)];exact ih (j+1) (by omega) (by omega)
   ·obtain rfl:j=8:=by omega
    rfl
 exact loop N 0 (by omega) (by omega)
theorem zqq(hN:20<N):F_3h N (z0w n)=ret n.ok:=by
 unfold F_3h;have g0:(z0w n)[0]? = some (.int .u8 n.k):=rfl;have g1:(z0w n)[1]? = some (.int .u8 n.r):=rfl;have g2:(z0w n)[2]? = some (.int .i64 (n.at 0)):=z5x n (i:=0) (by omega);have g3:(z0w n)[3]? = some (.int .i64 (n.at 1)):=z5x n (i:=1) (by omega);have g12:(z0w n)[12]? = some (.int .i64 (n.at 10)):=z5x n (i:=10) (by omega);have g13:(z0w n)[13]? = some (.int .i64 (n.at 11)):=z5x n (i:=11) (by omega);have e14:0+14≤(z0w n).length:=by rw[z0g];omega
 have t14:((z0w n).drop 0).take 14=z0w n:=by rw[List.drop_zero,List.take_of_length_le (by rw[z0g];omega)]
 rw[g0,g1,g2,g3,g12,g13,if_pos e14,t14,z7a];have hall:(n.xs.1.drop 2).all z2l=((List.range' 0 8).all (fun t=>z2l (n.at (2+t)))&&(z2l (n.at 10)&&z2l (n.at 11))):=by
  obtain⟨k,r,xs,hx⟩:=n;match xs,hx with
  | [a,b,c,d,e,f,g,h,i,j,p,q],_=>simp[Ino.at,Bool.and_assoc,List.range']
 have lp:=zxz (n:=n) hN;show bd (if(decide ((2:Int)<(n.k:Int)))=false then(bd (if(decide ((n.k:Int)=0))=true then z1c (z6q _ (z0w n) (z0w Ino.z)) (fun z=>ret (!z))else ret false) fun c8=>ret c8)else ret true) (fun c9=>bd (if c9=false then ret (decide ((16:Int)≤(n.r:Int)))else ret true) fun c12=>bd (if c12=false then ret (decide (n.at 0<0))else ret true) fun c15=>bd (if c15=false then ret (decide (65535<n.at 0))else ret true) fun c18=>bd (if c18=false then ret (decide (n.at 1<0))else ret true) fun c21=>bd (if c21=false then ret (decide (3840<n.at 1))else ret true) fun c24=>if c24=true then ret false else bd (z0l N (F_26 N (z0w n)) (0:Int)) fun j30=>match j30 with
  | .inl _=>bd (ret (z2l (n.at 10))) fun r35=>bd (if r35=true then bd (ret (z2l (n.at 11))) fun r38=>ret r38 else ret false) fun c39=>ret c39
  | .inr j=>ret j)=ret n.ok
 rw[eqZ,lp];show bd (if(decide ((2:Int)<(n.k:Int)))=false then(bd (if(decide ((n.k:Int)=0))=true then ret (!decide (n=Ino.z))else ret false) fun c8=>ret c8)else ret true) (fun c9=>bd (if c9=false then ret (decide ((16:Int)≤(n.r:Int)))else ret true) fun c12=>bd (if c12=false then ret (decide (n.at 0<0))else ret true) fun c15=>bd (if c15=false then ret (decide (65535<n.at 0))else ret true) fun c18=>bd (if c18=false then ret (decide (n.at 1<0))else ret true) fun c21=>bd (if c21=false then ret (decide (3840<n.at 1))else ret true) fun c24=>if c24=true then ret false else bd (ret (if(List.range' 0 8).all (fun t=>z2l (n.at (2+t)))then .inl ()else .inr false):M (Unit⊕Bool)) fun j30=>match j30 with
  | .inl _=>bd (ret (z2l (n.at 10))) fun r35=>bd (if r35=true then bd (ret (z2l (n.at 11))) fun r38=>ret r38 else ret false) fun c39=>ret c39
  | .inr j=>ret j)=ret n.ok
 unfold Ino.ok;rw[hall];have br:∀{α γ:Type}(a:α)(f:α→M γ),bd (ret a) f=f a:=fun a f=>rfl;by_cases c1:n.k<3
 case neg=>simp[show(2:Int)<(n.k:Int) by omega,br,c1]
 have f1:¬(2:Int)<(n.k:Int):=by omega
 by_cases c2:(n.k≠0∨n=Ino.z)
 case neg=>
  rw[not_or]at c2;have k0:n.k=0:=Classical.not_not.1 c2.1;simp[k0,c2.2,br]
 have f2:(if(decide ((n.k:Int)=0))=true then(ret (!decide (n=Ino.z)))else ret false:M Bool)=ret false:=by
  split
  ·rename_i hk;have:n=Ino.z:=c2.resolve_left fun c=>c (by simpa using hk)
   simp[this]
  ·rfl
 have f4:(decide (n.k≠0) || decide (n=Ino.z))=true:=by simpa using c2
 rw[f2,f4];by_cases c3:n.r<16
 case neg=>simp[f1,br,c3,show(16:Int)≤(n.r:Int) by omega]
 have f3:¬(16:Int)≤(n.r:Int):=by omega
 by_cases c4:0≤n.at 0
 case neg=>simp[f1,f3,br,c4,show n.at 0<0 by omega]
 by_cases c5:n.at 0≤65535
 case neg=>simp[f1,f3,br,c5,show ¬n.at 0<0 by omega,show(65535:Int)<n.at 0 by omega]
 by_cases c6:0≤n.at 1
 case neg=>simp[f1,f3,br,c6,show ¬n.at 0<0 by omega,show ¬(65535:Int)<n.at 0 by omega,show n.at 1<0 by omega]
 by_cases c7:n.at 1≤3840
 case neg=>simp[f1,f3,br,c7,show ¬n.at 0<0 by omega,show ¬(65535:Int)<n.at 0 by omega,show ¬n.at 1<0 by omega,show(3840:Int)<n.at 1 by omega]
 simp only[f1,f3,decide_false,Bool.false_eq_true,if_false,br,show ¬n.at 0<0 by omega,show ¬(65535:Int)<n.at 0 by omega,show ¬n.at 1<0 by omega,show ¬(3840:Int)<n.at 1 by omega,if_true];cases ha:(List.range' 0 8).all (fun t=>z2l (n.at (2+t)))
 ·simp[br]
 ·cases hb:z2l (n.at 10)<;>cases hc:z2l (n.at 11)<;>simp[br,c1,c3,c4,c5,c6,c7]
end
end Go.Moat

/- The document's answer for layer 15. -/
namespace Go.Moat
open Go.Mini
structure RefS where
 m:MetaS
 B:List (List UInt8)
 D:List Bool
structure RC where
 rows:Sl
 own:Sl
 used:Sl
 ino:Sl
 bs:Sl
 ds:Sl
def z8k(l:List (List UInt8)):List MV:=l.map .str
def z5f(l:List Bool):List MV:=l.map .bool
def z8w(g:Geo)(x:RC):List MV:=[.int .i64 g.J,.int .i64 g.I,.int .i64 g.G,.int .i64 g.P,.sl x.rows.p x.rows.len 2,.sl x.own.p x.own.len 1,.sl x.used.p x.used.len 1,.sl x.ino.p x.ino.len 14,.sl x.bs.p x.bs.len 1,.sl x.ds.p x.ds.len 1]
abbrev refL(w:Nat)(g:Geo)(W:RefS)(x:RC):List HA:=[pts w (.cells (z8w g x) false),z07 x.rows 2 (z0y W.m.rows),z07 x.own 1 (z2g W.m.own),z07 x.used 1 (bytesOf W.m.used),z07 x.ino 14 (z1t W.m.ino),z07 x.bs 1 (z8k W.B),z07 x.ds 1 (z5f W.D)]
def z1i(w:Nat)(g:Geo)(W:RefS):HA:=exA fun x=>z00 (refL w g W x)
def RefS.wM(W:RefS)(m:MetaS):RefS:={W with m:=m}
def RefS.write(W:RefS)(b:Nat)(bs:List UInt8):RefS:={W with B:=W.B.set b bs,D:=W.D.set b true}
structure RWok(g:Geo)(W:RefS):Prop where
 inv:Inv g W.m
 bl:W.B.length=g.B
 dl:W.D.length=g.B
section
variable{N:Nat}{β:Type}{l:List HA}{S:β→HA}{T:HA}{w:Nat}{g:Geo}{W:RefS}{m:M β}
theorem z5i(o:List (List UInt8)):(z8k o).length=o.length:=by simp[z8k]
theorem z5v(o:List Bool):(z5f o).length=o.length:=by simp[z5f]
theorem z38(n:Nat)(hl:l[n]? = some (z1i w g W))(k:∀x,Tri (z00 (cat (refL w g W x) (del l n))) m S):Tri (z00 l) m S:=
 zfc (γ:=RC) (φ:=fun _=>True) (L:=fun x=>refL w g W x) n hl (fun _ ⟨x,h⟩=>⟨x,trivial,h⟩) fun x _=>k x
theorem z1e{x:RC}{q:PH}(hq:z00 (refL w g W x) q):z1i w g W q:=⟨x,hq⟩
theorem zqr(n:Nat){s:Sl}{o:List (List UInt8)}(hl:l[n]? = some (z07 s 1 (z8k o))){k:Nat}{x:List UInt8}(hk:k<o.length){f:Unit→M β}(kk:Tri (z00 (upd l n (z07 s 1 (z8k (o.set k x))))) (f ()) S):Tri (z00 l) (bd (idx 1 s (k:Int)) fun q=>bd (stc q (.str x)) f) S:=by
 refine z77 n hl (fun h1 h2=>?_) fun b ln h1 h2=>?_
 ·have:=congrArg List.length h2
  rw[z5i,List.length_nil]at this;omega
 ·subst h1;rw[z5i]at h2;refine z21 (by omega) (z1x n (z37 l n _ hl) (by rw[z5i];omega) rfl ?_);rw[z3u,Nat.zero_add,Nat.mul_one];have e:(z8k o).set k (.str x)=z8k (o.set k x):=by
   unfold z8k;rw[List.map_set]
  rw[e];refine kk.pre fun q hq=>?_;have:=z34 n (l:=upd l n (pts b (.cells (z8k (o.set k x)) false))) (B:=z07 ⟨some ⟨b,0⟩,ln⟩ 1 (z8k (o.set k x))) (z37 l n _ hl) (fun q h =>.mk (by rw[z5i,List.length_set];exact h2) h) q hq
  rwa [z3u]at this
theorem znh(n:Nat){s:Sl}{o:List Bool}(hl:l[n]? = some (z07 s 1 (z5f o))){k:Nat}{x:Bool}(hk:k<o.length){f:Unit→M β}(kk:Tri (z00 (upd l n (z07 s 1 (z5f (o.set k x))))) (f ()) S):Tri (z00 l) (bd (idx 1 s (k:Int)) fun q=>bd (stc q (.bool x)) f) S:=by
 refine z77 n hl (fun h1 h2=>?_) fun b ln h1 h2=>?_
 ·have:=congrArg List.length h2
  rw[z5v,List.length_nil]at this;omega
 ·subst h1;rw[z5v]at h2;refine z21 (by omega) (z1x n (z37 l n _ hl) (by rw[z5v];omega) rfl ?_);rw[z3u,Nat.zero_add,Nat.mul_one];have e:(z5f o).set k (.bool x)=z5f (o.set k x):=by
   unfold z5f;rw[List.map_set]
  rw[e];refine kk.pre fun q hq=>?_;have:=z34 n (l:=upd l n (pts b (.cells (z5f (o.set k x)) false))) (B:=z07 ⟨some ⟨b,0⟩,ln⟩ 1 (z5f (o.set k x))) (z37 l n _ hl) (fun q h =>.mk (by rw[z5v,List.length_set];exact h2) h) q hq
  rwa [z3u]at this
theorem zhc(hg:g.ok)(hu:W.m.used.length=64){b:Nat}(hb:b<g.B)(on:Bool)(hN:5000<N):Tri (z00 [z1i w g W]) (F_0z N (some ⟨w,0⟩) (b:Int) on) fun _=>z00 [z1i w g (W.wM {W.m with used:=z13 W.m.used b on})]:=by
 have hgp:=hg.gp;have hB:g.B=g.G * g.P:=rfl;unfold F_0z;refine z38 0 rfl fun x=>?_;dsimp only[sel,rem,nth,del,cat,upd];refine z0h (z06 (z06 (z0z 0 rfl rfl ?_)));refine z0a 3 rfl fun h3=>?_;refine z02 [3] (zue (z0e h3) (by omega) (by omega) on hN) fun r=>z04 fun hr=>z01 ?_;dsimp only[sel,rem,nth,del,cat,upd];refine z0h (z06 (z06 (z1x 2 rfl (by simp[z8w]) rfl ?_)));dsimp only[sel,rem,nth,del,cat,upd];refine z03 [2,2,2,0,1,1,1] fun q hq=>?_;rw[z0v];exact z1e (x:={x with used:=r.1}) hq
theorem zuv(hg:g.ok)(ok:RWok g W)(b:Int)(hN:5000<N) :
  Tri (z00 [z1i w g W]) (F_39 N (some ⟨w,0⟩) b) fun r=>pu (r=W.m.usedE g b) (z00 [z1i w g (if W.m.usedE g b=0 then(W.write b.toNat z14).wM (W.m.free g b.toNat)else W)]):=by
 have hgp:=hg.gp;have hp1:=hg.p1;have hul:=ok.inv.ok.usedl;have hB:g.B=g.G * g.P:=rfl;have hbl:=ok.bl;have hdl:=ok.dl;unfold F_39;refine z38 0 rfl fun x=>?_;dsimp only[sel,rem,nth,del,cat,upd];refine z0a 5 rfl fun h5=>z0a 3 rfl fun h3=>z0a 6 rfl fun h6=>?_;rw[z5i]at h5;rw[z5v]at h6;refine z02 [0,0,0,0,0,0,0] (Q:=fun c=>pu (c = !decide (0≤b∧b<g.B)) (z00 (refL w g W x))) ?_ fun c=>z04 fun hc=>z01 ?_
 ·by_cases h0:0≤b
  ·refine z08 (by simp;omega) (z0h (z06 (z0z 0 rfl rfl (z03 [0,0,0,0,0,0,0] fun q hq=>⟨?_,hq⟩))));dsimp only;by_cases hbb:b<g.B
   ·simp[h0,hbb];omega
   ·simp[hbb];omega
  ·exact z05 (by simp;omega) (z03 [0,0,0,0,0,0,0] fun q hq=>⟨by simp[h0],hq⟩)
 dsimp only[sel,rem,nth,del,cat,upd];by_cases hin:0≤b∧b<g.B
 case neg=>
  have hE:W.m.usedE g b=1:=by unfold MetaS.usedE;rw[if_neg hin]
  refine z08 (by rw[hc];simp[hin]) (z03 [0,0,0,0,0,0,0] fun q hq=>⟨hE.symm,?_⟩);rw[hE,if_neg (by decide),z0v];exact z1e hq
 refine z05 (by rw[hc];simp[hin]) ?_;obtain⟨k,rfl⟩:∃k:Nat,b=k:=⟨b.toNat,by omega⟩;have hk:k<g.B:=by omega
 rw[Int.toNat_natCast];refine z0h (z06 (z06 (z0z 0 rfl rfl ?_)));refine z02 [3] (zcy (z0e h3) (by omega) k (by omega)) fun r11=>z04 fun h11=>z01 ?_;dsimp only[sel,rem,nth,del,cat,upd];cases hbit:z0s W.m.used k with
 | false=>
  have hE:W.m.usedE g k=2:=by unfold MetaS.usedE;rw[if_pos hin,Int.toNat_natCast,hbit];rfl
  refine z08 (by rw[h11,hbit];rfl) (z03 [1,1,1,0,0,0,0] fun q hq=>⟨hE.symm,?_⟩);rw[hE,if_neg (by decide),z0v];exact z1e hq
 | true=>
 have hE:W.m.usedE g k=0:=by unfold MetaS.usedE;rw[if_pos hin,Int.toNat_natCast,hbit];rfl
 rw[hE,if_pos rfl];refine z05 (by rw[h11,hbit];simp) ?_;refine z02 [1,1,1,0,0,0,0] ((zhc hg hul hk false hN).pre fun q hq=>by rw[z0v];exact z1e hq) fun _=>z01 ?_;dsimp only[sel,rem,nth,del,cat,upd];clear h3 h5 h6 x;refine z38 0 rfl fun x=>?_;dsimp only[sel,rem,nth,del,cat,upd];refine z0a 5 rfl fun h5=>z0a 3 rfl fun h3=>z0a 6 rfl fun h6=>z0a 2 rfl fun h2=>z0a 1 rfl fun h1=>?_;rw[z5i]at h5;rw[z5v]at h6;refine z0h (z06 (z0z 0 rfl rfl ?_));refine z79 64 (by omega) fun sb=>?_;refine z4k 0 rfl (bs:=z14) (rd_pts0 (k:=64) (by rw[z0i];rfl)) ?_;refine zqr 6 rfl (by show k<W.B.length;omega) ?_;refine z0h (z06 (z0z 1 rfl rfl ?_));refine znh 7 rfl (by show k<W.D.length;omega) ?_;dsimp only[sel,rem,nth,del,cat,upd];refine z0h (z06 (z06 (z29 1 rfl rfl ?_)));refine z05 (by omega) ?_;refine z0h (z06 (z06 (z0z 1 rfl rfl ?_)));refine z0h (z06 (z06 (z29 1 rfl rfl ?_)));refine z0h (z06 (z06 (z29 1 rfl rfl ?_)));have hkG:k / g.P<g.G:=by
  rw[Nat.div_lt_iff_lt_mul (by omega)];exact hk
 have hb2:(k / g.P+1) * g.P≤g.G * g.P:=Nat.mul_le_mul_right _ hkG;have hb1:(k / g.P) * g.P≤(k / g.P+1) * g.P:=Nat.mul_le_mul_right _ (by omega);have hkl:k / g.P<W.m.own.length:=by rw[ok.inv.ok.ownl];exact hkG
 have h0:=ok.inv.gr hg k hk hbit;rw[List.getElem?_eq_getElem hkl,Option.getD_some]at h0;have h16:=ok.inv.ok.own16 _ (List.getElem_mem hkl);have hG:=hg.g2;have hrow:0<(rowN W.m.rows (W.m.own[k / g.P] - 1)).2:=ok.inv.rf.own _ (List.getElem_mem hkl) h0;have efree:W.m.free g k=if z3j (z13 W.m.used k false) (k / g.P * g.P) ((k / g.P+1) * g.P)=0 then {W.m with used:=z13 W.m.used k false,rows:=z7r W.m.rows (W.m.own[k / g.P] - 1),own:=W.m.own.set (k / g.P) 0}else {W.m with used:=z13 W.m.used k false}:=by
  unfold MetaS.free;rw[List.getElem?_eq_getElem hkl,Option.getD_some]
 rw[efree];have hown:(i64s (W.m.own.map Int.ofNat))[k / g.P]? = some (.int .i64 (W.m.own[k / g.P]:Nat)):=by simp[i64s,hkl]
 generalize hkk:k / g.P=kk at *;have ediv:(k:Int).tdiv (g.P:Int)=(kk:Int):=by rw[←hkk];rfl
 rw[ediv,z0f (n:=(kk:Int)) (by omega) (by omega)];have e1:(kk:Int) * (g.P:Int)=((kk * g.P:Nat):Int):=by simp
 have e2:wr .i64 ((kk:Int)+1)=((kk+1:Nat):Int):=by rw[z0f (by omega) (by omega)];simp
 have e3:((kk+1:Nat):Int) * (g.P:Int)=(((kk+1) * g.P:Nat):Int):=by simp
 rw[e2,e1,e3,z0f (by omega) (by omega),z0f (by omega) (by omega)];have sl:=z7q W.m.used k false;refine z02 [4] (zrl (bs:=z13 W.m.used k false) (z0e h3) (by omega) hb1 (by omega) hN) fun r39=>z04 fun h39=>z01 ?_;dsimp only[sel,rem,nth,del,cat,upd];by_cases hz:z3j (z13 W.m.used k false) (kk * g.P) ((kk+1) * g.P)=0
 ·rw[if_pos hz];refine z02 [2,2,2,0,1,1,1] (Q:=fun _=>z00 [z1i w g ((W.write k z14).wM {W.m with used:=z13 W.m.used k false,rows:=z7r W.m.rows (W.m.own[kk] - 1),own:=W.m.own.set kk 0})]) ?_ fun _=>z01 (z03 [0] fun q hq=>⟨rfl,hq⟩);refine z08 (by rw[h39,hz];rfl) ?_;refine z0h (z06 (z06 (z0z 0 rfl rfl ?_)));refine z0h (z06 (z06 (z0z 0 rfl rfl ?_)));refine tri_rI 2 rfl (z0e h2) hown ?_;have e4:wr .i64 (((W.m.own[kk]:Nat):Int) - 1)=((W.m.own[kk] - 1:Nat):Int):=by rw[z0f (by omega) (by omega)];omega
  rw[e4];refine z02 [1] (zfz ok.inv.ok.rows (z0e h1) (by omega) hrow (by omega)) fun r50=>z04 fun h50=>z01 ?_;dsimp only[sel,rem,nth,del,cat,upd];refine z0h (z06 (z06 (z1x 2 rfl (by simp[z8w]) rfl ?_)));dsimp only[sel,rem,nth,del,cat,upd];refine z0h (z06 (z06 (z0z 2 rfl rfl ?_)));refine zfo 3 rfl (x:=0) hkl ?_;dsimp only[sel,rem,nth,del,cat,upd];refine z03 [2,0,1,1,1,1,1] fun q hq=>?_;rw[z0v];exact z1e (x:={x with rows:=r50.1}) hq
 ·rw[if_neg hz];refine z02 [2,2,2,0,1,1,1] (Q:=fun _=>z00 [z1i w g ((W.write k z14).wM {W.m with used:=z13 W.m.used k false})]) ?_ fun _=>z01 (z03 [0] fun q hq=>⟨rfl,hq⟩);refine z05 (by rw[h39];simp;omega) (z03 [0,0,0,0,0,0,0] fun q hq=>?_);rw[z0v];exact z1e hq
end
end Go.Moat
