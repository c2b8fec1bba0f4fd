/- Layer 16: the reference's file. -/
import Derived.Test.YtfieiaijdalkbaaGreatP16zr
namespace Go.Moat
open Go.Mini
structure RefF where
 B:List UInt8
 has:Nat→Bool
def refC(F:RefF):List MV :=.str F.B::(List.range 60).map fun k =>.bool (F.has k)
theorem refC_len(F:RefF):(refC F).length=61:=by simp[refC]
theorem zpm(F:RefF):(refC F).all z10=true:=by
 unfold refC;rw[List.all_cons,List.all_map];simp[z10]
theorem zt3(F:RefF){k:Nat}(h:k<60):(refC F)[1+k]? = some (.bool (F.has k)):=by
 rw[Nat.add_comm];simp[refC,h]
def RefF.put(F:RefF)(k:Nat)(x:Bool):RefF:=⟨F.B,fun j=>if j=k then x else F.has j⟩
theorem z14z(F:RefF){k:Nat}(h:k<60)(x:Bool):(refC F).set (1+k) (.bool x)=refC (F.put k x):=by
 apply List.ext_getElem?;intro n;rw[List.getElem?_set];cases n with
 | zero=>rw[if_neg (by omega)];rfl
 | succ n=>
  by_cases hn:n<60
  ·rw[Nat.add_comm n 1,zt3 _ hn,zt3 _ hn];by_cases e:n=k
   ·subst e;rw[if_pos rfl,if_pos (by rw[refC_len];omega)];simp[RefF.put]
   ·rw[if_neg (by omega)];simp[RefF.put,e]
  ·rw[if_neg (by omega),List.getElem?_eq_none (by rw[refC_len];omega),List.getElem?_eq_none (by rw[refC_len];omega)]
theorem zt4{xs:List RefF}{i o:Nat}{v:MV}{F':RefF}(hi:i<xs.length)(ho:o<61)(h:(refC xs[i]).set o v=refC F'):(z0x refC xs).set (i * 61+o) v=z0x refC (xs.set i F'):=by
 apply List.ext_getElem?;intro n;have l1:=z0u refC_len xs;have l2:=z0u refC_len (xs.set i F');rw[List.length_set]at l2;by_cases hn:n<xs.length * 61
 ·have hj:n / 61<xs.length:=by omega
  have hr:n%61<61:=by omega
  have e:n / 61 * 61+n%61=n:=by omega
  have e1:=z3l refC_len (l:=xs) hj hr;have e2:=z3l refC_len (l:=xs.set i F') (i:=n / 61) (by simpa using hj) hr;rw[e]at e1 e2;rw[List.getElem?_set,e2,List.getElem_set];by_cases c:i * 61+o=n
  ·have h1:i=n / 61:=by omega
   have h2:n%61=o:=by omega
   rw[if_pos c,if_pos (by omega),if_pos h1,←h,h2,List.getElem?_set,if_pos rfl,if_pos (by rw[refC_len];omega)]
  ·rw[if_neg c,e1];by_cases c2:i=n / 61
   ·subst c2;rw[if_pos rfl,←h,List.getElem?_set,if_neg (by omega)]
   ·rw[if_neg c2]
 ·rw[List.getElem?_eq_none (by rw[List.length_set];omega),List.getElem?_eq_none (by omega)]
def z7r(F:RefF)(k:Nat):Nat:=(List.range k).countP F.has
def zd5(F:RefF)(k:Nat):Nat:=if(List.range k).any (fun j=>F.has j&&decide (8≤j)&&decide (j<40))then 1 else 0
def zar(F:RefF)(k:Nat):Nat:=if(List.range k).any (fun j=>F.has j&&decide (40≤j))then 2 else 0
def RefF.need(F:RefF):Nat:=z7r F 60+zd5 F 60+zar F 60
def RefF.writeE(a:Int)(n:Nat):Int:=if a<0 then 1 else if 3840<a∨3840 - a<(n:Int)then 4 else 0
def z88(B:List UInt8)(e:Nat):List UInt8:=B++List.replicate (e - B.length) 0
def RefF.write(F:RefF)(a:Nat)(bs:List UInt8)(k:Nat):RefF:=⟨(z88 F.B (a+bs.length)).take a++bs++(z88 F.B (a+bs.length)).drop (a+bs.length),fun j=>if j<k∧j * 64<a+bs.length∧a<(j+1) * 64 then true else F.has j⟩
def RefF.wr(F:RefF)(a:Int)(bs:List UInt8):RefF:=if RefF.writeE a bs.length≠0∨bs=[]then F else F.write a.toNat bs 60
def RefF.cutE(size:Int):Int:=if size<0∨3840<size then 1 else 0
def zf2(B:List UInt8)(size:Nat):List UInt8:=if size≤B.length then B.take size else z88 B size
def RefF.cut(F:RefF)(size:Nat)(k:Nat):RefF:=⟨zf2 F.B size,fun j=>if(size+63) / 64≤j∧j<k then false else F.has j⟩
def RefF.ct(F:RefF)(size:Int):RefF:=if RefF.cutE size≠0 then F else F.cut size.toNat 60
def RefF.readE(a n:Int):Int:=if a<0∨n<0 then 1 else 0
def RefF.readB(F:RefF)(a n:Int):List UInt8:=if a<0∨n<0∨(F.B.length:Int)≤a then[]else(F.B.drop a.toNat).take (min n.toNat (F.B.length - a.toNat))
section
variable{N:Nat}{β:Type}{l:List HA}{S:β→HA}{b i:Nat}{xs:List RefF}{F:RefF}{bs:List UInt8}
theorem idxA_eq{n e o:Nat}{k:Nat}(hk:k<n):idxA n e (some ⟨b,o⟩) (k:Int)=ret (some ⟨b,o+k * e⟩):=by
 unfold idxA;dsimp only;rw[if_pos (by omega),Int.toNat_natCast];rfl
theorem tri_rB(n:Nat)(hl:l[n]? = some (pts b (.cells (z0x refC xs) false)))(hi:i<xs.length){f:List UInt8→M β}(kk:Tri (z00 l) (f xs[i].B) S):Tri (z00 l) (bd (nonNil (some ⟨b,i * 61⟩)) fun q=>bd (fld q 0) fun q=>bd (ldS q) f) S:=
 z0r (z0b (zol n hl (by rw[z3l refC_len hi (by omega)];rfl) kk))
theorem zid(n:Nat)(hl:l[n]? = some (pts b (.cells (z0x refC xs) false)))(hi:i<xs.length){B:List UInt8}{f:Unit→M β}(kk:Tri (z00 (upd l n (pts b (.cells (z0x refC (xs.set i ⟨B,xs[i].has⟩)) false)))) (f ()) S):Tri (z00 l) (bd (nonNil (some ⟨b,i * 61⟩)) fun q=>bd (fld q 0) fun q=>bd (stc q (.str B)) f) S:=by
 refine z0r (z0b (z21 n hl (by rw[z0u refC_len];omega) rfl ?_));rw[zt4 (F':=⟨B,xs[i].has⟩) hi (by omega) rfl];exact kk
theorem zt5(n:Nat)(hl:l[n]? = some (pts b (.cells (z0x refC xs) false)))(hi:i<xs.length){k:Nat}(hk:k<60){f:Bool→M β}(kk:Tri (z00 l) (f (xs[i].has k)) S):Tri (z00 l) (bd (nonNil (some ⟨b,i * 61⟩)) fun q=>bd (fld q 1) fun q=>bd (idxA 60 1 q (k:Int)) fun q=>bd (ldB q) f) S:=by
 refine z0r (z0b ?_);rw[idxA_eq hk];refine z0j (zx0 n hl ?_ kk);rw[show i * 61+1+k * 1=i * 61+(1+k) by omega,z3l refC_len hi (by omega),zt3 _ hk]
theorem zpn(n:Nat)(hl:l[n]? = some (pts b (.cells (z0x refC xs) false)))(hi:i<xs.length){k:Nat}(hk:k<60){x:Bool}{f:Unit→M β}(kk:Tri (z00 (upd l n (pts b (.cells (z0x refC (xs.set i (xs[i].put k x))) false)))) (f ()) S):Tri (z00 l) (bd (nonNil (some ⟨b,i * 61⟩)) fun q=>bd (fld q 1) fun q=>bd (idxA 60 1 q (k:Int)) fun q=>bd (stc q (.bool x)) f) S:=by
 refine z0r (z0b ?_);rw[idxA_eq hk];refine z0j (z21 n hl (by rw[z0u refC_len];omega) rfl ?_);rw[show i * 61+1+k * 1=i * 61+(1+k) by omega,zt4 hi (by omega) (z14z _ hk x)];exact kk
theorem zws(F:RefF)(k:Nat):z7r F (k+1)=if F.has k=true then z7r F k+1 else z7r F k:=by
 unfold z7r;rw[List.range_succ,List.countP_append,List.countP_singleton];split<;>omega
theorem z1a1(F:RefF)(k:Nat):zd5 F (k+1)=if((F.has k&&decide ((8:Int)≤(k:Int)))&&decide ((k:Int)<40))=true then 1 else zd5 F k:=by
 have e1:decide ((8:Int)≤(k:Int))=decide (8≤k):=decide_eq_decide.2 (by omega);have e2:decide ((k:Int)<40)=decide (k<40):=decide_eq_decide.2 (by omega);unfold zd5;rw[List.range_succ,List.any_append,List.any_cons,List.any_nil,Bool.or_false,e1,e2];cases (F.has k&&decide (8≤k)&&decide (k<40))<;>simp
theorem z180(F:RefF)(k:Nat):zar F (k+1)=if(F.has k&&decide ((40:Int)≤(k:Int)))=true then 2 else zar F k:=by
 have e1:decide ((40:Int)≤(k:Int))=decide (40≤k):=decide_eq_decide.2 (by omega);unfold zar;rw[List.range_succ,List.any_append,List.any_cons,List.any_nil,Bool.or_false,e1];cases (F.has k&&decide (40≤k))<;>simp
theorem zl6(F:RefF)(k:Nat):z7r F k≤k:=by
 have:=List.countP_le_length (p:=F.has) (l:=List.range k)
 rw[List.length_range]at this;exact this
theorem zwt(F:RefF)(k:Nat):zd5 F k≤1:=by unfold zd5;split<;>omega
theorem zt6(F:RefF)(k:Nat):zar F k≤2:=by unfold zar;split<;>omega
theorem zie(hi:i<xs.length)(hN:100<N):Tri (z00 [pts b (.cells (z0x refC xs) false)]) (F_15 N (some ⟨b,i * 61⟩)) fun r=>pu (r=(xs[i].need:Int)) (z00 [pts b (.cells (z0x refC xs) false)]):=by
 have loop:∀(K k:Nat),60 - k<K→k≤60→Tri (z00 [pts b (.cells (z0x refC xs) false)]) (z0e K (F_46 N (some ⟨b,i * 61⟩)) ((z7r xs[i] k:Int),(zd5 xs[i] k:Int),(zar xs[i] k:Int),(k:Int))) fun r=>pu (r=((z7r xs[i] 60:Int),(zd5 xs[i] 60:Int),(zar xs[i] 60:Int))) (z00 [pts b (.cells (z0x refC xs) false)]):=by
  intro K;induction K with
  | zero=>intro k h;omega
  | succ K ih=>
   intro k hK hk;rw[z13];generalize z0e K (F_46 N (some ⟨b,i * 61⟩))=go at ih ⊢;unfold F_46;by_cases hk60:k<60
   case neg=>
    obtain rfl:k=60:=by omega
    exact z05 (by simp) (z03 [0] fun q hq=>⟨rfl,hq⟩)
   have hle:=zl6 xs[i] k;refine z07 (by simp;omega) ?_;refine zt5 0 rfl hi hk60 ?_;refine z02 [0] (Q:=fun c=>pu (c=(z7r xs[i] (k+1):Int)) (z00 [pts b (.cells (z0x refC xs) false)])) ?_ fun c1=>z04 fun h1=>z01 ?_
   ·by_cases h:xs[i].has k=true
    ·have e:z7r xs[i] (k+1)=z7r xs[i] k+1:=by rw[zws,if_pos h]
     refine z07 h (z03 [0] fun q hq=>⟨?_,hq⟩);dsimp only;rw[e,z09 (by omega) (by omega)];rfl
    ·have e:z7r xs[i] (k+1)=z7r xs[i] k:=by rw[zws,if_neg h]
     exact z05 h (z03 [0] fun q hq=>⟨by rw[e],hq⟩)
   subst h1;dsimp only[sel,rem,nth,del,cat,upd];refine zt5 0 rfl hi hk60 ?_;refine z02 [0] (Q:=fun c=>pu (c=(zd5 xs[i] (k+1):Int)) (z00 [pts b (.cells (z0x refC xs) false)])) ?_ fun c1=>z04 fun h1=>z01 ?_
   ·rw[z1a1];split
    ·exact z03 [0] fun q hq=>⟨rfl,hq⟩
    ·exact z03 [0] fun q hq=>⟨rfl,hq⟩
   subst h1;dsimp only[sel,rem,nth,del,cat,upd];refine zt5 0 rfl hi hk60 ?_;refine z02 [0] (Q:=fun c=>pu (c=(zar xs[i] (k+1):Int)) (z00 [pts b (.cells (z0x refC xs) false)])) ?_ fun c1=>z04 fun h1=>z01 ?_
   ·rw[z180];split
    ·exact z03 [0] fun q hq=>⟨rfl,hq⟩
    ·exact z03 [0] fun q hq=>⟨rfl,hq⟩
   subst h1;dsimp only[sel,rem,nth,del,cat,upd];rw[z09 (n:=(k:Int)+1) (by omega) (by omega)];exact ih (k+1) (by omega) (by omega)
 unfold F_15;refine z02 [0] (loop N 0 (by omega) (by omega)) fun r=>z04 fun h=>z01 ?_;subst h;have h1:=zl6 xs[i] 60;have h2:=zwt xs[i] 60;have h3:=zt6 xs[i] 60;refine z03 [0] fun q hq=>⟨?_,hq⟩;dsimp only;rw[z09 (n:=(z7r xs[i] 60:Int)+(zd5 xs[i] 60:Int)) (by omega) (by omega),z09 (by omega) (by omega)];unfold RefF.need;omega
end
end Go.Moat

/- Layer 16: the reference's file is read, written and cut. -/
namespace Go.Moat
open Go.Mini
section
variable{N:Nat}{β:Type}{l:List HA}{S:β→HA}{b i:Nat}{xs:List RefF}{F:RefF}{bs:List UInt8}{T:HA}
theorem z169{α:Type}{m:M α}{φ:α→Prop}(k:Tri (z00 []) m fun r=>pu (φ r) (z00 [])):Tri (z00 [T]) (frz m) fun r=>pu (φ r) (z00 [T]):=by
 have k2:∀q0,T q0→Tri (z00 [fun q=>q=q0]) m fun r=>pu (φ r) (z00 [fun q=>q=q0]):=fun q0 _=>by
  have e:m=bd m ret:=by
   funext h;unfold bd;cases m h<;>rfl
  rw[e];refine z02 [] k fun r=>z04 fun h=>z01 ?_;exact z03 [0] fun q hq=>⟨h,hq⟩
 refine(zum (Q:=fun r=>pu (φ r) emp) fun q0 hq0=>(k2 q0 hq0).post fun r q hq=>z2h (fun q h=>⟨hq.1,h⟩) hq.2).post fun r q hq=>?_;obtain⟨q1,q2,⟨h1,h2⟩,h3,d,e⟩:=hq;refine⟨h1,?_⟩;have:z18 emp (z00 [T]) q:=⟨q1,q2,h2,h3,d,e⟩
 rwa [z8n,star_emp]at this
theorem znw{k:Nat}(hk:k≤4096):Tri (z00 []) (F_22 N (k:Int)) fun r=>pu (r=List.replicate k 0) (z00 []):=by
 unfold F_22;refine z85 k hk fun b=>?_;refine z4l 0 rfl (rd_pts0 (by rw[z0d];simp)) ?_;exact z03 [] fun q hq=>⟨rfl,hq⟩
theorem zlp(B:List UInt8)(e:Nat):(z88 B e).length=max B.length e:=by
 unfold z88;rw[List.length_append,List.length_replicate];omega
theorem z16a{B:List UInt8}{e:Nat}(h:e≤B.length):z88 B e=B:=by
 unfold z88;rw[show e - B.length=0 by omega];simp
theorem zk3{B:List UInt8}{lo hi:Int}(h0:0≤lo)(h1:lo≤hi)(h2:hi≤B.length):slcS B lo hi=ret ((B.drop lo.toNat).take (hi - lo).toNat):=by
 unfold slcS;rw[if_pos ⟨h0,h1,h2⟩]
theorem zk4{B C:List UInt8}(h:B.length+C.length≤100000):zgk B C=ret (B++C):=by
 have hm:most=70368744177664:=rfl;unfold zgk;rw[if_pos (by omega)]
theorem zuv{xs:List RefF}{i:Nat}(hi:i<xs.length)(F:RefF):(xs.set i F)[i]'(by simpa using hi)=F:=by simp
theorem zr5(hi:i<xs.length)(hN:100<N)(hB:xs[i].B.length≤3840){a:Int}(ha : -9223372036854775808≤a∧a<9223372036854775808)(hb:bs.length≤4000) :
  Tri (z00 [pts b (.cells (z0x refC xs) false)]) (F_3g N (some ⟨b,i * 61⟩) a bs) fun r=>pu (r=RefF.writeE a bs.length) (z00 [pts b (.cells (z0x refC (xs.set i (xs[i].wr a bs))) false)]):=by
 have stay:RefF.writeE a bs.length≠0∨bs=[]→xs.set i (xs[i].wr a bs)=xs:=fun h=>by
  unfold RefF.wr;rw[if_pos h,List.set_getElem_self]
 unfold F_3g;by_cases h0:a<0
 ·have eE:RefF.writeE a bs.length=1:=by unfold RefF.writeE;rw[if_pos h0]
  rw[stay (.inl (by omega)),eE];exact z07 (by simpa using h0) (z03 [0] fun q hq=>⟨rfl,hq⟩)
 refine z05 (by simpa using h0) ?_;have ew:a≤3840→wr .i64 ((3840:Int) - a)=3840 - a:=fun h=>z09 (by omega) (by omega);by_cases h4:3840<a∨3840 - a<(bs.length:Int)
 ·have eE:RefF.writeE a bs.length=4:=by unfold RefF.writeE;rw[if_neg h0,if_pos h4]
  rw[stay (.inl (by omega)),eE];refine z07 ?_ (z03 [0] fun q hq=>⟨rfl,hq⟩);by_cases h:3840<a
  ·simp[h]
  ·rw[ew (by omega)];have:3840 - a<(bs.length:Int):=h4.resolve_left h
   simp[this]
 have eE:RefF.writeE a bs.length=0:=by unfold RefF.writeE;rw[if_neg h0,if_neg h4]
 rw[eE];rw[not_or]at h4;refine z05 (by rw[ew (by omega)];simp;omega) ?_;by_cases hne:bs=[]
 ·rw[stay (.inr hne)];exact z07 (by simpa using hne) (z03 [0] fun q hq=>⟨rfl,hq⟩)
 have ewr:xs[i].wr a bs=xs[i].write a.toNat bs 60:=by
  unfold RefF.wr;rw[if_neg (by rw[eE];simp[hne])]
 rw[ewr];refine z05 (by simpa using hne) ?_;obtain⟨a',rfl⟩:∃a':Nat,a=a':=⟨a.toNat,by omega⟩;have es:wr .i64 ((a':Int)+(bs.length:Int))=((a'+bs.length:Nat):Int):=by
  rw[z09 (by omega) (by omega)];omega
 rw[es,Int.toNat_natCast];refine tri_rB 0 rfl hi ?_;refine z02 [] (Q:=fun j=>pu (j=z88 xs[i].B (a'+bs.length)) (z00 [])) ?_ fun j9=>z04 fun h9=>z01 ?_
 ·by_cases h:xs[i].B.length<a'+bs.length
  ·refine z07 (by simp;omega) ?_;rw[z09 (n:=((a'+bs.length:Nat):Int) - (xs[i].B.length:Int)) (by omega) (by omega),show((a'+bs.length:Nat):Int) - (xs[i].B.length:Int)=((a'+bs.length - xs[i].B.length:Nat):Int) by omega];refine z02 [] (znw (N:=N) (by omega)) fun r7=>z04 fun h7=>z01 ?_;subst h7;rw[zk4 (by simp;omega)];exact z0j (z03 [] fun q hq=>⟨rfl,hq⟩)
  ·exact z05 (by simp;omega) (z03 [] fun q hq=>⟨(z16a (by omega)).symm,hq⟩)
 have hl:=zlp xs[i].B (a'+bs.length);subst h9;rw[zk3 (lo:=0) (hi:=(a':Int)) (by omega) (by omega) (by omega)];refine z0j ?_;rw[zk4 (by simp;omega)];refine z0j ?_;rw[zk3 (lo:=((a'+bs.length:Nat):Int)) (by omega) (by omega) (by omega)];refine z0j ?_;rw[zk4 (by simp;omega)];refine z0j ?_;refine zid 0 rfl hi ?_;dsimp only[sel,rem,nth,del,cat,upd];have eB:((List.drop (Int.toNat 0) (z88 xs[i].B (a'+bs.length))).take ((a':Int) - 0).toNat++bs)++(List.drop ((a'+bs.length:Nat):Int).toNat (z88 xs[i].B (a'+bs.length))).take (((z88 xs[i].B (a'+bs.length)).length:Int) - ((a'+bs.length:Nat):Int)).toNat=(xs[i].write a' bs 0).B:=by
  have e2:(((z88 xs[i].B (a'+bs.length)).length:Int) - ((a'+bs.length:Nat):Int)).toNat=(z88 xs[i].B (a'+bs.length)).length - (a'+bs.length):=by omega
  rw[e2,Int.toNat_natCast,show((a':Int) - 0).toNat=a' by omega,List.take_of_length_le (l:=List.drop (a'+bs.length) _) (by rw[List.length_drop];omega)];rfl
 rw[eB];have loop:∀(K k:Nat),60 - k<K→k≤60→Tri (z00 [pts b (.cells (z0x refC (xs.set i (xs[i].write a' bs k))) false)]) (z0e K (F_45 N (some ⟨b,i * 61⟩) (a':Int) bs) (k:Int)) fun _=>z00 [pts b (.cells (z0x refC (xs.set i (xs[i].write a' bs 60))) false)]:=by
  intro K;induction K with
  | zero=>intro k h;omega
  | succ K ih=>
   intro k hK hk;rw[z13];generalize z0e K (F_45 N (some ⟨b,i * 61⟩) (a':Int) bs)=go at ih ⊢;unfold F_45;by_cases hk60:k<60
   case neg=>
    obtain rfl:k=60:=by omega
    exact z05 (by simp) (z03 [0] fun q hq=>hq)
   refine z07 (by simp;omega) ?_;rw[es,z09 (n:=(k:Int) * 64) (by omega) (by omega),z09 (n:=(k:Int)+1) (by omega) (by omega),z09 (n:=((k:Int)+1) * 64) (by omega) (by omega)];refine z02 [0] (Q:=fun _=>z00 [pts b (.cells (z0x refC (xs.set i (xs[i].write a' bs (k+1)))) false)]) ?_ fun _=>z01 ?_
   ·by_cases h:k * 64<a'+bs.length∧a'<(k+1) * 64
    ·refine z07 (by simp;omega) ?_;refine zpn 0 rfl (xs:=xs.set i (xs[i].write a' bs k)) (by simpa using hi) hk60 ?_;dsimp only[sel,rem,nth,del,cat,upd];rw[zuv hi];refine z03 [0] fun q hq=>?_;have e:(xs[i].write a' bs k).put k true=xs[i].write a' bs (k+1):=by
      unfold RefF.put RefF.write;congr 1;funext j;dsimp only;by_cases e:j=k
      ·subst e;rw[if_pos rfl,if_pos ⟨by omega,h⟩]
      ·rw[if_neg e];by_cases e2:j<k∧j * 64<a'+bs.length∧a'<(j+1) * 64
       ·rw[if_pos e2,if_pos (by omega)]
       ·rw[if_neg e2,if_neg (by omega)]
     rw[List.set_set,e]at hq;exact hq
    ·refine z05 (by simp;omega) (z03 [0] fun q hq=>?_);have e:xs[i].write a' bs k=xs[i].write a' bs (k+1):=by
      unfold RefF.write;congr 1;funext j;by_cases e2:j<k∧j * 64<a'+bs.length∧a'<(j+1) * 64
      ·rw[if_pos e2,if_pos (by omega)]
      ·rw[if_neg e2,if_neg];rintro⟨e3,e4⟩
       by_cases e5:j=k
       ·subst e5;exact h e4
       ·exact e2 ⟨by omega,e4⟩
     rw[←e];exact hq
   exact ih (k+1) (by omega) (by omega)
 have e0:(⟨(xs[i].write a' bs 0).B,xs[i].has⟩:RefF)=xs[i].write a' bs 0:=by
  unfold RefF.write;simp
 rw[e0];refine z02 [0] (loop N 0 (by omega) (by omega)) fun _=>z01 ?_;exact z03 [0] fun q hq=>⟨rfl,hq⟩
end
end Go.Moat

/- Layer 16: the reference's file is cut, and read. -/
namespace Go.Moat
open Go.Mini
section
variable{N:Nat}{β:Type}{l:List HA}{S:β→HA}{b i:Nat}{xs:List RefF}{F:RefF}{bs:List UInt8}{T:HA}
theorem zuw{size:Nat}(h:size≤3840):F_3j N (size:Int)=ret (((size+63) / 64:Nat):Int):=by
 unfold F_3j;by_cases h0:size<1
 ·rw[if_pos (by simp;omega)];obtain rfl:size=0:=by omega
  rfl
 ·rw[if_neg (by simp;omega)];congr 1;have e1:wr .i64 ((size:Int) - 1)=((size - 1:Nat):Int):=by rw[z09 (by omega) (by omega)];omega
  have e2:((size - 1:Nat):Int).tdiv 64=(((size - 1) / 64:Nat):Int):=rfl;rw[e1,e2,z09 (n:=(((size - 1) / 64:Nat):Int)) (by omega) (by omega),z09 (by omega) (by omega)];omega
theorem zw3(hi:i<xs.length)(hN:100<N)(hB:xs[i].B.length≤3840)(a:Int) :
  Tri (z00 [pts b (.cells (z0x refC xs) false)]) (F_3k N (some ⟨b,i * 61⟩) a) fun r=>pu (r=RefF.cutE a) (z00 [pts b (.cells (z0x refC (xs.set i (xs[i].ct a))) false)]):=by
 unfold F_3k;by_cases h0:a<0∨3840<a
 ·have eE:RefF.cutE a=1:=by unfold RefF.cutE;rw[if_pos h0]
  have e:xs.set i (xs[i].ct a)=xs:=by
   unfold RefF.ct;rw[if_pos (by omega),List.set_getElem_self]
  rw[e,eE];exact z07 (by simpa using h0) (z03 [0] fun q hq=>⟨rfl,hq⟩)
 have eE:RefF.cutE a=0:=by unfold RefF.cutE;rw[if_neg h0]
 have ec:xs[i].ct a=xs[i].cut a.toNat 60:=by
  unfold RefF.ct;rw[if_neg (by omega)]
 rw[eE,ec];refine z05 (by simpa using h0) ?_;rw[not_or]at h0;obtain⟨size,rfl⟩:∃size:Nat,a=size:=⟨a.toNat,by omega⟩;rw[Int.toNat_natCast];refine tri_rB 0 rfl hi ?_;refine z02 [0] (Q:=fun _=>z00 [pts b (.cells (z0x refC (xs.set i (xs[i].cut size 0))) false)]) ?_ fun _=>z01 ?_
 ·have e0:(⟨zf2 xs[i].B size,xs[i].has⟩:RefF)=xs[i].cut size 0:=by
   unfold RefF.cut;simp
  rw[←e0];by_cases h:size≤xs[i].B.length
  ·refine z07 (by simp;omega) ?_;refine tri_rB 0 rfl hi ?_;rw[zk3 (lo:=0) (hi:=(size:Int)) (by omega) (by omega) (by omega)];refine z0j ?_;refine zid 0 rfl hi ?_;dsimp only[sel,rem,nth,del,cat,upd];have eB:(List.drop (Int.toNat 0) xs[i].B).take ((size:Int) - 0).toNat=zf2 xs[i].B size:=by
    unfold zf2;rw[if_pos h,show((size:Int) - 0).toNat=size by omega];rfl
   rw[eB];exact z03 [0] fun q hq=>hq
  ·refine z05 (by simp;omega) ?_;refine tri_rB 0 rfl hi ?_;refine tri_rB 0 rfl hi ?_;rw[z09 (n:=(size:Int) - (xs[i].B.length:Int)) (by omega) (by omega),show(size:Int) - (xs[i].B.length:Int)=((size - xs[i].B.length:Nat):Int) by omega];refine z02 [0] (z169 (znw (N:=N) (by omega))) fun r=>z04 fun hr=>z01 ?_;subst hr;dsimp only[sel,rem,nth,del,cat,upd];rw[zk4 (by simp;omega)];refine z0j ?_;refine zid 0 rfl hi ?_;dsimp only[sel,rem,nth,del,cat,upd];have eB:xs[i].B++List.replicate (size - xs[i].B.length) 0=zf2 xs[i].B size:=by
    unfold zf2;rw[if_neg h];rfl
   rw[eB];exact z03 [0] fun q hq=>hq
 dsimp only[sel,rem,nth,del,cat,upd];rw[zuw (by omega)];refine z0j ?_;have loop:∀(K k:Nat),60 - k<K→(size+63) / 64≤k→k≤60→Tri (z00 [pts b (.cells (z0x refC (xs.set i (xs[i].cut size k))) false)]) (z0e K (F_47 N (some ⟨b,i * 61⟩)) (k:Int)) fun _=>z00 [pts b (.cells (z0x refC (xs.set i (xs[i].cut size 60))) false)]:=by
  intro K;induction K with
  | zero=>intro k h;omega
  | succ K ih=>
   intro k hK hk1 hk;rw[z13];generalize z0e K (F_47 N (some ⟨b,i * 61⟩))=go at ih ⊢;unfold F_47;by_cases hk60:k<60
   case neg=>
    obtain rfl:k=60:=by omega
    exact z05 (by simp) (z03 [0] fun q hq=>hq)
   refine z07 (by simp;omega) ?_;refine zpn 0 rfl (xs:=xs.set i (xs[i].cut size k)) (by simpa using hi) hk60 ?_;dsimp only[sel,rem,nth,del,cat,upd];rw[zuv hi,z09 (n:=(k:Int)+1) (by omega) (by omega),List.set_set];have e:(xs[i].cut size k).put k false=xs[i].cut size (k+1):=by
    unfold RefF.put RefF.cut;congr 1;funext j;dsimp only;by_cases e:j=k
    ·subst e;rw[if_pos rfl,if_pos ⟨by omega,by omega⟩]
    ·rw[if_neg e];by_cases e2:(size+63) / 64≤j∧j<k
     ·rw[if_pos e2,if_pos (by omega)]
     ·rw[if_neg e2,if_neg (by omega)]
   rw[e];exact ih (k+1) (by omega) (by omega) (by omega)
 have e0:xs[i].cut size 0=xs[i].cut size ((size+63) / 64):=by
  unfold RefF.cut;congr 1;funext j;rw[if_neg (by omega),if_neg (by omega)]
 rw[e0];refine z02 [0] (loop N ((size+63) / 64) (by omega) (by omega) (by omega)) fun _=>z01 ?_;exact z03 [0] fun q hq=>⟨rfl,hq⟩
theorem zux(hi:i<xs.length)(hB:xs[i].B.length≤3840){a n:Int}(ha:a<9223372036854775808)(hn:n<9223372036854775808) :
  Tri (z00 [pts b (.cells (z0x refC xs) false)]) (F_3i N (some ⟨b,i * 61⟩) a n) fun r=>pu (r=(xs[i].readB a n,RefF.readE a n)) (z00 [pts b (.cells (z0x refC xs) false)]):=by
 unfold F_3i;by_cases h0:a<0∨n<0
 ·have e1:RefF.readE a n=1:=by unfold RefF.readE;rw[if_pos h0]
  have e2:xs[i].readB a n=[]:=by unfold RefF.readB;rw[if_pos (by omega)]
  rw[e1,e2];exact z07 (by simpa using h0) (z03 [0] fun q hq=>⟨rfl,hq⟩)
 refine z05 (by simpa using h0) ?_;have e1:RefF.readE a n=0:=by unfold RefF.readE;rw[if_neg h0]
 rw[e1];refine tri_rB 0 rfl hi ?_;by_cases h1:(xs[i].B.length:Int)≤a
 ·have e2:xs[i].readB a n=[]:=by unfold RefF.readB;rw[if_pos (by omega)]
  rw[e2];exact z07 (by simpa using h1) (z03 [0] fun q hq=>⟨rfl,hq⟩)
 refine z05 (by simp;omega) ?_;have e3:xs[i].readB a n=(xs[i].B.drop a.toNat).take (min n.toNat (xs[i].B.length - a.toNat)):=by unfold RefF.readB;rw[if_neg (by omega)]
 rw[e3];rw[not_or]at h0;refine tri_rB 0 rfl hi (tri_rB 0 rfl hi ?_);obtain⟨a',rfl⟩:∃a':Nat,a=a':=⟨a.toNat,by omega⟩;obtain⟨n',rfl⟩:∃n':Nat,n=n':=⟨n.toNat,by omega⟩;have e1:wr .i64 ((xs[i].B.length:Int) - (a':Int))=((xs[i].B.length - a':Nat):Int):=by rw[z09 (by omega) (by omega)];omega
 have e2:(if((xs[i].B.length - a':Nat):Int)<(n':Int)then((xs[i].B.length - a':Nat):Int)else(n':Int))=((min n' (xs[i].B.length - a'):Nat):Int):=by
  split<;>omega
 rw[e1,e2,z09 (n:=(a':Int)+((min n' (xs[i].B.length - a'):Nat):Int)) (by omega) (by omega),zk3 (by omega) (by omega) (by omega)];refine z0j (z03 [0] fun q hq=>⟨?_,hq⟩);rw[Int.toNat_natCast,Int.toNat_natCast,show((a':Int)+((min n' (xs[i].B.length - a'):Nat):Int) - (a':Int)).toNat=min n' (xs[i].B.length - a') by omega]
end
end Go.Moat
