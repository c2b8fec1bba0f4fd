/- Layers 1, 3: numbers that stand among bytes; sums. -/
import Derived.Test.YtcaaljlhljemoaaGreatB15
import Derived.Test.YtcaaljlhljemoaaGreatD15
namespace Go.Moat
open Go.Mini
section
variable{N:Nat}{β:Type}{l:List HA}{S:β→HA}{T:HA}
theorem zea{s:Sl}{bs:List UInt8}(h:RdC T s 1 (bytesOf bs)){lo hi:Nat}(h1:lo≤hi)(h2:hi≤s.len):RdC T (z3q 1 s lo hi) 1 (bytesOf ((bs.drop lo).take (hi - lo))):=by
 have:=h.sub h1 h2
 rwa [Nat.mul_one,Nat.mul_one,zuo,zfl]at this
theorem z135{n size:Nat}(h1:1≤size)(h8:size≤8)(hn:n<2^64):F_22 N (n:Int) (size:Int)=ret (decide (n<256^size)):=by
 unfold F_22;by_cases h:size=8
 ·subst h;rw[if_neg (by simp)];show ret true=_;rw[zeb,decide_eq_true hn]
 ·rw[if_pos (by simp;omega),z0i (by omega) (by omega),if_neg (by omega)];have e:(8:Int) * (size:Int)=((8 * size:Nat):Int):=by simp
  rw[e,zhy (by show 8 * size≤64;omega)];show ret _=_;congr 1;rw[zeb];have:(((n / 2^(8 * size):Nat):Int)=0)↔n<2^(8 * size):=by
   rw[←Nat.div_eq_zero_iff_lt (Nat.two_pow_pos _)];omega
  simp only[this]
theorem over_one(cs:List MV)(off:Nat)(v:MV)(h:off<cs.length):z0w cs off [v]=cs.set off v:=by
 unfold z0w;rw[List.set_eq_take_append_cons_drop,if_pos h];simp
theorem z136(j n:Nat):le (j+1) n=le j n++[UInt8.ofNat (n / 256^j%256)]:=by
 rw[zxt 1 j];rfl
theorem z10h{b o k n:Nat}{ds:List MV}(hd:o+k≤ds.length)(h8:k≤8)(hn:n<2^64)(hN:10<N) :
  Tri (z00 [pts b (.cells ds false)]) (F_23 N ⟨some ⟨b,o⟩,k⟩ (n:Int)) fun _=>z00 [pts b (.cells (z0w ds o (bytesOf (le k n))) false)]:=by
 unfold F_23;have loop:∀(K j:Nat),k - j<K→j≤k→Tri (z00 [pts b (.cells (z0w ds o (bytesOf (le j n))) false)]) (z0l K (F_45 N ⟨some ⟨b,o⟩,k⟩ (n:Int)) (j:Int)) fun _=>z00 [pts b (.cells (z0w ds o (bytesOf (le k n))) false)]:=by
  intro K;induction K with
  | zero=>intro j h;omega
  | succ K ih=>
   intro j h hj;rw[z18];unfold F_45;have hl:(z0w ds o (bytesOf (le j n))).length=ds.length:=z10f (by rw[z0e,z29];omega);by_cases hjk:j<k
   ·refine z07 (by simpa using hjk) ?_;rw[z0i (by omega) (by omega)];refine z05 (by omega) ?_;refine z1x hjk (z1v 0 rfl (by rw[hl];omega) rfl ?_);have e:(8:Int) * (j:Int)=((8 * j:Nat):Int):=by simp
    rw[e,zhy (by show 8 * j≤64;omega),zqo rfl,z0i (by omega) (by omega)];show Tri (z00 [pts b (.cells ((z0w ds o (bytesOf (le j n))).set (o+j * 1) _) false)]) _ _;have e2:(z0w ds o (bytesOf (le j n))).set (o+j * 1) (.int .u8 ((n / 2^(8 * j)%2^IntKind.u8.bits:Nat):Int))=z0w ds o (bytesOf (le (j+1) n)):=by
     rw[z136,z8v,←z10k (by simp[z0e,z29];omega),z0e,z29,Nat.mul_one,←over_one _ _ _ (by rw[hl];omega)];congr 1;simp[bytesOf,zeb];rfl
    rw[e2];exact ih (j+1) (by omega) (by omega)
   ·obtain rfl:j=k:=by omega
    refine z05 (by simp) (z1l fun q hq=>hq)
 refine z02 [0] ((loop N 0 (by omega) (by omega)).pre fun q hq=>?_) fun _=>z01 (z03 [0] fun q hq=>hq);have:z0w ds o (bytesOf (le 0 n))=ds:=by simp[z0w,le,bytesOf]
 rw[this];exact hq
def z3t(size:Nat)(ns:List Nat):List UInt8:=(ns.map (le size)).flatten
theorem lays_len(size:Nat):∀(ns:List Nat),(z3t size ns).length=ns.length * size
 | []=>by simp[z3t]
 | n::r=>by
  have:=lays_len size r
  unfold z3t at this ⊢;simp only[List.map_cons,List.flatten_cons,List.length_append,z29,this,List.length_cons,Nat.add_mul];omega
theorem zqm(size:Nat)(a b:List Nat):z3t size (a++b)=z3t size a++z3t size b:=by simp[z3t]
theorem z6z(k:Nat)(h:k≤4096){f:Sl→M β}(kk:∀b,Tri (z00 (pts b (.cells (bytesOf (List.replicate k 0)) false)::l)) (f ⟨some ⟨b,0⟩,k⟩) S):Tri (z00 l) (bd (mkSl 1 1 [MV.int .u8 (0:Int)] (k:Int) (k:Int)) f) S:=by
 refine z8m (g:=fun b=>(⟨some ⟨b,0⟩,k⟩:Sl)) (x :=.cells (bytesOf (List.replicate k 0)) false) (fun h'=>?_) kk;unfold mkSl;rw[if_pos ⟨by omega,by omega,by have:most=70368744177664:=rfl;omega,rfl⟩,Int.toNat_natCast,zio]
theorem z96{size:Nat}{s:Sl}{ns:List Nat}(h1:1≤size)(h8:size≤8)(hr:RdC T s 1 (z1u ns))(hf:∀n∈ns,n<256^size)(hb:ns.length * size≤4096)(hN:5000<N) :
  Tri (z00 [T]) (F_04 N (size:Int) s) fun r=>pu (r.2=0) (z00 [z08 r.1 1 (bytesOf (z3t size ns)),T]):=by
 have hlen:s.len=ns.length:=by
  have:=hr.1
  rw[z4u]at this;omega
 have hle:ns.length≤ns.length * size:=Nat.le_mul_of_pos_right _ h1;unfold F_04;refine z05 (by simp;omega) (z05 (by omega) ?_);have hdiv:(4096:Int).tdiv (size:Int)=((4096 / size:Nat):Int):=rfl;have hd2:4096 / size≤4096:=Nat.div_le_self _ _;have hd3:ns.length≤4096 / size:=(Nat.le_div_iff_mul_le h1).2 hb;generalize 4096 / size=qd at hdiv hd2 hd3;rw[hdiv,z0i (by omega) (by omega),hlen];refine z05 (by simp;omega) ?_;have e0:(size:Int) * (ns.length:Int)=((ns.length * size:Nat):Int):=by rw[Int.mul_comm];simp
 rw[e0,z0i (by omega) (by omega)];refine z6z _ hb fun b=>?_;have loop:∀(K j:Nat),ns.length - j<K→j≤ns.length→Tri (z00 [pts b (.cells (bytesOf (z3t size (ns.take j)++List.replicate ((ns.length - j) * size) 0)) false),T])
   (z0l K (F_46 N (size:Int) s ⟨some ⟨b,0⟩,ns.length * size⟩) (j:Int)) fun r=>pu (r=.inl ()) (z00 [pts b (.cells (bytesOf (z3t size ns)) false),T]):=by
  intro K;induction K with
  | zero=>intro j h;omega
  | succ K ih=>
   intro j h hj;rw[z18];unfold F_46;by_cases hjk:j<ns.length
   ·refine z07 (by simp[hlen];omega) ?_;refine z3h 1 rfl hr (i:=j) (v:=(ns[j]:Nat)) (k :=.u64) (by simp[z1u,hjk]) ?_;have hnj:=hf _ (List.getElem_mem hjk);have h64:ns[j]<2^64:=Nat.lt_of_lt_of_le hnj (by
     rw[zeb];exact Nat.pow_le_pow_right (by omega) (by omega))
    rw[z135 h1 h8 h64];refine z0s (z05 (by simpa using hnj) ?_);have b1:j * size+size≤ns.length * size:=z2t hjk;have e1:(j:Int) * (size:Int)=((j * size:Nat):Int):=by simp
    have e2:((j:Int)+1) * (size:Int)=((j * size+size:Nat):Int):=by rw[Int.add_mul];simp
    rw[z0i (n:=(j:Int)+1) (by omega) (by omega),e1,e2,z0i (by omega) (by omega),z0i (by omega) (by omega)];refine tri_slc (by omega) (by omega) (by dsimp only;omega) ?_;have e3:z3q 1 ⟨some ⟨b,0⟩,ns.length * size⟩ (((j * size:Nat):Int)).toNat (((j * size+size:Nat):Int)).toNat=⟨some ⟨b,j * size⟩,size⟩:=by
     rw[Int.toNat_natCast,Int.toNat_natCast];simp[z3q,MA.add]
    rw[e3];have hlt:(z3t size (ns.take j)).length=j * size:=by rw[lays_len,List.length_take,Nat.min_eq_left hj]
    have hrem:(ns.length - j) * size=size+(ns.length - (j+1)) * size:=by
     rw[show ns.length - j=(ns.length - (j+1))+1 by omega,Nat.add_mul];omega
    refine z02 [0] (z10h (by
     rw[z0e,List.length_append,List.length_replicate,hlt,Nat.sub_mul];omega) h8 h64 (by omega)) fun _=>z01 ?_
    dsimp only[sel,rem,nth,del,cat,upd];rw[zfm,z29];have e4:List.take (j * size) (z3t size (ns.take j)++List.replicate ((ns.length - j) * size) 0)++le size ns[j]++List.drop (j * size+size) (z3t size (ns.take j)++List.replicate ((ns.length - j) * size) 0)=z3t size (ns.take (j+1))++List.replicate ((ns.length - (j+1)) * size) 0:=by
     rw[List.take_left' hlt,List.take_succ_eq_append_getElem hjk,zqm,hrem,←hlt,List.drop_length_add_append,List.drop_replicate];simp[z3t]
    rw[e4];exact ih (j+1) (by omega) (by omega)
   ·obtain rfl:j=ns.length:=by omega
    refine z05 (by simp[hlen]) (z1l fun q hq=>⟨rfl,?_⟩);rw[List.take_length,Nat.sub_self,Nat.zero_mul]at hq;simpa using hq
 refine z02 [0,0] ((loop N 0 (by omega) (by omega)).pre fun q hq=>?_) fun r=>z04 fun hr=>z01 ?_
 ·simp only[Nat.sub_zero,List.take_zero];exact hq
 ·subst hr;refine z03 [0,0] fun q hq=>⟨rfl,?_⟩;exact z54 (.cons (fun _ k =>.mk (by rw[z0e,lays_len];simp) k) (.cons (fun _ k=>k) .nil)) q hq
theorem zqn{s:Sl}{bs:List UInt8}(hr:RdC T s 1 (bytesOf bs))(h8:bs.length≤8)(hN:10<N):Tri (z00 [T]) (F_15 N s) fun r=>pu (r=(leN bs:Nat)) (z00 [T]):=by
 have hlen:s.len=bs.length:=by
  have:=hr.1
  rw[z0e]at this;omega
 unfold F_15;have loop:∀(K j:Nat),bs.length - j<K→j≤bs.length→Tri (z00 [T]) (z0l K (F_49 N s) (((leN (bs.take j):Nat):Int),(j:Int))) fun r=>pu (r=(leN bs:Nat)) (z00 [T]):=by
  intro K;induction K with
  | zero=>intro j h;omega
  | succ K ih=>
   intro j h hj;rw[z18];unfold F_49;by_cases hjk:j<bs.length
   ·refine z07 (by simp[hlen];omega) ?_;refine z3h 0 rfl hr (z9l hjk) ?_;rw[z0i (by dsimp only;omega) (by dsimp only;omega)];refine z05 (by dsimp only;omega) ?_;dsimp only;have hb:bs[j].toNat<256:=bs[j].toNat_lt;have hlt:=zxs (bs.take j);rw[List.length_take,Nat.min_eq_left hj,zeb]at hlt;have e:(8:Int) * (j:Int)=((8 * j:Nat):Int):=by simp
    have hbig:bs[j].toNat * 2^(8 * j)<2^64:=by
     have h2:bs[j].toNat * 2^(8 * j)<256 * 2^(8 * j):=Nat.mul_lt_mul_of_pos_right hb (Nat.two_pow_pos _);have h3:256 * 2^(8 * j)=2^(8 * (j+1)):=by rw[show 8 * (j+1)=8+8 * j by omega,Nat.pow_add]
     have h4:(2:Nat)^(8 * (j+1))≤2^64:=Nat.pow_le_pow_right (by omega) (by omega);omega
    have hlt2:leN (bs.take j)<2^64:=Nat.lt_of_lt_of_le hlt (Nat.pow_le_pow_right (by omega) (by omega));rw[e,zd8 (k :=.u64) rfl (by show _<2^64;omega),zm2 rfl (by show 8 * j≤64;omega) hbig,(zcd (k :=.u64) rfl hlt2 hbig).2.1,zxr hlt,z0i (by omega) (by omega)];have e2:leN (bs.take j)+bs[j].toNat * 2^(8 * j)=leN (bs.take (j+1)):=by
     rw[List.take_succ_eq_append_getElem hjk,z10j,List.length_take,Nat.min_eq_left hj,zeb]
    rw[e2];exact ih (j+1) (by omega) (by omega)
   ·obtain rfl:j=bs.length:=by omega
    refine z05 (by simp[hlen]) (z1l fun q hq=>⟨?_,hq⟩);rw[List.take_length]
 exact z02 [0] ((loop N 0 (by omega) (by omega)).pre fun q hq=>hq) fun r=>z04 fun hr=>z01 (z03 [0] fun q hq=>⟨hr,hq⟩)
theorem zxn{m a z:Nat}(h1:1≤z)(h2:z≤8)(h3:a+z≤m)(hm:m<1000000):F_26 N (m:Int) (a:Int) (z:Int)=ret true:=by
 unfold F_26;rw[z0i (by omega) (by omega)];congr 1;simp;omega
theorem zfk{s:Sl}{bs:List UInt8}{a z:Nat}(hr:RdC T s 1 (bytesOf bs))(h1:1≤z)(h8:z≤8)(ha:a+z≤bs.length)(hm:bs.length<1000000)(hN:10<N) :
  Tri (z00 [T]) (F_0f N s (a:Int) (z:Int)) fun r=>pu (r=(((leN ((bs.drop a).take z):Nat):Int),0)) (z00 [T]):=by
 have hlen:s.len=bs.length:=by
  have:=hr.1
  rw[z0e]at this;omega
 unfold F_0f;rw[hlen,zxn h1 h8 ha hm];refine z0s (z05 (by simp) ?_);rw[z0i (by omega) (by omega)];refine tri_slc (by omega) (by omega) (by omega) ?_;have hs:=zea hr (lo:=a) (hi:=a+z) (by omega) (by omega);rw[show a+z - a=z by omega]at hs;have e:((a:Int)+(z:Int)).toNat=a+z:=by omega
 rw[e,Int.toNat_natCast];exact z02 [0] (zqn hs (by rw[List.length_take];omega) hN) fun r=>z04 fun hr=>z01 (z03 [0] fun q hq=>⟨by rw[hr],hq⟩)
def z4c(size:Nat):Nat→List UInt8→List Nat
 | 0,_=>[]
 | k+1,bs=>leN (bs.take size)::z4c size k (bs.drop size)
theorem zc7(size:Nat):∀(k:Nat)(bs:List UInt8),(z4c size k bs).length=k
 | 0,_=>rfl
 | k+1,bs=>congrArg (· + 1) (zc7 size k _)
theorem zl4{size:Nat}:∀{k i:Nat}{bs:List UInt8},i<k→(z4c size k bs)[i]? = some (leN ((bs.drop (i * size)).take size))
 | 0,i,bs,h=>by omega
 | k+1,0,bs,h=>by simp[z4c]
 | k+1,i+1,bs,h=>by
  simp only[z4c,List.getElem?_cons_succ];rw[zl4 (by omega),List.drop_drop,Nat.add_mul,Nat.one_mul,Nat.add_comm]
theorem zdg{size:Nat}:∀(ns:List Nat),(∀n∈ns,n<256^size)→z4c size ns.length (z3t size ns)=ns
 | [],_=>rfl
 | n::r,h=>by
  have ih:=zdg r fun x hx=>h x (by simp[hx]);unfold z3t at ih ⊢;simp only[List.length_cons,List.map_cons,List.flatten_cons,z4c];rw[List.take_left' (z29 _ _),List.drop_left' (z29 _ _),ih,zcu,Nat.mod_eq_of_lt (h n (by simp))]
theorem zh9{s:Sl}{bs:List UInt8}{size k:Nat}(hr:RdC T s 1 (bytesOf bs))(h1:1≤size)(h8:size≤8)(hk:bs.length=k * size)(hm:bs.length≤4096)(hN:5000<N) :
  Tri (z00 [T]) (F_0h N (size:Int) s) fun r=>pu (r.2=0) (z00 [z08 r.1 1 (z1u (z4c size k bs)),T]):=by
 have hlen:s.len=bs.length:=by
  have:=hr.1
  rw[z0e]at this;omega
 unfold F_0h;rw[if_pos (by simp;omega),if_neg (by omega)];refine z0s ?_;have hmod:((s.len:Int).tmod (size:Int))=((s.len%size:Nat):Int):=rfl;rw[hmod,hlen,hk,Nat.mul_mod_left];refine z05 (by simp) (z05 (by simp;omega) ?_);have loop:∀(K j:Nat)(w:Sl),k - j<K→j≤k→Tri (z00 [z08 w 1 (z1u ((z4c size k bs).take j)),T]) (z0l K (F_4a N (size:Int)) (w,z3q 1 s (j * size) s.len)) fun r=>z00 [z08 r 1 (z1u (z4c size k bs)),T]:=by
  intro K;induction K with
  | zero=>intro j w h;omega
  | succ K ih=>
   intro j w h hj;rw[z18];unfold F_4a;dsimp only;have hsl:(z3q 1 s (j * size) s.len).len=bs.length - j * size:=by rw[hlen];rfl
   have m1:j * size≤k * size:=Nat.mul_le_mul_right _ hj;by_cases hjk:j<k
   ·have b1:j * size+size≤k * size:=z2t hjk;refine z07 (by rw[hsl];simp;omega) ?_;refine tri_slc (by omega) (by omega) (by rw[hsl];omega) ?_;have hs:=zea hr (lo:=j * size) (hi:=s.len) (by omega) (by omega);have hs2:=zea hs (lo:=0) (hi:=size) (by omega) (by rw[hsl];omega);rw[List.drop_zero,List.take_take,Nat.sub_zero,Nat.min_eq_left (by omega)]at hs2;rw[show((0:Int)).toNat=0 from rfl,Int.toNat_natCast];refine z02 [1] (zqn hs2 (by rw[List.length_take];omega) (by omega)) fun r=>z04 fun hr'=>z01 ?_;dsimp only[sel,rem,nth,del,cat,upd];subst hr';refine z0z fun b=>?_;refine z0c 2 rfl fun hw=>?_;rw[z4u,List.length_take,zc7,Nat.mul_one]at hw;refine z02 [2,0] (z2y (T:=pts b (.cells [MV.int .u64 _] false)) (ts:=[MV.int .u64 _]) (rd_pts0 (by simp)) (by omega) rfl (by
     have:most=70368744177664:=rfl
     have:=Nat.le_mul_of_pos_right k h1
     dsimp only;omega)) fun w'=>z01 ?_
    dsimp only[sel,rem,nth,del,cat,upd];refine tri_slc (by omega) (by rw[hsl];omega) (by omega) ?_;have e1:z3q 1 (z3q 1 s (j * size) s.len) ((size:Int)).toNat (((z3q 1 s (j * size) s.len).len:Nat):Int).toNat=z3q 1 s ((j+1) * size) s.len:=by
     rw[Int.toNat_natCast,Int.toNat_natCast,hsl];unfold z3q;congr 1
     ·cases s.p with
      | none=>rfl
      | some a=>simp[MA.add,Nat.add_mul];omega
     ·rw[hlen,Nat.add_mul];omega
    rw[e1];have e2:z1u ((z4c size k bs).take j)++[MV.int .u64 (leN (List.take size (List.drop (j * size) bs)):Nat)]=z1u ((z4c size k bs).take (j+1)):=by
     have hcl:=zc7 size k bs;have hg:=zl4 (size:=size) (bs:=bs) hjk;have hg2:(z4c size k bs)[j]'(by omega)=leN ((bs.drop (j * size)).take size):=by
      rw[List.getElem?_eq_getElem (by omega)]at hg;exact Option.some.inj hg
     rw[List.take_succ_eq_append_getElem (by omega),hg2];simp[z1u]
    rw[e2];refine tri_last [0,1] (ih (j+1) w' (by omega) (by omega))
   ·obtain rfl:j=k:=by omega
    refine z05 (by rw[hsl];simp;omega) (z1l fun q hq=>?_);rw[List.take_of_length_le (by rw[zc7];exact Nat.le_refl _)]at hq;exact hq
 have e0:s=z3q 1 s (0 * size) s.len:=by
  unfold z3q;cases s with
  | mk p n=>cases p<;>simp[MA.add]
 refine Tri.bd (Q:=fun r=>z00 [z08 r 1 (z1u (z4c size k bs)),T]) ?_ fun r=>z03 [0,0] fun q hq=>⟨rfl,hq⟩;have:=loop N 0 ⟨none,0⟩ (by have:=Nat.le_mul_of_pos_right k h1;omega) (by omega)
 rw[←e0]at this;refine this.pre fun q hq=>?_;exact z2z (fun q h =>.nil 1 h) hq
def z1y(bs:List UInt8)(n:Nat):List UInt8:=bs++List.replicate (n - bs.length) 0
theorem filled_len{bs:List UInt8}{n:Nat}(h:bs.length≤n):(z1y bs n).length=n:=by
 unfold z1y;simp;omega
theorem zha{bs:List UInt8}{n:Nat}(h:bs.length≤n):z0w (bytesOf (List.replicate n 0)) 0 (bytesOf bs)=bytesOf (z1y bs n):=by
 rw[zfm];unfold z1y;simp
theorem zd7{s:Sl}{bs:List UInt8}{n:Nat}(hr:RdC T s 1 (bytesOf bs))(hb:bs.length≤n)(hn:n≤4096):Tri (z00 [T]) (F_0c N s (n:Int)) fun r=>pu (r.2=0) (z00 [z08 r.1 1 (bytesOf (z1y bs n)),T]):=by
 have hlen:s.len=bs.length:=by
  have:=hr.1
  rw[z0e]at this;omega
 unfold F_0c;refine z05 (by simp) (z05 (by simp[hlen];omega) ?_);refine z6z n hn fun b=>?_;refine z02 [0,0] (ze6 (o:=0) (k:=n) hr (by rw[z0e];simp) (z4z _) (by omega)) fun r=>z04 fun hr'=>z01 ?_;refine z03 [0,0] fun q hq=>⟨rfl,?_⟩;rw[hlen,Nat.min_eq_left hb,Nat.mul_one,List.take_of_length_le (by rw[z0e];exact Nat.le_refl _),zha hb]at hq;exact z54 (.cons (fun _ k =>.mk (by rw[z0e,filled_len hb];simp) k) (.cons (fun _ k=>k) .nil)) q hq
def zct(bs:List UInt8):Int×Int:=bs.foldl (fun v c=>(wr .u32 (v.1+wr .u32 c.toNat),wr .u32 (v.2+wr .u32 (v.1+wr .u32 c.toNat)))) (1,0)
def za5(bs:List UInt8):Int:=z37 .or .u32 (z6q .u32 ((zct bs).2.tmod 65521) 16) ((zct bs).1.tmod 65521)
theorem zm1(bs:List UInt8):0≤za5 bs∧za5 bs<4294967296:=by
 unfold za5 z37;exact zxq (k :=.u32) _ rfl
theorem zxo{s:Sl}{bs:List UInt8}(hr:RdC T s 1 (bytesOf bs))(hb:bs.length≤3000)(hN:5000<N):Tri (z00 [T]) (F_24 N 1 s) fun r=>pu (r=za5 bs) (z00 [T]):=by
 have hlen:s.len=bs.length:=by
  have:=hr.1
  rw[z0e]at this;omega
 unfold F_24;have e0:(if(3000:Int)<(s.len:Int)then(3000:Int)else(s.len:Int))=(s.len:Int):=by rw[if_neg (by omega)]
 rw[e0];refine tri_slc (by omega) (by omega) (by omega) ?_;have e1:z3q 1 s (0:Int).toNat ((s.len:Int)).toNat=s:=by
  unfold z3q;cases s with
  | mk p n=>cases p<;>simp[MA.add]
 rw[e1];have loop:∀(K j:Nat)(v:Int×Int),bs.length - j<K→j≤bs.length→Tri (z00 [T]) (z0l K (F_47 N s) (v.1,v.2,(j:Int)))
   fun r=>pu (r=(bs.drop j).foldl (fun v c=>(wr .u32 (v.1+wr .u32 c.toNat),wr .u32 (v.2+wr .u32 (v.1+wr .u32 c.toNat)))) v) (z00 [T]):=by
  intro K;induction K with
  | zero=>intro j v h;omega
  | succ K ih=>
   intro j v h hj;rw[z18];unfold F_47;by_cases hjk:j<bs.length
   ·refine z07 (by simp[hlen];omega) ?_;refine z3h 0 rfl hr (z9l hjk) ?_;dsimp only;rw[z0i (n:=(j:Int)+1) (by omega) (by omega),List.drop_eq_getElem_cons hjk,List.foldl_cons];exact ih (j+1) (_,_) (by omega) (by omega)
   ·obtain rfl:j=bs.length:=by omega
    refine z05 (by simp[hlen]) (z1l fun q hq=>⟨?_,hq⟩);rw[List.drop_length];rfl
 have e2:(z37 .and .u32 (1:Int) (65535:Int)).tmod (65521:Int)=1:=by decide
 have e3:(zci .u32 (1:Int) (16:Int)).tmod (65521:Int)=0:=by decide
 rw[e2,e3];refine z02 [0] (loop N 0 (1,0) (by omega) (by omega)) fun r=>z04 fun hr'=>z01 ?_;dsimp only[sel,rem,nth,del,cat,upd];rw[List.drop_zero]at hr';refine tri_slc (by omega) (by omega) (by omega) ?_;have e4:(z3q 1 s ((s.len:Int)).toNat ((s.len:Int)).toNat).len=0:=by simp[z3q]
 rw[e4];refine z05 (by simp) (z03 [0] fun q hq=>⟨?_,hq⟩);rw[hr'];rfl
theorem zt6{s:Sl}{bs:List UInt8}(hr:RdC T s 1 (bytesOf bs))(hb:bs.length≤3000)(hN:5000<N):Tri (z00 [T]) (F_0y N s) fun r=>pu (r=za5 bs) (z00 [T]):=by
 unfold F_0y;exact z02 [0] (zxo hr hb hN) fun r=>z04 fun hr=>z01 (z03 [0] fun q hq=>⟨hr,hq⟩)
def z5e(bs:List UInt8):List UInt8:=bs++le 4 (za5 bs).toNat
theorem z8o(bs:List UInt8):(z5e bs).length=bs.length+4:=by simp[z5e,z29]
theorem zn4{s:Sl}{bs:List UInt8}(hr:RdC T s 1 (bytesOf bs))(hb:bs.length≤1000)(hN:5000<N):Tri (z00 [T]) (F_0z N s) fun r=>z00 [z08 r 1 (bytesOf (z5e bs)),T]:=by
 have hlen:s.len=bs.length:=by
  have:=hr.1
  rw[z0e]at this;omega
 obtain⟨g1,g2⟩:=zm1 bs;unfold F_0z;have e0:(s.len:Int)+4=((bs.length+4:Nat):Int):=by rw[hlen];simp
 rw[e0,z0i (by omega) (by omega)];refine z6z _ (by omega) fun b=>?_;refine z02 [0,0] (ze6 (o:=0) (k:=bs.length+4) hr (by rw[z0e];simp) (z4z _) (by omega)) fun r=>z04 fun hr'=>z01 ?_;dsimp only[sel,rem,nth,del,cat,upd];rw[hlen,Nat.min_eq_left (by omega),Nat.mul_one,List.take_of_length_le (by rw[z0e];exact Nat.le_refl _),zha (by omega)];refine z02 [1] (zt6 hr (by omega) hN) fun r4=>z04 fun hr4=>z01 ?_;dsimp only[sel,rem,nth,del,cat,upd];subst hr4;obtain⟨m,hm⟩:∃m:Nat,za5 bs=m:=⟨(za5 bs).toNat,by omega⟩;rw[hm,zd8 (k :=.u64) rfl (by show m<2^64;omega)];refine z0z fun b2=>?_;refine z02 [0] (z96 (size:=4) (ns:=[m]) (T:=pts b2 (.cells [MV.int .u64 m] false)) (by omega) (by omega) (rd_pts0 (by simp[z1u])) (by
  intro n hn;simp at hn;omega) (by simp) hN) fun r6=>z04 fun hr6=>z01 ?_
 dsimp only[sel,rem,nth,del,cat,upd];refine z0c 0 rfl fun h6=>?_;rw[z0e,lays_len]at h6;simp only[List.length_cons,List.length_nil]at h6;refine tri_slc (by omega) (by omega) (by dsimp only;omega) ?_;have e5:z3q 1 ⟨some ⟨b,0⟩,bs.length+4⟩ ((bs.length:Int)).toNat (((bs.length+4:Nat):Int)).toNat=⟨some ⟨b,bs.length⟩,4⟩:=by
  simp[z3q,MA.add];omega
 rw[e5];refine z02 [3,0] (ze6 (o:=bs.length) (k:=4) (T:=z08 r6.1 1 (bytesOf (z3t 4 [m]))) (z0k (by rw[z0e,lays_len];simp;omega)) (by rw[z0e,filled_len (by omega)];omega) (z4z _) (by omega)) fun r=>z04 fun hr'=>z01 ?_;dsimp only[sel,rem,nth,del,cat,upd];refine z03 [0,2] fun q hq=>?_;have e6:min r6.1.len 4 * 1=4:=by omega
 have e7:(bytesOf (z3t 4 [m])).take 4=bytesOf (le 4 m):=by
  rw[zfl];simp[z3t,List.take_of_length_le,z29]
 rw[e6,e7,zfm]at hq;have e8:(z1y bs (bs.length+4)).take bs.length++le 4 m++(z1y bs (bs.length+4)).drop (bs.length+(le 4 m).length)=z5e bs:=by
  unfold z1y z5e;rw[List.take_left,List.drop_length_add_append,hm,z29];simp
 rw[e8]at hq;exact z54 (.cons (fun _ k =>.mk (by rw[z0e,z8o];simp) k) (.cons (fun _ k=>k) .nil)) q hq
theorem zxp{s:Sl}{bs:List UInt8}(hr:RdC T s 1 (bytesOf (z5e bs)))(hb:bs.length≤1000)(hN:5000<N):Tri (z00 [T]) (F_28 N s) fun r=>pu (r.2=0) (z00 [z08 r.1 1 (bytesOf bs),T]):=by
 have hlen:s.len=bs.length+4:=by
  have:=hr.1
  rw[z0e,z8o]at this;omega
 obtain⟨g1,g2⟩:=zm1 bs;obtain⟨m,hm⟩:∃m:Nat,za5 bs=m:=⟨(za5 bs).toNat,by omega⟩;unfold F_28;have e0:(s.len:Int) - 4=((bs.length:Nat):Int):=by rw[hlen];omega
 rw[e0,z0i (by omega) (by omega)];refine z05 (by simp) ?_;refine z02 [0] (zfk (a:=bs.length) (z:=4) hr (by omega) (by omega) (by rw[z8o];exact Nat.le_refl _) (by rw[z8o];omega) (by omega)) fun r=>z04 fun hr2=>z01 ?_;dsimp only[sel,rem,nth,del,cat,upd];have e1:leN (((z5e bs).drop bs.length).take 4)=m:=by
  unfold z5e;rw[List.drop_left,hm,Int.toNat_natCast,List.take_of_length_le (by rw[z29];omega),zcu,Nat.mod_eq_of_lt];omega
 rw[e1]at hr2;subst hr2;refine z02 [0] (Q:=fun c=>pu (c=false) (z00 [T])) ?_ fun c=>z04 fun hc=>z01 ?_
 ·refine z07 (by simp) ?_;refine tri_slc (by omega) (by omega) (by omega) ?_;have hs:=zea hr (lo:=0) (hi:=bs.length) (by omega) (by omega);rw[List.drop_zero,Nat.sub_zero]at hs;have e2:(z5e bs).take bs.length=bs:=by
   unfold z5e;rw[List.take_left]
  rw[e2]at hs;refine z02 [0] (zt6 hs (by omega) hN) fun r4=>z04 fun hr4=>z01 (z03 [0] fun q hq=>⟨?_,hq⟩);rw[hr4,wr32 (by dsimp only;omega) (by dsimp only;omega),hm];simp
 ·subst hc;dsimp only[sel,rem,nth,del,cat,upd];refine z05 (by simp) ?_;refine z6z _ (by omega) fun b=>?_;refine z02 [0,0] (ze6 (o:=0) (k:=bs.length) hr (by rw[z0e];simp) (z4z _) (by omega)) fun r=>z04 fun hr'=>z01 ?_;refine z03 [0,0] fun q hq=>⟨rfl,?_⟩;have e3:min s.len bs.length * 1=bs.length:=by omega
  have e4:(bytesOf (z5e bs)).take bs.length=bytesOf bs:=by
   rw[zfl];unfold z5e;rw[List.take_left]
  rw[e3,e4,zha (Nat.le_refl _)]at hq;have e5:z1y bs bs.length=bs:=by simp[z1y]
  rw[e5]at hq;exact z54 (.cons (fun _ k =>.mk (by rw[z0e];simp) k) (.cons (fun _ k=>k) .nil)) q hq
end
end Go.Moat

/- Layer 9: how a disk is parted. -/
namespace Go.Mini
section
variable{β:Type}{l:List HA}{S:β→HA}
theorem z4g{A:HA}{f:Nat→M β}(k:∀b,Tri A (f b) S):Tri A (bd (z47 0) f) S:=by
 intro h q hq hh;exact k h.size h q hq hh
theorem zxu(n:Nat){b o k:Nat}{cs:List MV}(hl:l[n]? = some (pts b (.cells cs false)))(hk:0<k){f:Sl→M β}(kk:Tri (z00 l) (f ⟨some ⟨b,o⟩,k⟩) S):Tri (z00 l) (bd (markB ⟨some ⟨b,o⟩,k⟩) f) S:=by
 refine z9j n hl (y :=.cells cs false) (a:=⟨some ⟨b,o⟩,k⟩) (fun h hg=>?_) ?_
 ·unfold markB;simp only[hg];rw[if_pos ⟨hk,rfl⟩]
 ·rw[zfc l n hl];exact kk
end
end Go.Mini
namespace Go.Moat
open Go.Mini
structure Geo where
 J:Nat
 I:Nat
 G:Nat
 P:Nat
 deriving DecidableEq
def Geo.t(g:Geo):Int×Int×Int×Int:=(g.J,g.I,g.G,g.P)
structure Geo.ok(g:Geo):Prop where
 j1:3≤g.J
 j2:g.J≤1000
 i1:2≤g.I
 i2:g.I≤64
 i3:g.I%2=0
 g1:1≤g.G
 g2:g.G≤64
 p1:1≤g.P
 p2:g.P≤512 / g.G
theorem Geo.ok.gp{g:Geo}(h:g.ok):g.G * g.P≤512:=by
 have:=Nat.mul_le_mul_left g.G h.p2
 have h2:=Nat.mul_div_le 512 g.G;omega
theorem Geo.ok.pp{g:Geo}(h:g.ok):g.P≤512:=Nat.le_trans h.p2 (Nat.div_le_self _ _)
def Geo.B(g:Geo):Nat:=g.G * g.P
def Geo.M(g:Geo):Nat:=3+g.I / 2
def Geo.lab(g:Geo):Nat:=1+g.J
def Geo.blk(g:Geo):Nat:=4+g.J+g.I / 2
def Geo.all(g:Geo):Nat:=g.blk+g.B
def Geo.lay(g:Geo):Int×Int×Int×Int×Int×Int×Int:=((1:Nat),(g.lab:Nat),((2+g.J:Nat)),((3+g.J:Nat)),((4+g.J:Nat)),(g.blk:Nat),(g.all:Nat))
def z11j(n:Nat):Nat:=n+(n - 1) / 15+1
abbrev Geo.roomy(g:Geo):Prop:=z11j (g.M+80)≤g.J - 1
theorem Geo.ok.all_le{g:Geo}(h:g.ok):g.all≤4096:=by
 have:=h.gp
 have:=h.j2
 have:=h.i2
 unfold Geo.all Geo.blk Geo.B;omega
section
variable{N:Nat}{β:Type}{l:List HA}{S:β→HA}{T:HA}{g:Geo}
theorem zxv(n a b:Int):F_0l N n a b=ret (decide (a≤n)&&decide (n≤b)):=rfl
theorem zcv(h:g.ok):F_09 N g.t=ret true:=by
 obtain⟨h1,h2,h3,h4,h5,h6,h7,h8,h9⟩:=h;have h10:g.P≤512 / g.G:=h9;unfold F_09 Geo.t;simp only[zxv];have e1:(decide ((3:Int)≤(g.J:Int))&&decide ((g.J:Int)≤1000))=true:=by simp;omega
 have e2:(decide ((2:Int)≤(g.I:Int))&&decide ((g.I:Int)≤64))=true:=by simp;omega
 have e3:(decide ((1:Int)≤(g.G:Int))&&decide ((g.G:Int)≤64))=true:=by simp;omega
 have e4:((g.I:Int).tmod 2)=((g.I%2:Nat):Int):=rfl;have e5:(512:Int).tdiv (g.G:Int)=((512 / g.G:Nat):Int):=rfl;have h11:=Nat.div_le_self 512 g.G;have e6:(decide ((1:Int)≤(g.P:Int))&&decide ((g.P:Int)≤wr .i64 ((512:Int).tdiv (g.G:Int))))=true:=by
  rw[e5,z0i (by omega) (by omega)];generalize 512 / g.G=q at *;simp;omega
 have e7:(g.G:Int)≠0:=by omega
 simp only[e1,e2,e3,e4,e6,h5,if_neg e7];rfl
theorem zec(h:g.ok):F_03 N g.t=ret (g.M:Int):=by
 unfold F_03;have e:=zcv (N:=N) h;unfold Geo.t at e ⊢;rw[e];have e4:((g.I:Int).tdiv 2)=((g.I / 2:Nat):Int):=rfl;have:=h.i2
 funext hh;simp only[bd,ret];rw[e4,z0i (n:=((g.I / 2:Nat):Int)) (by omega) (by omega),z0i (by omega) (by omega)];simp[ret,Geo.M]
theorem z137{n:Nat}(h1:1≤n)(h2:n<1000000):F_0n N (n:Int)=ret (z11j n:Int):=by
 unfold F_0n;rw[if_neg (by simp;omega)];have e:wr .i64 ((n:Int) - 1)=((n - 1:Nat):Int):=by rw[z0i (by omega) (by omega)];omega
 have e2:((n - 1:Nat):Int).tdiv 15=(((n - 1) / 15:Nat):Int):=rfl;rw[e,e2,z0i (n:=(((n - 1) / 15:Nat):Int)) (by omega) (by omega),z0i (n:=(n:Int)+_) (by omega) (by omega),z0i (by omega) (by omega)];congr 1
theorem zl5(h:g.ok):Tri (z00 l) (F_01 N g.t) fun r=>pu (r=decide g.roomy) (z00 l):=by
 unfold F_01;refine z4g fun _=>?_;have e:=zec (N:=N) h;have:=h.i2
 have:=h.j1
 have:=h.j2
 have hM:g.M=3+g.I / 2:=rfl;unfold Geo.t at e ⊢;rw[e];refine z0s ?_;have e2:wr .i64 ((g.M:Int)+80)=((g.M+80:Nat):Int):=by rw[z0i (by omega) (by omega)];simp
 rw[e2,z137 (by omega) (by omega)];refine z0s (z1l fun q hq=>⟨?_,hq⟩);rw[z0i (by dsimp only;omega) (by dsimp only;omega)];unfold Geo.roomy;congr 1;apply propext;dsimp only;omega
theorem z7g{b:Nat}{v n:Int}(h0:0≤v)(h1:v≤1000000)(h2:0≤n)(h3:n≤1000000):Tri (z00 [pts b (.cells [.int .i64 v] false)]) (F_02 N n (some ⟨b,0⟩)) fun r=>pu (r=v+n) (z00 [pts b (.cells [.int .i64 (v+n)] false)]):=by
 unfold F_02;refine z2d 0 rfl rfl ?_;rw[z0i (by omega) (by omega)];refine z1v 0 rfl (by simp) rfl ?_;exact z2d 0 rfl rfl (z03 [0] fun q hq=>⟨rfl,hq⟩)
theorem zhc(h:g.ok):Tri (z00 []) (F_0m N g.t) fun r=>pu (r=(g.lay,0)) (z00 []):=by
 have hgp:=h.gp;have:=h.i2
 have:=h.j2
 unfold F_0m;have e:=zcv (N:=N) h;unfold Geo.t at e ⊢;rw[e];refine z0s (z05 (by simp) ?_);refine z0z fun b=>?_;refine z1v 0 rfl (by simp) rfl ?_;refine z4g fun _=>?_;dsimp only[sel,rem,nth,del,cat,upd];have e4:((g.I:Int).tdiv 2)=((g.I / 2:Nat):Int):=rfl;have e5:(g.G:Int) * (g.P:Int)=((g.G * g.P:Nat):Int):=by simp
 rw[e4,e5,z0i (by omega) (by omega),z0i (by omega) (by omega)];refine z02 [0] (z7g (by omega) (by omega) (by omega) (by omega)) fun r1=>z04 fun h1=>z01 ?_;refine z02 [0] (z7g (by omega) (by omega) (by omega) (by omega)) fun r2=>z04 fun h2=>z01 ?_;refine z02 [0] (z7g (by omega) (by omega) (by omega) (by omega)) fun r3=>z04 fun h3=>z01 ?_;refine z02 [0] (z7g (by omega) (by omega) (by omega) (by omega)) fun r4=>z04 fun h4=>z01 ?_;refine z02 [0] (z7g (by omega) (by omega) (by omega) (by omega)) fun r5=>z04 fun h5=>z01 ?_;refine z02 [0] (z7g (by omega) (by omega) (by omega) (by omega)) fun r6=>z04 fun h6=>z01 ?_;refine z02 [0] (z7g (by omega) (by omega) (by omega) (by omega)) fun r7=>z04 fun h7=>z01 ?_;refine z03 [] fun q hq=>⟨?_,hq⟩;subst h1 h2 h3 h4 h5 h6 h7;unfold Geo.lay Geo.all Geo.blk Geo.lab Geo.B;simp only[Prod.mk.injEq];refine⟨⟨?_,?_,?_,?_,?_,?_,?_⟩,trivial⟩<;>simp<;>omega
def z4p(g:Geo):List UInt8:=z5e (z1y ([109,111,97,116]++z3t 2 [g.J,g.I,g.G,g.P]) 60)
theorem za6(g:Geo):(z4p g).length=64:=by
 unfold z4p;rw[z8o,filled_len (by simp[lays_len])]
theorem zn5(h:g.ok)(hN:5000<N):Tri (z00 []) (F_10 N g.t) fun r=>pu (r.2=0) (z00 [z08 r.1 1 (bytesOf (z4p g))]):=by
 have hgp:=h.pp;have:=h.i2
 have:=h.j2
 have:=h.g2
 unfold F_10;have e:=zcv (N:=N) h;unfold Geo.t at e ⊢;rw[e];refine z0s (z05 (by simp) ?_);dsimp only;rw[z6a (by omega) (by omega),z6a (by omega) (by omega),z6a (by omega) (by omega),z6a (by omega) (by omega)];refine z0z fun b=>?_;refine z02 [0] (z96 (size:=2) (ns:=[g.J,g.I,g.G,g.P]) (T:=pts b (.cells [.int .u64 g.J,.int .u64 g.I,.int .u64 g.G,.int .u64 g.P] false)) (by omega) (by omega) (rd_pts0 (by simp)) (by
  intro n hn;simp at hn;omega) (by simp) hN) fun r4=>z04 fun hr4=>z01 ?_
 dsimp only[sel,rem,nth,del,cat,upd];refine z0c 0 rfl fun h4=>?_;rw[z0e,lays_len]at h4;simp only[List.length_cons,List.length_nil]at h4;refine z0z fun b5=>?_;refine zxu 0 rfl (by omega) ?_;refine z86 0 (B:=z08 ⟨some ⟨b5,0⟩,4⟩ 1 (bytesOf [109,111,97,116])) rfl (fun q hq =>.mk (by simp[bytesOf]) hq) ?_;dsimp only[sel,rem,nth,del,cat,upd];refine z02 [0,0] (z2y (z0k (by rw[z0e,lays_len];simp only[List.length_cons,List.length_nil];omega)) (by omega) (z4z _) (by
  have:most=70368744177664:=rfl
  dsimp only;omega)) fun r7=>z01 ?_
 dsimp only[sel,rem,nth,del,cat,upd];rw[←z8v];refine z0c 0 rfl fun h7=>?_;rw[z0e,List.length_append,lays_len]at h7;simp only[List.length_cons,List.length_nil]at h7;refine z02 [0] (zd7 (n:=60) (z0k (by rw[z0e,List.length_append,lays_len];simp only[List.length_cons,List.length_nil];omega)) (by rw[List.length_append,lays_len];simp) (by omega)) fun r8=>z04 fun hr8=>z01 ?_;dsimp only[sel,rem,nth,del,cat,upd];refine z0c 0 rfl fun h8=>?_;refine z02 [0] (zn4 (z0k h8) (by rw[filled_len (by simp[lays_len])];omega) hN) fun r9=>z01 ?_;exact z03 [0] fun q hq=>⟨rfl,hq⟩
theorem zxw(g:Geo)(h:g.ok)(k:Nat)(hk:k<4):leN (((z4p g).drop (4+2 * k)).take 2)=[g.J,g.I,g.G,g.P][k]'(by simpa using hk):=by
 have hgp:=h.pp;have:=h.i2
 have:=h.j2
 have:=h.g2
 have e:∀(a b c d:Nat)(x:List UInt8),z4p g=[109,111,97,116]++(le 2 g.J++(le 2 g.I++(le 2 g.G++(le 2 g.P++(List.replicate 48 0++le 4 (za5 (z1y ([109,111,97,116]++z3t 2 [g.J,g.I,g.G,g.P]) 60)).toNat))))):=by
  intros
  unfold z4p z5e z1y z3t;simp[z29]
 rw[e 0 0 0 0 []];have f:∀(n:Nat),n≤65535→leN (le 2 n)=n:=fun n hn=>by rw[zcu,Nat.mod_eq_of_lt (by omega)]
 have l2:∀n,(le 2 n).length=2:=fun n=>z29 2 n;match k,hk with
 | 0,_=>
  rw[show 4+2 * 0=([109,111,97,116]:List UInt8).length from rfl,List.drop_left,List.take_left' (l2 _)];exact f _ (by omega)
 | 1,_=>
  rw[show 4+2 * 1=([109,111,97,116]:List UInt8).length+(le 2 g.J).length by rw[l2];rfl,List.drop_length_add_append,List.drop_left,List.take_left' (l2 _)];exact f _ (by omega)
 | 2,_=>
  rw[show 4+2 * 2=([109,111,97,116]:List UInt8).length+((le 2 g.J).length+(le 2 g.I).length) by rw[l2,l2];rfl,List.drop_length_add_append,List.drop_length_add_append,List.drop_left,List.take_left' (l2 _)];exact f _ (by omega)
 | 3,_=>
  rw[show 4+2 * 3=([109,111,97,116]:List UInt8).length+((le 2 g.J).length+((le 2 g.I).length+(le 2 g.G).length)) by rw[l2,l2,l2];rfl,List.drop_length_add_append,List.drop_length_add_append,List.drop_length_add_append,List.drop_left,List.take_left' (l2 _)];exact f _ (by omega)
theorem zup(h:g.ok){s:Sl}(hr:RdC T s 1 (bytesOf (z4p g)))(hN:5000<N):Tri (z00 [T]) (F_27 N s) fun r=>pu (r=(g.t,0)) (z00 [T]):=by
 have hlen:s.len=64:=by
  have:=hr.1
  rw[z0e,za6]at this;omega
 have hgp:=h.pp;have:=h.i2
 have:=h.j2
 have:=h.g2
 unfold F_27;refine z05 (by simp[hlen]) ?_;refine z0z fun b=>?_;refine z06 (z06 (z06 (z06 ?_)));refine z0z fun b2=>?_;have step:∀(K j:Nat)(a0 a1 a2 a3:Int){Q:Unit→HA},j<4→(∀x:Int,x=([g.J,g.I,g.G,g.P][j]?.getD 0:Nat)→Tri (z00 [pts b2 (.cells [.ptr (some ⟨b,0+0⟩),.ptr (some ⟨b,0+1⟩),.ptr (some ⟨b,0+2⟩),.ptr (some ⟨b,0+3⟩)] false),pts b (.cells ([.int .i64 a0,.int .i64 a1,.int .i64 a2,.int .i64 a3].set j (.int .i64 x)) false),T]) (z0l K (F_1x N s (some ⟨b2,0⟩)) ((4+2 * (j+1):Nat),(j+1:Nat))) Q) →
   Tri (z00 [pts b2 (.cells [.ptr (some ⟨b,0+0⟩),.ptr (some ⟨b,0+1⟩),.ptr (some ⟨b,0+2⟩),.ptr (some ⟨b,0+3⟩)] false),pts b (.cells [.int .i64 a0,.int .i64 a1,.int .i64 a2,.int .i64 a3] false),T]) (z0l (K+1) (F_1x N s (some ⟨b2,0⟩)) ((4+2 * j:Nat),(j:Nat))) Q:=by
  intro K j a0 a1 a2 a3 Q hj kk;rw[z18];unfold F_1x;refine z07 (by simp;omega) ?_;refine z1x hj (z132 0 rfl (v:=some ⟨b,j⟩) (by
   match j,hj with
   | 0,_=>rfl
   | 1,_=>rfl
   | 2,_=>rfl
   | 3,_=>rfl) ?_)
  refine z02 [2] (zfk (a:=4+2 * j) (z:=2) hr (by omega) (by omega) (by rw[za6];omega) (by rw[za6];omega) (by omega)) fun r=>z04 fun hr'=>z01 ?_;dsimp only[sel,rem,nth,del,cat,upd];subst hr';refine z0m ?_;refine z1v 2 rfl (by simpa using hj) rfl ?_;dsimp only[sel,rem,nth,del,cat,upd];have e:=zxw g h j hj;have hx:[g.J,g.I,g.G,g.P][j]?.getD 0=leN (((z4p g).drop (4+2 * j)).take 2):=by
   rw[List.getElem?_eq_getElem (by simpa using hj),e];rfl
  have hle:leN (((z4p g).drop (4+2 * j)).take 2)≤1000:=by
   rw[e];match j,hj with
   | 0,_=>show g.J≤1000;omega
   | 1,_=>show g.I≤1000;omega
   | 2,_=>show g.G≤1000;omega
   | 3,_=>show g.P≤1000;omega
  rw[z0i (n:=((leN _:Nat):Int)) (by omega) (by omega),z0i (by omega) (by omega),z0i (by omega) (by omega)];have k2:=kk _ (by rw[hx]);have e2:(((4+2 * j:Nat):Int)+2)=((4+2 * (j+1):Nat):Int):=by omega
  have e3:((j:Int)+1)=((j+1:Nat):Int):=by omega
  rw[e2,e3];have e4:z00 [pts b2 (.cells [.ptr (some ⟨b,0+0⟩),.ptr (some ⟨b,0+1⟩),.ptr (some ⟨b,0+2⟩),.ptr (some ⟨b,0+3⟩)] false),pts b (.cells ([.int .i64 a0,.int .i64 a1,.int .i64 a2,.int .i64 a3].set j (.int .i64 (leN (((z4p g).drop (4+2 * j)).take 2):Nat))) false),T] =
   z00 [T,pts b2 (.cells [.ptr (some ⟨b,0+0⟩),.ptr (some ⟨b,0+1⟩),.ptr (some ⟨b,0+2⟩),.ptr (some ⟨b,0+3⟩)] false),pts b (.cells ([.int .i64 a0,.int .i64 a1,.int .i64 a2,.int .i64 a3].set j (.int .i64 (leN (((z4p g).drop (4+2 * j)).take 2):Nat))) false)]:=by
   rw[z72 [2,0,0] [pts b2 _,pts b _,T]];show z1a _ emp=_;rw[z40];rfl
  rw[e4]at k2;exact k2
 obtain⟨K,rfl⟩:∃K,N=K+5:=⟨N - 5,by omega⟩;refine z02 [0,0,0] (Q:=fun _=>z00 [pts b (.cells [.int .i64 g.J,.int .i64 g.I,.int .i64 g.G,.int .i64 g.P] false),T]) ?_ fun _=>z01 ?_
 ·refine step _ 0 0 0 0 0 (by omega) fun x hx=>?_;refine step _ 1 _ _ _ _ (by omega) fun y hy=>?_;refine step _ 2 _ _ _ _ (by omega) fun z hz=>?_;refine step _ 3 _ _ _ _ (by omega) fun w hw=>?_;subst hx hy hz hw;rw[z18];unfold F_1x;refine z05 (by simp) (z03 [1,1] fun q hq=>hq)
 ·dsimp only[sel,rem,nth,del,cat,upd];refine z3g 0 rfl (a:=g.t) (fun h' hg=>?_) ?_
  ·simp only[ldSt,bd];have:ldn 4 (some ⟨b,0⟩) h'=some (List.take 4 (List.drop 0 [MV.int .i64 g.J,.int .i64 g.I,.int .i64 g.G,.int .i64 g.P]),h'):=zco hg (by simp)
   rw[show([CTy.int .i64,.int .i64,.int .i64,.int .i64]:List CTy).length=4 from rfl,this];rfl
  ·refine z02 [] (zn5 h hN) fun r16=>z04 fun hr16=>z01 ?_;dsimp only[sel,rem,nth,del,cat,upd];refine z0c 0 rfl fun h16=>?_;refine z02 [0,1] (Q:=fun c=>pu (c=false) (z00 [z08 r16.1 1 (bytesOf (z4p g)),T])) ?_ fun c=>z04 fun hc=>z01 ?_
   ·refine z07 (by simp[hr16]) ?_;refine z4t 0 rfl (z0k h16) ?_;refine z4t 1 rfl hr ?_;exact z03 [0,0] fun q hq=>⟨by simp,hq⟩
   ·dsimp only[sel,rem,nth,del,cat,upd];subst hc;refine z05 (by simp) ?_;refine z3g 2 rfl (a:=g.t) (fun h' hg=>?_) ?_
    ·simp only[ldSt,bd];have:ldn 4 (some ⟨b,0⟩) h'=some (List.take 4 (List.drop 0 [MV.int .i64 g.J,.int .i64 g.I,.int .i64 g.G,.int .i64 g.P]),h'):=zco hg (by simp)
     rw[show([CTy.int .i64,.int .i64,.int .i64,.int .i64]:List CTy).length=4 from rfl,this];rfl
    ·exact z03 [1] fun q hq=>⟨rfl,hq⟩
end
end Go.Moat
