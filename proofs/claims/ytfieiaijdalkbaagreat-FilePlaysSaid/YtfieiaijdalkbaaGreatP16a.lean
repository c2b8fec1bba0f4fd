/- Layers 1, 3: numbers that stand among bytes; sums. -/
import Derived.Test.YtfieiaijdalkbaaGreatB15
import Derived.Test.YtfieiaijdalkbaaGreatD16
namespace Go.Moat
open Go.Mini
section
variable{N:Nat}{β:Type}{l:List HA}{S:β→HA}{T:HA}
theorem zbm{s:Sl}{bs:List UInt8}(h:RdC T s 1 (bytesOf bs)){lo hi:Nat}(h1:lo≤hi)(h2:hi≤s.len):RdC T (z2w 1 s lo hi) 1 (bytesOf ((bs.drop lo).take (hi - lo))):=by
 have:=h.sub h1 h2
 rwa [Nat.mul_one,Nat.mul_one,zyo,zgw]at this
theorem z185{n size:Nat}(h1:1≤size)(h8:size≤8)(hn:n<2^64):F_29 N (n:Int) (size:Int)=ret (decide (n<256^size)):=by
 unfold F_29;by_cases h:size=8
 ·subst h;rw[if_neg (by simp)];show ret true=_;rw[zft,decide_eq_true hn]
 ·rw[if_pos (by simp;omega),z09 (by omega) (by omega),if_neg (by omega)];have e:(8:Int) * (size:Int)=((8 * size:Nat):Int):=by simp
  rw[e,zfs (by show 8 * size≤64;omega)];show ret _=_;congr 1;rw[zft];have:(((n / 2^(8 * size):Nat):Int)=0)↔n<2^(8 * size):=by
   rw[←Nat.div_eq_zero_iff_lt (Nat.two_pow_pos _)];omega
  simp only[this]
theorem over_one(cs:List MV)(off:Nat)(v:MV)(h:off<cs.length):z11 cs off [v]=cs.set off v:=by
 unfold z11;rw[List.set_eq_take_append_cons_drop,if_pos h];simp
theorem z186(j n:Nat):le (j+1) n=le j n++[UInt8.ofNat (n / 256^j%256)]:=by
 rw[z11u 1 j];rfl
theorem z157{b o k n:Nat}{ds:List MV}(hd:o+k≤ds.length)(h8:k≤8)(hn:n<2^64)(hN:10<N) :
  Tri (z00 [pts b (.cells ds false)]) (F_2a N ⟨some ⟨b,o⟩,k⟩ (n:Int)) fun _=>z00 [pts b (.cells (z11 ds o (bytesOf (le k n))) false)]:=by
 unfold F_2a;have loop:∀(K j:Nat),k - j<K→j≤k→Tri (z00 [pts b (.cells (z11 ds o (bytesOf (le j n))) false)]) (z0e K (F_4r N ⟨some ⟨b,o⟩,k⟩ (n:Int)) (j:Int)) fun _=>z00 [pts b (.cells (z11 ds o (bytesOf (le k n))) false)]:=by
  intro K;induction K with
  | zero=>intro j h;omega
  | succ K ih=>
   intro j h hj;rw[z13];unfold F_4r;have hl:(z11 ds o (bytesOf (le j n))).length=ds.length:=z15i (by rw[z0d,z2i];omega);by_cases hjk:j<k
   ·refine z07 (by simpa using hjk) ?_;rw[z09 (by omega) (by omega)];refine z05 (by omega) ?_;refine z2l hjk (z21 0 rfl (by rw[hl];omega) rfl ?_);have e:(8:Int) * (j:Int)=((8 * j:Nat):Int):=by simp
    rw[e,zfs (by show 8 * j≤64;omega),z11q rfl,z09 (by omega) (by omega)];show Tri (z00 [pts b (.cells ((z11 ds o (bytesOf (le j n))).set (o+j * 1) _) false)]) _ _;have e2:(z11 ds o (bytesOf (le j n))).set (o+j * 1) (.int .u8 ((n / 2^(8 * j)%2^IntKind.u8.bits:Nat):Int))=z11 ds o (bytesOf (le (j+1) n)):=by
     rw[z186,zcd,←z15a (by simp[z0d,z2i];omega),z0d,z2i,Nat.mul_one,←over_one _ _ _ (by rw[hl];omega)];congr 1;simp[bytesOf,zft];rfl
    rw[e2];exact ih (j+1) (by omega) (by omega)
   ·obtain rfl:j=k:=by omega
    refine z05 (by simp) (z1m fun q hq=>hq)
 refine z02 [0] ((loop N 0 (by omega) (by omega)).pre fun q hq=>?_) fun _=>z01 (z03 [0] fun q hq=>hq);have:z11 ds o (bytesOf (le 0 n))=ds:=by simp[z11,le,bytesOf]
 rw[this];exact hq
def lays(size:Nat)(ns:List Nat):List UInt8:=(ns.map (le size)).flatten
theorem z2n(size:Nat):∀(ns:List Nat),(lays size ns).length=ns.length * size
 | []=>by simp[lays]
 | n::r=>by
  have:=z2n size r
  unfold lays at this ⊢;simp only[List.map_cons,List.flatten_cons,List.length_append,z2i,this,List.length_cons,Nat.add_mul];omega
theorem zto(size:Nat)(a b:List Nat):lays size (a++b)=lays size a++lays size b:=by simp[lays]
theorem z85(k:Nat)(h:k≤4096){f:Sl→M β}(kk:∀b,Tri (z00 (pts b (.cells (bytesOf (List.replicate k 0)) false)::l)) (f ⟨some ⟨b,0⟩,k⟩) S):Tri (z00 l) (bd (mkSl 1 1 [MV.int .u8 (0:Int)] (k:Int) (k:Int)) f) S:=by
 refine z5e (g:=fun b=>(⟨some ⟨b,0⟩,k⟩:Sl)) (x :=.cells (bytesOf (List.replicate k 0)) false) (fun h'=>?_) kk;unfold mkSl;rw[if_pos ⟨by omega,by omega,by have:most=70368744177664:=rfl;omega,rfl⟩,Int.toNat_natCast,zvn]
theorem z8m{size:Nat}{s:Sl}{ns:List Nat}(h1:1≤size)(h8:size≤8)(hr:RdC T s 1 (z1q ns))(hf:∀n∈ns,n<256^size)(hb:ns.length * size≤4096)(hN:5000<N) :
  Tri (z00 [T]) (F_04 N (size:Int) s) fun r=>pu (r.2=0) (z00 [z06 r.1 1 (bytesOf (lays size ns)),T]):=by
 have hlen:s.len=ns.length:=by
  have:=hr.1
  rw[z45]at this;omega
 have hle:ns.length≤ns.length * size:=Nat.le_mul_of_pos_right _ h1;unfold F_04;refine z05 (by simp;omega) (z05 (by omega) ?_);have hdiv:(4096:Int).tdiv (size:Int)=((4096 / size:Nat):Int):=rfl;have hd2:4096 / size≤4096:=Nat.div_le_self _ _;have hd3:ns.length≤4096 / size:=(Nat.le_div_iff_mul_le h1).2 hb;generalize 4096 / size=qd at hdiv hd2 hd3;rw[hdiv,z09 (by omega) (by omega),hlen];refine z05 (by simp;omega) ?_;have e0:(size:Int) * (ns.length:Int)=((ns.length * size:Nat):Int):=by rw[Int.mul_comm];simp
 rw[e0,z09 (by omega) (by omega)];refine z85 _ hb fun b=>?_;have loop:∀(K j:Nat),ns.length - j<K→j≤ns.length→Tri (z00 [pts b (.cells (bytesOf (lays size (ns.take j)++List.replicate ((ns.length - j) * size) 0)) false),T])
   (z0e K (F_4s N (size:Int) s ⟨some ⟨b,0⟩,ns.length * size⟩) (j:Int)) fun r=>pu (r=.inl ()) (z00 [pts b (.cells (bytesOf (lays size ns)) false),T]):=by
  intro K;induction K with
  | zero=>intro j h;omega
  | succ K ih=>
   intro j h hj;rw[z13];unfold F_4s;by_cases hjk:j<ns.length
   ·refine z07 (by simp[hlen];omega) ?_;refine z2a 1 rfl hr (i:=j) (v:=(ns[j]:Nat)) (k :=.u64) (by simp[z1q,hjk]) ?_;have hnj:=hf _ (List.getElem_mem hjk);have h64:ns[j]<2^64:=Nat.lt_of_lt_of_le hnj (by
     rw[zft];exact Nat.pow_le_pow_right (by omega) (by omega))
    rw[z185 h1 h8 h64];refine z0j (z05 (by simpa using hnj) ?_);have b1:j * size+size≤ns.length * size:=z3s hjk;have e1:(j:Int) * (size:Int)=((j * size:Nat):Int):=by simp
    have e2:((j:Int)+1) * (size:Int)=((j * size+size:Nat):Int):=by rw[Int.add_mul];simp
    rw[z09 (n:=(j:Int)+1) (by omega) (by omega),e1,e2,z09 (by omega) (by omega),z09 (by omega) (by omega)];refine z3t (by omega) (by omega) (by dsimp only;omega) ?_;have e3:z2w 1 ⟨some ⟨b,0⟩,ns.length * size⟩ (((j * size:Nat):Int)).toNat (((j * size+size:Nat):Int)).toNat=⟨some ⟨b,j * size⟩,size⟩:=by
     rw[Int.toNat_natCast,Int.toNat_natCast];simp[z2w,MA.add]
    rw[e3];have hlt:(lays size (ns.take j)).length=j * size:=by rw[z2n,List.length_take,Nat.min_eq_left hj]
    have hrem:(ns.length - j) * size=size+(ns.length - (j+1)) * size:=by
     rw[show ns.length - j=(ns.length - (j+1))+1 by omega,Nat.add_mul];omega
    refine z02 [0] (z157 (by
     rw[z0d,List.length_append,List.length_replicate,hlt,Nat.sub_mul];omega) h8 h64 (by omega)) fun _=>z01 ?_
    dsimp only[sel,rem,nth,del,cat,upd];rw[zgx,z2i];have e4:List.take (j * size) (lays size (ns.take j)++List.replicate ((ns.length - j) * size) 0)++le size ns[j]++List.drop (j * size+size) (lays size (ns.take j)++List.replicate ((ns.length - j) * size) 0)=lays size (ns.take (j+1))++List.replicate ((ns.length - (j+1)) * size) 0:=by
     rw[List.take_left' hlt,List.take_succ_eq_append_getElem hjk,zto,hrem,←hlt,List.drop_length_add_append,List.drop_replicate];simp[lays]
    rw[e4];exact ih (j+1) (by omega) (by omega)
   ·obtain rfl:j=ns.length:=by omega
    refine z05 (by simp[hlen]) (z1m fun q hq=>⟨rfl,?_⟩);rw[List.take_length,Nat.sub_self,Nat.zero_mul]at hq;simpa using hq
 refine z02 [0,0] ((loop N 0 (by omega) (by omega)).pre fun q hq=>?_) fun r=>z04 fun hr=>z01 ?_
 ·simp only[Nat.sub_zero,List.take_zero];exact hq
 ·subst hr;refine z03 [0,0] fun q hq=>⟨rfl,?_⟩;exact z4r (.cons (fun _ k =>.mk (by rw[z0d,z2n];simp) k) (.cons (fun _ k=>k) .nil)) q hq
theorem ztp{s:Sl}{bs:List UInt8}(hr:RdC T s 1 (bytesOf bs))(h8:bs.length≤8)(hN:10<N):Tri (z00 [T]) (F_1f N s) fun r=>pu (r=(leN bs:Nat)) (z00 [T]):=by
 have hlen:s.len=bs.length:=by
  have:=hr.1
  rw[z0d]at this;omega
 unfold F_1f;have loop:∀(K j:Nat),bs.length - j<K→j≤bs.length→Tri (z00 [T]) (z0e K (F_4v N s) (((leN (bs.take j):Nat):Int),(j:Int))) fun r=>pu (r=(leN bs:Nat)) (z00 [T]):=by
  intro K;induction K with
  | zero=>intro j h;omega
  | succ K ih=>
   intro j h hj;rw[z13];unfold F_4v;by_cases hjk:j<bs.length
   ·refine z07 (by simp[hlen];omega) ?_;refine z2a 0 rfl hr (zaa hjk) ?_;rw[z09 (by dsimp only;omega) (by dsimp only;omega)];refine z05 (by dsimp only;omega) ?_;dsimp only;have hb:bs[j].toNat<256:=bs[j].toNat_lt;have hlt:=z11t (bs.take j);rw[List.length_take,Nat.min_eq_left hj,zft]at hlt;have e:(8:Int) * (j:Int)=((8 * j:Nat):Int):=by simp
    have hbig:bs[j].toNat * 2^(8 * j)<2^64:=by
     have h2:bs[j].toNat * 2^(8 * j)<256 * 2^(8 * j):=Nat.mul_lt_mul_of_pos_right hb (Nat.two_pow_pos _);have h3:256 * 2^(8 * j)=2^(8 * (j+1)):=by rw[show 8 * (j+1)=8+8 * j by omega,Nat.pow_add]
     have h4:(2:Nat)^(8 * (j+1))≤2^64:=Nat.pow_le_pow_right (by omega) (by omega);omega
    have hlt2:leN (bs.take j)<2^64:=Nat.lt_of_lt_of_le hlt (Nat.pow_le_pow_right (by omega) (by omega));rw[e,zes (k :=.u64) rfl (by show _<2^64;omega),zoj rfl (by show 8 * j≤64;omega) hbig,(zdm (k :=.u64) rfl hlt2 hbig).2.1,z11s hlt,z09 (by omega) (by omega)];have e2:leN (bs.take j)+bs[j].toNat * 2^(8 * j)=leN (bs.take (j+1)):=by
     rw[List.take_succ_eq_append_getElem hjk,z159,List.length_take,Nat.min_eq_left hj,zft]
    rw[e2];exact ih (j+1) (by omega) (by omega)
   ·obtain rfl:j=bs.length:=by omega
    refine z05 (by simp[hlen]) (z1m fun q hq=>⟨?_,hq⟩);rw[List.take_length]
 exact z02 [0] ((loop N 0 (by omega) (by omega)).pre fun q hq=>hq) fun r=>z04 fun hr=>z01 (z03 [0] fun q hq=>⟨hr,hq⟩)
theorem z11n{m a z:Nat}(h1:1≤z)(h2:z≤8)(h3:a+z≤m)(hm:m<1000000):F_2d N (m:Int) (a:Int) (z:Int)=ret true:=by
 unfold F_2d;rw[z09 (by omega) (by omega)];congr 1;simp;omega
theorem zgv{s:Sl}{bs:List UInt8}{a z:Nat}(hr:RdC T s 1 (bytesOf bs))(h1:1≤z)(h8:z≤8)(ha:a+z≤bs.length)(hm:bs.length<1000000)(hN:10<N) :
  Tri (z00 [T]) (F_0l N s (a:Int) (z:Int)) fun r=>pu (r=(((leN ((bs.drop a).take z):Nat):Int),0)) (z00 [T]):=by
 have hlen:s.len=bs.length:=by
  have:=hr.1
  rw[z0d]at this;omega
 unfold F_0l;rw[hlen,z11n h1 h8 ha hm];refine z0j (z05 (by simp) ?_);rw[z09 (by omega) (by omega)];refine z3t (by omega) (by omega) (by omega) ?_;have hs:=zbm hr (lo:=a) (hi:=a+z) (by omega) (by omega);rw[show a+z - a=z by omega]at hs;have e:((a:Int)+(z:Int)).toNat=a+z:=by omega
 rw[e,Int.toNat_natCast];exact z02 [0] (ztp hs (by rw[List.length_take];omega) hN) fun r=>z04 fun hr=>z01 (z03 [0] fun q hq=>⟨by rw[hr],hq⟩)
def z4c(size:Nat):Nat→List UInt8→List Nat
 | 0,_=>[]
 | k+1,bs=>leN (bs.take size)::z4c size k (bs.drop size)
theorem zdg(size:Nat):∀(k:Nat)(bs:List UInt8),(z4c size k bs).length=k
 | 0,_=>rfl
 | k+1,bs=>congrArg (· + 1) (zdg size k _)
theorem zn4{size:Nat}:∀{k i:Nat}{bs:List UInt8},i<k→(z4c size k bs)[i]? = some (leN ((bs.drop (i * size)).take size))
 | 0,i,bs,h=>by omega
 | k+1,0,bs,h=>by simp[z4c]
 | k+1,i+1,bs,h=>by
  simp only[z4c,List.getElem?_cons_succ];rw[zn4 (by omega),List.drop_drop,Nat.add_mul,Nat.one_mul,Nat.add_comm]
theorem zcc{size:Nat}:∀(ns:List Nat),(∀n∈ns,n<256^size)→z4c size ns.length (lays size ns)=ns
 | [],_=>rfl
 | n::r,h=>by
  have ih:=zcc r fun x hx=>h x (by simp[hx]);unfold lays at ih ⊢;simp only[List.length_cons,List.map_cons,List.flatten_cons,z4c];rw[List.take_left' (z2i _ _),List.drop_left' (z2i _ _),ih,ze2,Nat.mod_eq_of_lt (h n (by simp))]
theorem zeq{s:Sl}{bs:List UInt8}{size k:Nat}(hr:RdC T s 1 (bytesOf bs))(h1:1≤size)(h8:size≤8)(hk:bs.length=k * size)(hm:bs.length≤4096)(hN:5000<N) :
  Tri (z00 [T]) (F_0c N (size:Int) s) fun r=>pu (r.2=0) (z00 [z06 r.1 1 (z1q (z4c size k bs)),T]):=by
 have hlen:s.len=bs.length:=by
  have:=hr.1
  rw[z0d]at this;omega
 unfold F_0c;rw[if_pos (by simp;omega),if_neg (by omega)];refine z0j ?_;have hmod:((s.len:Int).tmod (size:Int))=((s.len%size:Nat):Int):=rfl;rw[hmod,hlen,hk,Nat.mul_mod_left];refine z05 (by simp) (z05 (by simp;omega) ?_);have loop:∀(K j:Nat)(w:Sl),k - j<K→j≤k→Tri (z00 [z06 w 1 (z1q ((z4c size k bs).take j)),T]) (z0e K (F_4w N (size:Int)) (w,z2w 1 s (j * size) s.len)) fun r=>z00 [z06 r 1 (z1q (z4c size k bs)),T]:=by
  intro K;induction K with
  | zero=>intro j w h;omega
  | succ K ih=>
   intro j w h hj;rw[z13];unfold F_4w;dsimp only;have hsl:(z2w 1 s (j * size) s.len).len=bs.length - j * size:=by rw[hlen];rfl
   have m1:j * size≤k * size:=Nat.mul_le_mul_right _ hj;by_cases hjk:j<k
   ·have b1:j * size+size≤k * size:=z3s hjk;refine z07 (by rw[hsl];simp;omega) ?_;refine z3t (by omega) (by omega) (by rw[hsl];omega) ?_;have hs:=zbm hr (lo:=j * size) (hi:=s.len) (by omega) (by omega);have hs2:=zbm hs (lo:=0) (hi:=size) (by omega) (by rw[hsl];omega);rw[List.drop_zero,List.take_take,Nat.sub_zero,Nat.min_eq_left (by omega)]at hs2;rw[show((0:Int)).toNat=0 from rfl,Int.toNat_natCast];refine z02 [1] (ztp hs2 (by rw[List.length_take];omega) (by omega)) fun r=>z04 fun hr'=>z01 ?_;dsimp only[sel,rem,nth,del,cat,upd];subst hr';refine z0v fun b=>?_;refine z0c 2 rfl fun hw=>?_;rw[z45,List.length_take,zdg,Nat.mul_one]at hw;refine z02 [2,0] (z3a (T:=pts b (.cells [MV.int .u64 _] false)) (ts:=[MV.int .u64 _]) (rd_pts0 (by simp)) (by omega) rfl (by
     have:most=70368744177664:=rfl
     have:=Nat.le_mul_of_pos_right k h1
     dsimp only;omega)) fun w'=>z01 ?_
    dsimp only[sel,rem,nth,del,cat,upd];refine z3t (by omega) (by rw[hsl];omega) (by omega) ?_;have e1:z2w 1 (z2w 1 s (j * size) s.len) ((size:Int)).toNat (((z2w 1 s (j * size) s.len).len:Nat):Int).toNat=z2w 1 s ((j+1) * size) s.len:=by
     rw[Int.toNat_natCast,Int.toNat_natCast,hsl];unfold z2w;congr 1
     ·cases s.p with
      | none=>rfl
      | some a=>simp[MA.add,Nat.add_mul];omega
     ·rw[hlen,Nat.add_mul];omega
    rw[e1];have e2:z1q ((z4c size k bs).take j)++[MV.int .u64 (leN (List.take size (List.drop (j * size) bs)):Nat)]=z1q ((z4c size k bs).take (j+1)):=by
     have hcl:=zdg size k bs;have hg:=zn4 (size:=size) (bs:=bs) hjk;have hg2:(z4c size k bs)[j]'(by omega)=leN ((bs.drop (j * size)).take size):=by
      rw[List.getElem?_eq_getElem (by omega)]at hg;exact Option.some.inj hg
     rw[List.take_succ_eq_append_getElem (by omega),hg2];simp[z1q]
    rw[e2];refine z1u [0,1] (ih (j+1) w' (by omega) (by omega))
   ·obtain rfl:j=k:=by omega
    refine z05 (by rw[hsl];simp;omega) (z1m fun q hq=>?_);rw[List.take_of_length_le (by rw[zdg];exact Nat.le_refl _)]at hq;exact hq
 have e0:s=z2w 1 s (0 * size) s.len:=by
  unfold z2w;cases s with
  | mk p n=>cases p<;>simp[MA.add]
 refine Tri.bd (Q:=fun r=>z00 [z06 r 1 (z1q (z4c size k bs)),T]) ?_ fun r=>z03 [0,0] fun q hq=>⟨rfl,hq⟩;have:=loop N 0 ⟨none,0⟩ (by have:=Nat.le_mul_of_pos_right k h1;omega) (by omega)
 rw[←e0]at this;refine this.pre fun q hq=>?_;exact z2h (fun q h =>.nil 1 h) hq
def z2g(bs:List UInt8)(n:Nat):List UInt8:=bs++List.replicate (n - bs.length) 0
theorem z2o{bs:List UInt8}{n:Nat}(h:bs.length≤n):(z2g bs n).length=n:=by
 unfold z2g;simp;omega
theorem zis{bs:List UInt8}{n:Nat}(h:bs.length≤n):z11 (bytesOf (List.replicate n 0)) 0 (bytesOf bs)=bytesOf (z2g bs n):=by
 rw[zgx];unfold z2g;simp
theorem zer{s:Sl}{bs:List UInt8}{n:Nat}(hr:RdC T s 1 (bytesOf bs))(hb:bs.length≤n)(hn:n≤4096):Tri (z00 [T]) (F_0j N s (n:Int)) fun r=>pu (r.2=0) (z00 [z06 r.1 1 (bytesOf (z2g bs n)),T]):=by
 have hlen:s.len=bs.length:=by
  have:=hr.1
  rw[z0d]at this;omega
 unfold F_0j;refine z05 (by simp) (z05 (by simp[hlen];omega) ?_);refine z85 n hn fun b=>?_;refine z02 [0,0] (zdn (o:=0) (k:=n) hr (by rw[z0d];simp) (bytes_cell _) (by omega)) fun r=>z04 fun hr'=>z01 ?_;refine z03 [0,0] fun q hq=>⟨rfl,?_⟩;rw[hlen,Nat.min_eq_left hb,Nat.mul_one,List.take_of_length_le (by rw[z0d];exact Nat.le_refl _),zis hb]at hq;exact z4r (.cons (fun _ k =>.mk (by rw[z0d,z2o hb];simp) k) (.cons (fun _ k=>k) .nil)) q hq
def ze1(bs:List UInt8):Int×Int:=bs.foldl (fun v c=>(wr .u32 (v.1+wr .u32 c.toNat),wr .u32 (v.2+wr .u32 (v.1+wr .u32 c.toNat)))) (1,0)
def zav(bs:List UInt8):Int:=z37 .or .u32 (z75 .u32 ((ze1 bs).2.tmod 65521) 16) ((ze1 bs).1.tmod 65521)
theorem zoi(bs:List UInt8):0≤zav bs∧zav bs<4294967296:=by
 unfold zav z37;exact z11r (k :=.u32) _ rfl
theorem z11o{s:Sl}{bs:List UInt8}(hr:RdC T s 1 (bytesOf bs))(hb:bs.length≤3000)(hN:5000<N):Tri (z00 [T]) (F_2b N 1 s) fun r=>pu (r=zav bs) (z00 [T]):=by
 have hlen:s.len=bs.length:=by
  have:=hr.1
  rw[z0d]at this;omega
 unfold F_2b;have e0:(if(3000:Int)<(s.len:Int)then(3000:Int)else(s.len:Int))=(s.len:Int):=by rw[if_neg (by omega)]
 rw[e0];refine z3t (by omega) (by omega) (by omega) ?_;have e1:z2w 1 s (0:Int).toNat ((s.len:Int)).toNat=s:=by
  unfold z2w;cases s with
  | mk p n=>cases p<;>simp[MA.add]
 rw[e1];have loop:∀(K j:Nat)(v:Int×Int),bs.length - j<K→j≤bs.length→Tri (z00 [T]) (z0e K (F_4t N s) (v.1,v.2,(j:Int)))
   fun r=>pu (r=(bs.drop j).foldl (fun v c=>(wr .u32 (v.1+wr .u32 c.toNat),wr .u32 (v.2+wr .u32 (v.1+wr .u32 c.toNat)))) v) (z00 [T]):=by
  intro K;induction K with
  | zero=>intro j v h;omega
  | succ K ih=>
   intro j v h hj;rw[z13];unfold F_4t;by_cases hjk:j<bs.length
   ·refine z07 (by simp[hlen];omega) ?_;refine z2a 0 rfl hr (zaa hjk) ?_;dsimp only;rw[z09 (n:=(j:Int)+1) (by omega) (by omega),List.drop_eq_getElem_cons hjk,List.foldl_cons];exact ih (j+1) (_,_) (by omega) (by omega)
   ·obtain rfl:j=bs.length:=by omega
    refine z05 (by simp[hlen]) (z1m fun q hq=>⟨?_,hq⟩);rw[List.drop_length];rfl
 have e2:(z37 .and .u32 (1:Int) (65535:Int)).tmod (65521:Int)=1:=by decide
 have e3:(zbc .u32 (1:Int) (16:Int)).tmod (65521:Int)=0:=by decide
 rw[e2,e3];refine z02 [0] (loop N 0 (1,0) (by omega) (by omega)) fun r=>z04 fun hr'=>z01 ?_;dsimp only[sel,rem,nth,del,cat,upd];rw[List.drop_zero]at hr';refine z3t (by omega) (by omega) (by omega) ?_;have e4:(z2w 1 s ((s.len:Int)).toNat ((s.len:Int)).toNat).len=0:=by simp[z2w]
 rw[e4];refine z05 (by simp) (z03 [0] fun q hq=>⟨?_,hq⟩);rw[hr'];rfl
theorem zwy{s:Sl}{bs:List UInt8}(hr:RdC T s 1 (bytesOf bs))(hb:bs.length≤3000)(hN:5000<N):Tri (z00 [T]) (F_18 N s) fun r=>pu (r=zav bs) (z00 [T]):=by
 unfold F_18;exact z02 [0] (z11o hr hb hN) fun r=>z04 fun hr=>z01 (z03 [0] fun q hq=>⟨hr,hq⟩)
def z5n(bs:List UInt8):List UInt8:=bs++le 4 (zav bs).toNat
theorem z91(bs:List UInt8):(z5n bs).length=bs.length+4:=by simp[z5n,z2i]
theorem zq1{s:Sl}{bs:List UInt8}(hr:RdC T s 1 (bytesOf bs))(hb:bs.length≤1000)(hN:5000<N):Tri (z00 [T]) (F_19 N s) fun r=>z00 [z06 r 1 (bytesOf (z5n bs)),T]:=by
 have hlen:s.len=bs.length:=by
  have:=hr.1
  rw[z0d]at this;omega
 obtain⟨g1,g2⟩:=zoi bs;unfold F_19;have e0:(s.len:Int)+4=((bs.length+4:Nat):Int):=by rw[hlen];simp
 rw[e0,z09 (by omega) (by omega)];refine z85 _ (by omega) fun b=>?_;refine z02 [0,0] (zdn (o:=0) (k:=bs.length+4) hr (by rw[z0d];simp) (bytes_cell _) (by omega)) fun r=>z04 fun hr'=>z01 ?_;dsimp only[sel,rem,nth,del,cat,upd];rw[hlen,Nat.min_eq_left (by omega),Nat.mul_one,List.take_of_length_le (by rw[z0d];exact Nat.le_refl _),zis (by omega)];refine z02 [1] (zwy hr (by omega) hN) fun r4=>z04 fun hr4=>z01 ?_;dsimp only[sel,rem,nth,del,cat,upd];subst hr4;obtain⟨m,hm⟩:∃m:Nat,zav bs=m:=⟨(zav bs).toNat,by omega⟩;rw[hm,zes (k :=.u64) rfl (by show m<2^64;omega)];refine z0v fun b2=>?_;refine z02 [0] (z8m (size:=4) (ns:=[m]) (T:=pts b2 (.cells [MV.int .u64 m] false)) (by omega) (by omega) (rd_pts0 (by simp[z1q])) (by
  intro n hn;simp at hn;omega) (by simp) hN) fun r6=>z04 fun hr6=>z01 ?_
 dsimp only[sel,rem,nth,del,cat,upd];refine z0c 0 rfl fun h6=>?_;rw[z0d,z2n]at h6;simp only[List.length_cons,List.length_nil]at h6;refine z3t (by omega) (by omega) (by dsimp only;omega) ?_;have e5:z2w 1 ⟨some ⟨b,0⟩,bs.length+4⟩ ((bs.length:Int)).toNat (((bs.length+4:Nat):Int)).toNat=⟨some ⟨b,bs.length⟩,4⟩:=by
  simp[z2w,MA.add];omega
 rw[e5];refine z02 [3,0] (zdn (o:=bs.length) (k:=4) (T:=z06 r6.1 1 (bytesOf (lays 4 [m]))) (z0k (by rw[z0d,z2n];simp;omega)) (by rw[z0d,z2o (by omega)];omega) (bytes_cell _) (by omega)) fun r=>z04 fun hr'=>z01 ?_;dsimp only[sel,rem,nth,del,cat,upd];refine z03 [0,2] fun q hq=>?_;have e6:min r6.1.len 4 * 1=4:=by omega
 have e7:(bytesOf (lays 4 [m])).take 4=bytesOf (le 4 m):=by
  rw[zgw];simp[lays,List.take_of_length_le,z2i]
 rw[e6,e7,zgx]at hq;have e8:(z2g bs (bs.length+4)).take bs.length++le 4 m++(z2g bs (bs.length+4)).drop (bs.length+(le 4 m).length)=z5n bs:=by
  unfold z2g z5n;rw[List.take_left,List.drop_length_add_append,hm,z2i];simp
 rw[e8]at hq;exact z4r (.cons (fun _ k =>.mk (by rw[z0d,z91];simp) k) (.cons (fun _ k=>k) .nil)) q hq
theorem z11p{s:Sl}{bs:List UInt8}(hr:RdC T s 1 (bytesOf (z5n bs)))(hb:bs.length≤1000)(hN:5000<N):Tri (z00 [T]) (F_2f N s) fun r=>pu (r.2=0) (z00 [z06 r.1 1 (bytesOf bs),T]):=by
 have hlen:s.len=bs.length+4:=by
  have:=hr.1
  rw[z0d,z91]at this;omega
 obtain⟨g1,g2⟩:=zoi bs;obtain⟨m,hm⟩:∃m:Nat,zav bs=m:=⟨(zav bs).toNat,by omega⟩;unfold F_2f;have e0:(s.len:Int) - 4=((bs.length:Nat):Int):=by rw[hlen];omega
 rw[e0,z09 (by omega) (by omega)];refine z05 (by simp) ?_;refine z02 [0] (zgv (a:=bs.length) (z:=4) hr (by omega) (by omega) (by rw[z91];exact Nat.le_refl _) (by rw[z91];omega) (by omega)) fun r=>z04 fun hr2=>z01 ?_;dsimp only[sel,rem,nth,del,cat,upd];have e1:leN (((z5n bs).drop bs.length).take 4)=m:=by
  unfold z5n;rw[List.drop_left,hm,Int.toNat_natCast,List.take_of_length_le (by rw[z2i];omega),ze2,Nat.mod_eq_of_lt];omega
 rw[e1]at hr2;subst hr2;refine z02 [0] (Q:=fun c=>pu (c=false) (z00 [T])) ?_ fun c=>z04 fun hc=>z01 ?_
 ·refine z07 (by simp) ?_;refine z3t (by omega) (by omega) (by omega) ?_;have hs:=zbm hr (lo:=0) (hi:=bs.length) (by omega) (by omega);rw[List.drop_zero,Nat.sub_zero]at hs;have e2:(z5n bs).take bs.length=bs:=by
   unfold z5n;rw[List.take_left]
  rw[e2]at hs;refine z02 [0] (zwy hs (by omega) hN) fun r4=>z04 fun hr4=>z01 (z03 [0] fun q hq=>⟨?_,hq⟩);rw[hr4,wr32 (by dsimp only;omega) (by dsimp only;omega),hm];simp
 ·subst hc;dsimp only[sel,rem,nth,del,cat,upd];refine z05 (by simp) ?_;refine z85 _ (by omega) fun b=>?_;refine z02 [0,0] (zdn (o:=0) (k:=bs.length) hr (by rw[z0d];simp) (bytes_cell _) (by omega)) fun r=>z04 fun hr'=>z01 ?_;refine z03 [0,0] fun q hq=>⟨rfl,?_⟩;have e3:min s.len bs.length * 1=bs.length:=by omega
  have e4:(bytesOf (z5n bs)).take bs.length=bytesOf bs:=by
   rw[zgw];unfold z5n;rw[List.take_left]
  rw[e3,e4,zis (Nat.le_refl _)]at hq;have e5:z2g bs bs.length=bs:=by simp[z2g]
  rw[e5]at hq;exact z4r (.cons (fun _ k =>.mk (by rw[z0d];simp) k) (.cons (fun _ k=>k) .nil)) q hq
end
end Go.Moat

/- Layer 9: how a disk is parted. -/
namespace Go.Mini
section
variable{β:Type}{l:List HA}{S:β→HA}
theorem z8q{A:HA}{f:Nat→M β}(k:∀b,Tri A (f b) S):Tri A (bd (z4y 0) f) S:=by
 intro h q hq hh;exact k h.size h q hq hh
theorem zq4(n:Nat){b o k:Nat}{cs:List MV}(hl:l[n]? = some (pts b (.cells cs false)))(hk:0<k){f:Sl→M β}(kk:Tri (z00 l) (f ⟨some ⟨b,o⟩,k⟩) S):Tri (z00 l) (bd (markB ⟨some ⟨b,o⟩,k⟩) f) S:=by
 refine zab n hl (y :=.cells cs false) (a:=⟨some ⟨b,o⟩,k⟩) (fun h hg=>?_) ?_
 ·unfold markB;simp only[hg];rw[if_pos ⟨hk,rfl⟩]
 ·rw[zh3 l n hl];exact kk
end
end Go.Mini
namespace Go.Moat
open Go.Mini
structure Geo where
 J:Nat
 I:Nat
 G:Nat
 P:Nat
 deriving DecidableEq
def Geo.t(g:Geo):Int×Int×Int×Int:=(g.J,g.I,g.G,g.P)
structure Geo.ok(g:Geo):Prop where
 j1:3≤g.J
 j2:g.J≤1000
 i1:2≤g.I
 i2:g.I≤64
 i3:g.I%2=0
 g1:1≤g.G
 g2:g.G≤64
 p1:1≤g.P
 p2:g.P≤512 / g.G
theorem Geo.ok.gp{g:Geo}(h:g.ok):g.G * g.P≤512:=by
 have:=Nat.mul_le_mul_left g.G h.p2
 have h2:=Nat.mul_div_le 512 g.G;omega
theorem Geo.ok.pp{g:Geo}(h:g.ok):g.P≤512:=Nat.le_trans h.p2 (Nat.div_le_self _ _)
def Geo.B(g:Geo):Nat:=g.G * g.P
def Geo.M(g:Geo):Nat:=3+g.I / 2
def Geo.lab(g:Geo):Nat:=1+g.J
def Geo.blk(g:Geo):Nat:=4+g.J+g.I / 2
def Geo.all(g:Geo):Nat:=g.blk+g.B
def Geo.lay(g:Geo):Int×Int×Int×Int×Int×Int×Int:=((1:Nat),(g.lab:Nat),((2+g.J:Nat)),((3+g.J:Nat)),((4+g.J:Nat)),(g.blk:Nat),(g.all:Nat))
def zys(n:Nat):Nat:=n+(n - 1) / 15+1
abbrev Geo.roomy(g:Geo):Prop:=zys (g.M+80)≤g.J - 1
theorem Geo.ok.all_le{g:Geo}(h:g.ok):g.all≤4096:=by
 have:=h.gp
 have:=h.j2
 have:=h.i2
 unfold Geo.all Geo.blk Geo.B;omega
section
variable{N:Nat}{β:Type}{l:List HA}{S:β→HA}{T:HA}{g:Geo}
theorem z124(n a b:Int):F_0s N n a b=ret (decide (a≤n)&&decide (n≤b)):=rfl
theorem ze8(h:g.ok):F_09 N g.t=ret true:=by
 obtain⟨h1,h2,h3,h4,h5,h6,h7,h8,h9⟩:=h;have h10:g.P≤512 / g.G:=h9;unfold F_09 Geo.t;simp only[z124];have e1:(decide ((3:Int)≤(g.J:Int))&&decide ((g.J:Int)≤1000))=true:=by simp;omega
 have e2:(decide ((2:Int)≤(g.I:Int))&&decide ((g.I:Int)≤64))=true:=by simp;omega
 have e3:(decide ((1:Int)≤(g.G:Int))&&decide ((g.G:Int)≤64))=true:=by simp;omega
 have e4:((g.I:Int).tmod 2)=((g.I%2:Nat):Int):=rfl;have e5:(512:Int).tdiv (g.G:Int)=((512 / g.G:Nat):Int):=rfl;have h11:=Nat.div_le_self 512 g.G;have e6:(decide ((1:Int)≤(g.P:Int))&&decide ((g.P:Int)≤wr .i64 ((512:Int).tdiv (g.G:Int))))=true:=by
  rw[e5,z09 (by omega) (by omega)];generalize 512 / g.G=q at *;simp;omega
 have e7:(g.G:Int)≠0:=by omega
 simp only[e1,e2,e3,e4,e6,h5,if_neg e7];rfl
theorem zfz(h:g.ok):F_06 N g.t=ret (g.M:Int):=by
 unfold F_06;have e:=ze8 (N:=N) h;unfold Geo.t at e ⊢;rw[e];have e4:((g.I:Int).tdiv 2)=((g.I / 2:Nat):Int):=rfl;have:=h.i2
 funext hh;simp only[bd,ret];rw[e4,z09 (n:=((g.I / 2:Nat):Int)) (by omega) (by omega),z09 (by omega) (by omega)];simp[ret,Geo.M]
theorem z18a{n:Nat}(h1:1≤n)(h2:n<1000000):F_0t N (n:Int)=ret (zys n:Int):=by
 unfold F_0t;rw[if_neg (by simp;omega)];have e:wr .i64 ((n:Int) - 1)=((n - 1:Nat):Int):=by rw[z09 (by omega) (by omega)];omega
 have e2:((n - 1:Nat):Int).tdiv 15=(((n - 1) / 15:Nat):Int):=rfl;rw[e,e2,z09 (n:=(((n - 1) / 15:Nat):Int)) (by omega) (by omega),z09 (n:=(n:Int)+_) (by omega) (by omega),z09 (by omega) (by omega)];congr 1
theorem zn9(h:g.ok):Tri (z00 l) (F_03 N g.t) fun r=>pu (r=decide g.roomy) (z00 l):=by
 unfold F_03;refine z8q fun _=>?_;have e:=zfz (N:=N) h;have:=h.i2
 have:=h.j1
 have:=h.j2
 have hM:g.M=3+g.I / 2:=rfl;unfold Geo.t at e ⊢;rw[e];refine z0j ?_;have e2:wr .i64 ((g.M:Int)+80)=((g.M+80:Nat):Int):=by rw[z09 (by omega) (by omega)];simp
 rw[e2,z18a (by omega) (by omega)];refine z0j (z1m fun q hq=>⟨?_,hq⟩);rw[z09 (by dsimp only;omega) (by dsimp only;omega)];unfold Geo.roomy;congr 1;apply propext;dsimp only;omega
theorem z7w{b:Nat}{v n:Int}(h0:0≤v)(h1:v≤1000000)(h2:0≤n)(h3:n≤1000000):Tri (z00 [pts b (.cells [.int .i64 v] false)]) (F_05 N n (some ⟨b,0⟩)) fun r=>pu (r=v+n) (z00 [pts b (.cells [.int .i64 (v+n)] false)]):=by
 unfold F_05;refine tri_ldI 0 rfl rfl ?_;rw[z09 (by omega) (by omega)];refine z21 0 rfl (by simp) rfl ?_;exact tri_ldI 0 rfl rfl (z03 [0] fun q hq=>⟨rfl,hq⟩)
theorem ziz(h:g.ok):Tri (z00 []) (F_0i N g.t) fun r=>pu (r=(g.lay,0)) (z00 []):=by
 have hgp:=h.gp;have:=h.i2
 have:=h.j2
 unfold F_0i;have e:=ze8 (N:=N) h;unfold Geo.t at e ⊢;rw[e];refine z0j (z05 (by simp) ?_);refine z0v fun b=>?_;refine z21 0 rfl (by simp) rfl ?_;refine z8q fun _=>?_;dsimp only[sel,rem,nth,del,cat,upd];have e4:((g.I:Int).tdiv 2)=((g.I / 2:Nat):Int):=rfl;have e5:(g.G:Int) * (g.P:Int)=((g.G * g.P:Nat):Int):=by simp
 rw[e4,e5,z09 (by omega) (by omega),z09 (by omega) (by omega)];refine z02 [0] (z7w (by omega) (by omega) (by omega) (by omega)) fun r1=>z04 fun h1=>z01 ?_;refine z02 [0] (z7w (by omega) (by omega) (by omega) (by omega)) fun r2=>z04 fun h2=>z01 ?_;refine z02 [0] (z7w (by omega) (by omega) (by omega) (by omega)) fun r3=>z04 fun h3=>z01 ?_;refine z02 [0] (z7w (by omega) (by omega) (by omega) (by omega)) fun r4=>z04 fun h4=>z01 ?_;refine z02 [0] (z7w (by omega) (by omega) (by omega) (by omega)) fun r5=>z04 fun h5=>z01 ?_;refine z02 [0] (z7w (by omega) (by omega) (by omega) (by omega)) fun r6=>z04 fun h6=>z01 ?_;refine z02 [0] (z7w (by omega) (by omega) (by omega) (by omega)) fun r7=>z04 fun h7=>z01 ?_;refine z03 [] fun q hq=>⟨?_,hq⟩;subst h1 h2 h3 h4 h5 h6 h7;unfold Geo.lay Geo.all Geo.blk Geo.lab Geo.B;simp only[Prod.mk.injEq];refine⟨⟨?_,?_,?_,?_,?_,?_,?_⟩,trivial⟩<;>simp<;>omega
def z59(g:Geo):List UInt8:=z5n (z2g ([109,111,97,116]++lays 2 [g.J,g.I,g.G,g.P]) 60)
theorem zaw(g:Geo):(z59 g).length=64:=by
 unfold z59;rw[z91,z2o (by simp[z2n])]
theorem zq5(h:g.ok)(hN:5000<N):Tri (z00 []) (F_1a N g.t) fun r=>pu (r.2=0) (z00 [z06 r.1 1 (bytesOf (z59 g))]):=by
 have hgp:=h.pp;have:=h.i2
 have:=h.j2
 have:=h.g2
 unfold F_1a;have e:=ze8 (N:=N) h;unfold Geo.t at e ⊢;rw[e];refine z0j (z05 (by simp) ?_);dsimp only;rw[z6d (by omega) (by omega),z6d (by omega) (by omega),z6d (by omega) (by omega),z6d (by omega) (by omega)];refine z0v fun b=>?_;refine z02 [0] (z8m (size:=2) (ns:=[g.J,g.I,g.G,g.P]) (T:=pts b (.cells [.int .u64 g.J,.int .u64 g.I,.int .u64 g.G,.int .u64 g.P] false)) (by omega) (by omega) (rd_pts0 (by simp)) (by
  intro n hn;simp at hn;omega) (by simp) hN) fun r4=>z04 fun hr4=>z01 ?_
 dsimp only[sel,rem,nth,del,cat,upd];refine z0c 0 rfl fun h4=>?_;rw[z0d,z2n]at h4;simp only[List.length_cons,List.length_nil]at h4;refine z0v fun b5=>?_;refine zq4 0 rfl (by omega) ?_;refine z6s 0 (B:=z06 ⟨some ⟨b5,0⟩,4⟩ 1 (bytesOf [109,111,97,116])) rfl (fun q hq =>.mk (by simp[bytesOf]) hq) ?_;dsimp only[sel,rem,nth,del,cat,upd];refine z02 [0,0] (z3a (z0k (by rw[z0d,z2n];simp only[List.length_cons,List.length_nil];omega)) (by omega) (bytes_cell _) (by
  have:most=70368744177664:=rfl
  dsimp only;omega)) fun r7=>z01 ?_
 dsimp only[sel,rem,nth,del,cat,upd];rw[←zcd];refine z0c 0 rfl fun h7=>?_;rw[z0d,List.length_append,z2n]at h7;simp only[List.length_cons,List.length_nil]at h7;refine z02 [0] (zer (n:=60) (z0k (by rw[z0d,List.length_append,z2n];simp only[List.length_cons,List.length_nil];omega)) (by rw[List.length_append,z2n];simp) (by omega)) fun r8=>z04 fun hr8=>z01 ?_;dsimp only[sel,rem,nth,del,cat,upd];refine z0c 0 rfl fun h8=>?_;refine z02 [0] (zq1 (z0k h8) (by rw[z2o (by simp[z2n])];omega) hN) fun r9=>z01 ?_;exact z03 [0] fun q hq=>⟨rfl,hq⟩
theorem z125(g:Geo)(h:g.ok)(k:Nat)(hk:k<4):leN (((z59 g).drop (4+2 * k)).take 2)=[g.J,g.I,g.G,g.P][k]'(by simpa using hk):=by
 have hgp:=h.pp;have:=h.i2
 have:=h.j2
 have:=h.g2
 have e:∀(a b c d:Nat)(x:List UInt8),z59 g=[109,111,97,116]++(le 2 g.J++(le 2 g.I++(le 2 g.G++(le 2 g.P++(List.replicate 48 0++le 4 (zav (z2g ([109,111,97,116]++lays 2 [g.J,g.I,g.G,g.P]) 60)).toNat))))):=by
  intros
  unfold z59 z5n z2g lays;simp[z2i]
 rw[e 0 0 0 0 []];have f:∀(n:Nat),n≤65535→leN (le 2 n)=n:=fun n hn=>by rw[ze2,Nat.mod_eq_of_lt (by omega)]
 have l2:∀n,(le 2 n).length=2:=fun n=>z2i 2 n;match k,hk with
 | 0,_=>
  rw[show 4+2 * 0=([109,111,97,116]:List UInt8).length from rfl,List.drop_left,List.take_left' (l2 _)];exact f _ (by omega)
 | 1,_=>
  rw[show 4+2 * 1=([109,111,97,116]:List UInt8).length+(le 2 g.J).length by rw[l2];rfl,List.drop_length_add_append,List.drop_left,List.take_left' (l2 _)];exact f _ (by omega)
 | 2,_=>
  rw[show 4+2 * 2=([109,111,97,116]:List UInt8).length+((le 2 g.J).length+(le 2 g.I).length) by rw[l2,l2];rfl,List.drop_length_add_append,List.drop_length_add_append,List.drop_left,List.take_left' (l2 _)];exact f _ (by omega)
 | 3,_=>
  rw[show 4+2 * 3=([109,111,97,116]:List UInt8).length+((le 2 g.J).length+((le 2 g.I).length+(le 2 g.G).length)) by rw[l2,l2,l2];rfl,List.drop_length_add_append,List.drop_length_add_append,List.drop_length_add_append,List.drop_left,List.take_left' (l2 _)];exact f _ (by omega)
theorem zyt(h:g.ok){s:Sl}(hr:RdC T s 1 (bytesOf (z59 g)))(hN:5000<N):Tri (z00 [T]) (F_2e N s) fun r=>pu (r=(g.t,0)) (z00 [T]):=by
 have hlen:s.len=64:=by
  have:=hr.1
  rw[z0d,zaw]at this;omega
 have hgp:=h.pp;have:=h.i2
 have:=h.j2
 have:=h.g2
 unfold F_2e;refine z05 (by simp[hlen]) ?_;refine z0v fun b=>?_;refine z0b (z0b (z0b (z0b ?_)));refine z0v fun b2=>?_;have step:∀(K j:Nat)(a0 a1 a2 a3:Int){Q:Unit→HA},j<4→(∀x:Int,x=([g.J,g.I,g.G,g.P][j]?.getD 0:Nat)→Tri (z00 [pts b2 (.cells [.ptr (some ⟨b,0+0⟩),.ptr (some ⟨b,0+1⟩),.ptr (some ⟨b,0+2⟩),.ptr (some ⟨b,0+3⟩)] false),pts b (.cells ([.int .i64 a0,.int .i64 a1,.int .i64 a2,.int .i64 a3].set j (.int .i64 x)) false),T]) (z0e K (F_24 N s (some ⟨b2,0⟩)) ((4+2 * (j+1):Nat),(j+1:Nat))) Q) →
   Tri (z00 [pts b2 (.cells [.ptr (some ⟨b,0+0⟩),.ptr (some ⟨b,0+1⟩),.ptr (some ⟨b,0+2⟩),.ptr (some ⟨b,0+3⟩)] false),pts b (.cells [.int .i64 a0,.int .i64 a1,.int .i64 a2,.int .i64 a3] false),T]) (z0e (K+1) (F_24 N s (some ⟨b2,0⟩)) ((4+2 * j:Nat),(j:Nat))) Q:=by
  intro K j a0 a1 a2 a3 Q hj kk;rw[z13];unfold F_24;refine z07 (by simp;omega) ?_;refine z2l hj (z3r 0 rfl (v:=some ⟨b,j⟩) (by
   match j,hj with
   | 0,_=>rfl
   | 1,_=>rfl
   | 2,_=>rfl
   | 3,_=>rfl) ?_)
  refine z02 [2] (zgv (a:=4+2 * j) (z:=2) hr (by omega) (by omega) (by rw[zaw];omega) (by rw[zaw];omega) (by omega)) fun r=>z04 fun hr'=>z01 ?_;dsimp only[sel,rem,nth,del,cat,upd];subst hr';refine z0r ?_;refine z21 2 rfl (by simpa using hj) rfl ?_;dsimp only[sel,rem,nth,del,cat,upd];have e:=z125 g h j hj;have hx:[g.J,g.I,g.G,g.P][j]?.getD 0=leN (((z59 g).drop (4+2 * j)).take 2):=by
   rw[List.getElem?_eq_getElem (by simpa using hj),e];rfl
  have hle:leN (((z59 g).drop (4+2 * j)).take 2)≤1000:=by
   rw[e];match j,hj with
   | 0,_=>show g.J≤1000;omega
   | 1,_=>show g.I≤1000;omega
   | 2,_=>show g.G≤1000;omega
   | 3,_=>show g.P≤1000;omega
  rw[z09 (n:=((leN _:Nat):Int)) (by omega) (by omega),z09 (by omega) (by omega),z09 (by omega) (by omega)];have k2:=kk _ (by rw[hx]);have e2:(((4+2 * j:Nat):Int)+2)=((4+2 * (j+1):Nat):Int):=by omega
  have e3:((j:Int)+1)=((j+1:Nat):Int):=by omega
  rw[e2,e3];have e4:z00 [pts b2 (.cells [.ptr (some ⟨b,0+0⟩),.ptr (some ⟨b,0+1⟩),.ptr (some ⟨b,0+2⟩),.ptr (some ⟨b,0+3⟩)] false),pts b (.cells ([.int .i64 a0,.int .i64 a1,.int .i64 a2,.int .i64 a3].set j (.int .i64 (leN (((z59 g).drop (4+2 * j)).take 2):Nat))) false),T] =
   z00 [T,pts b2 (.cells [.ptr (some ⟨b,0+0⟩),.ptr (some ⟨b,0+1⟩),.ptr (some ⟨b,0+2⟩),.ptr (some ⟨b,0+3⟩)] false),pts b (.cells ([.int .i64 a0,.int .i64 a1,.int .i64 a2,.int .i64 a3].set j (.int .i64 (leN (((z59 g).drop (4+2 * j)).take 2):Nat))) false)]:=by
   rw[z7i [2,0,0] [pts b2 _,pts b _,T]];show z18 _ emp=_;rw[star_emp];rfl
  rw[e4]at k2;exact k2
 obtain⟨K,rfl⟩:∃K,N=K+5:=⟨N - 5,by omega⟩;refine z02 [0,0,0] (Q:=fun _=>z00 [pts b (.cells [.int .i64 g.J,.int .i64 g.I,.int .i64 g.G,.int .i64 g.P] false),T]) ?_ fun _=>z01 ?_
 ·refine step _ 0 0 0 0 0 (by omega) fun x hx=>?_;refine step _ 1 _ _ _ _ (by omega) fun y hy=>?_;refine step _ 2 _ _ _ _ (by omega) fun z hz=>?_;refine step _ 3 _ _ _ _ (by omega) fun w hw=>?_;subst hx hy hz hw;rw[z13];unfold F_24;refine z05 (by simp) (z03 [1,1] fun q hq=>hq)
 ·dsimp only[sel,rem,nth,del,cat,upd];refine tri_read 0 rfl (a:=g.t) (fun h' hg=>?_) ?_
  ·simp only[z4f,bd];have:ldn 4 (some ⟨b,0⟩) h'=some (List.take 4 (List.drop 0 [MV.int .i64 g.J,.int .i64 g.I,.int .i64 g.G,.int .i64 g.P]),h'):=ze3 hg (by simp)
   rw[show([CTy.int .i64,.int .i64,.int .i64,.int .i64]:List CTy).length=4 from rfl,this];rfl
  ·refine z02 [] (zq5 h hN) fun r16=>z04 fun hr16=>z01 ?_;dsimp only[sel,rem,nth,del,cat,upd];refine z0c 0 rfl fun h16=>?_;refine z02 [0,1] (Q:=fun c=>pu (c=false) (z00 [z06 r16.1 1 (bytesOf (z59 g)),T])) ?_ fun c=>z04 fun hc=>z01 ?_
   ·refine z07 (by simp[hr16]) ?_;refine z4l 0 rfl (z0k h16) ?_;refine z4l 1 rfl hr ?_;exact z03 [0,0] fun q hq=>⟨by simp,hq⟩
   ·dsimp only[sel,rem,nth,del,cat,upd];subst hc;refine z05 (by simp) ?_;refine tri_read 2 rfl (a:=g.t) (fun h' hg=>?_) ?_
    ·simp only[z4f,bd];have:ldn 4 (some ⟨b,0⟩) h'=some (List.take 4 (List.drop 0 [MV.int .i64 g.J,.int .i64 g.I,.int .i64 g.G,.int .i64 g.P]),h'):=ze3 hg (by simp)
     rw[show([CTy.int .i64,.int .i64,.int .i64,.int .i64]:List CTy).length=4 from rfl,this];rfl
    ·exact z03 [1] fun q hq=>⟨rfl,hq⟩
end
end Go.Moat

/- Layers 8 and 10: bits; rows of labels. -/
namespace Go.Moat
open Go.Mini
def zjs(b:UInt8)(k:Nat)(on:Bool):UInt8:=
 UInt8.ofNat (if on then z37 .or .u8 (z37 .andNot .u8 b.toNat (z75 .u8 1 k)) (z75 .u8 1 k)else z37 .andNot .u8 b.toNat (z75 .u8 1 k)).toNat
theorem shl1{k:Nat}(hk:k<8):z75 .u8 (1:Int) (k:Int)=((2^k:Nat):Int):=by
 have:=zoj (k :=.u8) (a:=1) (j:=k) rfl (by show k≤8;omega) (by rw[Nat.one_mul];exact Nat.pow_lt_pow_right (by omega) hk)
 rw[Nat.one_mul]at this;exact this
theorem zna(b:UInt8){k:Nat}(hk:k<8):∃m:Nat,z37 .andNot .u8 b.toNat (z75 .u8 1 k)=(m:Int)∧m<256∧z37 .or .u8 m (z75 .u8 1 k)=((m ||| 2^k:Nat):Int)∧m ||| 2^k<256∧∀i,m.testBit i=(b.toNat.testBit i && !decide (k=i)):=by
 have h1:2^k<2^IntKind.u8.bits:=Nat.pow_lt_pow_right (by omega) hk;obtain⟨m,h2,h3,h4⟩:=zyn (k :=.u8) rfl (a:=b.toNat) (b:=2^k) b.toNat_lt h1;refine⟨m,by rw[shl1 hk,h2],h3,by rw[shl1 hk];exact(zdm (k :=.u8) rfl h3 h1).2.1,Nat.or_lt_two_pow (n:=8) h3 h1,fun i=>?_⟩;rw[h4,Nat.testBit_two_pow]
theorem z126(b:UInt8){k:Nat}(hk:k<8)(on:Bool)(i:Nat):(zjs b k on).toNat.testBit i=if i=k then on else b.toNat.testBit i:=by
 obtain⟨m,h1,h2,h3,h4,h5⟩:=zna b hk;unfold zjs;cases on
 ·simp only[Bool.false_eq_true,if_false];rw[h1,Int.toNat_natCast,UInt8.toNat_ofNat_of_lt' (by simpa using h2),h5];by_cases e:i=k
  ·subst e;simp
  ·simp[e,Ne.symm e]
 ·simp only[if_true];rw[h1,h3,Int.toNat_natCast,UInt8.toNat_ofNat_of_lt' (by simpa using h4),Nat.testBit_or,h5,Nat.testBit_two_pow];by_cases e:i=k
  ·subst e;simp
  ·simp[e,Ne.symm e]
def z1x(bs:List UInt8)(i:Nat)(on:Bool):List UInt8:=bs.set (i / 8) (zjs (bs[i / 8]?.getD 0) (i%8) on)
theorem zax(bs:List UInt8)(i:Nat)(on:Bool):(z1x bs i on).length=bs.length:=by simp[z1x]
theorem z1y{bs:List UInt8}{i:Nat}(hi:i<8 * bs.length)(on:Bool)(j:Nat):z0y (z1x bs i on) j=if j=i then on else z0y bs j:=by
 unfold z0y z1x;have h8:i / 8<bs.length:=by omega
 rw[List.getElem?_set];by_cases h:i / 8=j / 8
 ·rw[if_pos h,if_pos h8];simp only[z126 _ (show i%8<8 by omega)];by_cases e:j=i
  ·subst e;simp
  ·rw[if_neg e,if_neg (by omega),h,List.getElem?_eq_getElem (by omega)];rfl
 ·rw[if_neg h,if_neg (by rintro rfl;exact h rfl)]
def z6m(bs:List UInt8)(lo hi:Nat)(on:Bool):Option Nat:=((List.range' lo (hi - lo)).find? fun i=>z0y bs i==on)
def z6g(bs:List UInt8)(lo hi:Nat):Nat:=((List.range' lo (hi - lo)).filter fun i=>z0y bs i).length
section
variable{N:Nat}{β:Type}{l:List HA}{S:β→HA}{T:HA}{s:Sl}{bs:List UInt8}
theorem z4m(hr:RdC T s 1 (bytesOf bs)):s.len=bs.length:=by
 have:=hr.1
 rw[z0d]at this;omega
theorem zty(hr:RdC T s 1 (bytesOf bs))(hb:bs.length≤512)(i:Int):Tri (z00 [T]) (F_0o N s i) fun r=>pu (r=(decide (0≤i)&&z0y bs i.toNat)) (z00 [T]):=by
 have hlen:=z4m hr;unfold F_0o;rw[hlen];have e8:(8:Int) * (bs.length:Int)=((8 * bs.length:Nat):Int):=by simp
 rw[e8,z09 (n:=((8 * bs.length:Nat):Int)) (by omega) (by omega)];refine z02 [0] (Q:=fun r=>pu (r=(decide (0≤i)&&z0y bs i.toNat)) (z00 [T])) ?_ fun c=>z04 fun hc=>z01 (z03 [0] fun q hq=>⟨hc,hq⟩);by_cases h:0≤i∧i<((8 * bs.length:Nat):Int)
 ·obtain⟨k,rfl⟩:∃k:Nat,i=k:=⟨i.toNat,by omega⟩;refine z07 (by simp;omega) ?_;have e1:(k:Int).tdiv 8=((k / 8:Nat):Int):=rfl;have e2:(k:Int).tmod 8=((k%8:Nat):Int):=rfl;rw[e1,e2,z09 (by omega) (by omega)];have h8:k / 8<bs.length:=by omega
  refine z2a 0 rfl hr (zaa h8) (z05 (by omega) (z03 [0] fun q hq=>⟨?_,hq⟩));rw[zfs (by show k%8≤8;omega)];have h1:bs[k / 8].toNat / 2^(k%8)<2^IntKind.u8.bits:=Nat.lt_of_le_of_lt (Nat.div_le_self _ _) bs[k / 8].toNat_lt;have:=(zdm (k :=.u8) (b:=1) rfl h1 (by decide)).1
  have e3:z37 .and .u8 ((bs[k / 8].toNat / 2^(k%8):Nat):Int) (1:Int)=((bs[k / 8].toNat / 2^(k%8)%2:Nat):Int):=by
   rw[←Nat.and_one_is_mod];exact this
  rw[e3];unfold z0y;rw[Int.toNat_natCast,List.getElem?_eq_getElem h8];simp only[Nat.testBit_eq_decide_div_mod_eq,Int.natCast_nonneg,decide_true,Bool.true_and];congr 1;apply propext;omega
 ·refine z05 (by simp;omega) (z03 [0] fun q hq=>⟨?_,hq⟩);by_cases h0:0≤i
  ·have:z0y bs i.toNat=false:=by
    cases hg:z0y bs i.toNat with
    | false=>rfl
    | true=>have:=z11v hg;omega
   simp[this]
  ·simp[h0]
theorem zx4(hr:RdC T s 1 (bytesOf bs))(hb:bs.length≤512)(i:Nat):Tri (z00 [T]) (F_0o N s (i:Int)) fun r=>pu (r=z0y bs i) (z00 [T]):=
 (zty hr hb i).post fun r q hq=>⟨by rw[hq.1];simp,hq.2⟩
theorem znb(hlen:s.len=bs.length)(hb:bs.length≤512){lo hi:Nat}(h2:hi≤8 * bs.length):F_1i N s (lo:Int) (hi:Int)=ret ((lo:Int),(hi:Int)):=by
 unfold F_1i;rw[hlen,z09 (by omega) (by omega),if_neg (by omega),if_neg (by omega)]
theorem zh4(hr:RdC T s 1 (bytesOf bs))(hb:bs.length≤512){lo hi:Nat}(h1:lo≤hi)(h2:hi≤8 * bs.length)(hN:5000<N):Tri (z00 [T]) (F_1j N s (lo:Int) (hi:Int)) fun r=>pu (r=(z6g bs lo hi:Nat)) (z00 [T]):=by
 have hlen:=z4m hr;unfold F_1j;rw[znb hlen hb h2];refine z0j ?_;have loop:∀(K j n:Nat),hi - j<K→lo≤j→j≤hi→n=z6g bs lo j→Tri (z00 [T]) (z0e K (F_52 N s ((lo:Int),(hi:Int))) ((n:Int),(j:Int))) fun r=>pu (r=(z6g bs lo hi:Nat)) (z00 [T]):=by
  intro K;induction K with
  | zero=>intro j n h;omega
  | succ K ih=>
   intro j n h hl hj hn;rw[z13];unfold F_52;have hle:z6g bs lo j≤j - lo:=Nat.le_trans (List.length_filter_le _ _) (by simp);by_cases hjk:j<hi
   ·refine z07 (by simp;omega) ?_;refine z02 [0] (zx4 hr hb j) fun r=>z04 fun hr'=>z01 ?_;dsimp only[sel,rem,nth,del,cat,upd];subst hr';have e:z6g bs lo (j+1)=z6g bs lo j+if z0y bs j then 1 else 0:=by
     unfold z6g;rw[show j+1 - lo=(j - lo)+1 by omega,List.range'_concat,List.filter_append,List.length_append];congr 1;rw[show lo+1 * (j - lo)=j by omega];cases hgb:z0y bs j<;>simp[hgb]
    rw[z09 (n:=(n:Int)+1) (by omega) (by omega),z09 (n:=(j:Int)+1) (by omega) (by omega)];cases hg:z0y bs j
    ·refine z02 [0] (Q:=fun r=>pu (r=(n:Int)) (z00 [T])) (z05 (by simp) (z1m fun q hq=>⟨rfl,hq⟩)) fun r=>z04 fun hr'=>z01 ?_;subst hr';refine ih (j+1) n (by omega) (by omega) (by omega) ?_;rw[e,hg,hn];simp
    ·refine z02 [0] (Q:=fun r=>pu (r=((n+1:Nat):Int)) (z00 [T])) (z07 rfl (z1m fun q hq=>⟨by simp,hq⟩)) fun r=>z04 fun hr'=>z01 ?_;subst hr';refine ih (j+1) (n+1) (by omega) (by omega) (by omega) ?_;rw[e,hg,hn];simp
   ·obtain rfl:j=hi:=by omega
    refine z05 (by simp) (z1m fun q hq=>⟨?_,hq⟩);rw[hn]
 refine z02 [0] ((loop N lo 0 (by omega) (by omega) h1 (by simp[z6g])).pre fun q hq=>hq) fun r=>z04 fun hr=>z01 (z03 [0] fun q hq=>⟨hr,hq⟩)
theorem znc(hr:RdC T s 1 (bytesOf bs))(hb:bs.length≤512){lo hi:Nat}(h1:lo≤hi)(h2:hi≤8 * bs.length)(on:Bool)(hN:5000<N) :
  Tri (z00 [T]) (F_2t N s (lo:Int) (hi:Int) on) fun r=>pu (r=match z6m bs lo hi on with | some i=>((i:Int),true) | none=>(0,false)) (z00 [T]):=by
 have hlen:=z4m hr;unfold F_2t;rw[znb hlen hb h2];refine z0j ?_;have loop:∀(K j:Nat),hi - j<K→lo≤j→j≤hi→z6m bs lo hi on=z6m bs j hi on→Tri (z00 [T]) (z0e K (F_5d N s on ((lo:Int),(hi:Int))) (j:Int)) fun r=>pu (r=match z6m bs lo hi on with | some i =>.inr ((i:Int),true) | none =>.inl ()) (z00 [T]):=by
  intro K;induction K with
  | zero=>intro j h;omega
  | succ K ih=>
   intro j h hl hj he;rw[z13];unfold F_5d;by_cases hjk:j<hi
   ·refine z07 (by simp;omega) ?_;refine z02 [0] (zx4 hr hb j) fun r=>z04 fun hr'=>z01 ?_;dsimp only[sel,rem,nth,del,cat,upd];subst hr';have e:z6m bs j hi on=if z0y bs j==on then some j else z6m bs (j+1) hi on:=by
     unfold z6m;rw[show hi - j=(hi - (j+1))+1 by omega,List.range'_succ,List.find?_cons];cases (z0y bs j==on)<;>rfl
    by_cases hg:(z0y bs j==on)=true
    ·refine z07 hg (z1m fun q hq=>⟨?_,hq⟩);rw[he,e,if_pos hg]
    ·refine z05 hg ?_;rw[z09 (by omega) (by omega)];refine ih (j+1) (by omega) (by omega) (by omega) ?_;rw[he,e,if_neg hg]
   ·obtain rfl:j=hi:=by omega
    refine z05 (by simp) (z1m fun q hq=>⟨?_,hq⟩);rw[he];simp[z6m]
 refine z02 [0] ((loop N lo (by omega) (by omega) h1 rfl).pre fun q hq=>hq) fun r=>z04 fun hr=>z01 ?_;subst hr;cases z6m bs lo hi on with
 | none=>exact z03 [0] fun q hq=>⟨rfl,hq⟩
 | some i=>exact z03 [0] fun q hq=>⟨rfl,hq⟩
theorem z127(hr:RdC T s 1 (bytesOf bs))(hb:bs.length≤512){i:Nat}(hi:i<8 * bs.length)(on:Bool):Tri (z00 [T]) (F_2u N s (i:Int) on) fun r=>pu (r.2=0) (z00 [z06 r.1 1 (bytesOf (z1x bs i on)),T]):=by
 have hlen:=z4m hr;unfold F_2u;rw[hlen];have e8:(8:Int) * (bs.length:Int)=((8 * bs.length:Nat):Int):=by simp
 rw[e8,z09 (n:=((8 * bs.length:Nat):Int)) (by omega) (by omega)];refine z05 (by simp;omega) (z05 (by simp;omega) ?_);have h8:i / 8<bs.length:=by omega
 refine Tri.pre ?_ (A:=z00 [T]) (B:=z00 [z06 ⟨none,0⟩ 1 [],T]) fun q hq=>z2h (fun q h =>.nil 1 h) hq;refine z02 [0,0] (z3a hr (by omega) (bytes_cell _) (by
  have:most=70368744177664:=rfl
  dsimp only;omega)) fun l4=>z01 ?_
 dsimp only[sel,rem,nth,del,cat,upd];rw[List.nil_append];refine z93 0 rfl (fun h1 h2=>?_) fun b ln h1 h2=>?_
 ·have:=congrArg List.length h2
  rw[z0d,List.length_nil]at this;omega
 subst h1;rw[z0d,Nat.mul_one]at h2;dsimp only[sel,rem,nth,del,cat,upd];have e1:(i:Int).tdiv 8=((i / 8:Nat):Int):=rfl;have e2:(i:Int).tmod 8=((i%8:Nat):Int):=rfl;rw[e1,e2,z09 (by omega) (by omega)];refine z2l (by omega) (tri_ldI 0 rfl (by rw[Nat.zero_add,Nat.mul_one];exact zaa h8) ?_);refine z05 (by omega) ?_;refine z2l (by omega) (z21 0 rfl (by rw[z0d];omega) rfl ?_);obtain⟨m,k1,k2,k3,k4,k5⟩:=zna bs[i / 8] (show i%8<8 by omega);rw[k1,Nat.zero_add,Nat.mul_one];dsimp only[sel,rem,nth,del,cat,upd];have hset:∀x:Nat,x<256→(bytesOf bs).set (i / 8) (.int .u8 (x:Int))=bytesOf (bs.set (i / 8) (UInt8.ofNat x)):=by
  intro x hx;unfold bytesOf;rw[List.map_set];congr 2;rw[UInt8.toNat_ofNat_of_lt' (by simpa using hx)]
 have fin:∀x:Nat,x<256→UInt8.ofNat x=zjs bs[i / 8] (i%8) on→Tri (z00 [pts b (.cells ((bytesOf bs).set (i / 8) (.int .u8 (x:Int))) false),T]) (ret (((⟨some ⟨b,0⟩,ln⟩:Sl),(0:Int)))) fun r=>pu (r.2=0) (z00 [z06 r.1 1 (bytesOf (z1x bs i on)),T]):=by
  intro x hx he;rw[hset x hx,he];refine z1m fun q hq=>⟨rfl,?_⟩;unfold z1x;rw[List.getElem?_eq_getElem h8];exact z4r (.cons (fun _ k =>.mk (by rw[z0d];simpa using h2) k) (.cons (fun _ k=>k) .nil)) q hq
 cases on with
 | false=>
  refine z02 [0,0] (Q:=fun _=>z00 [pts b (.cells ((bytesOf bs).set (i / 8) (.int .u8 (m:Int))) false),T]) (z05 (by simp) (z1m fun q hq=>hq)) fun _=>z01 ?_;dsimp only[sel,rem,nth,del,cat,upd];refine fin m k2 ?_;unfold zjs;rw[k1];simp
 | true=>
  refine z02 [0,0] (Q:=fun _=>z00 [pts b (.cells ((bytesOf bs).set (i / 8) (.int .u8 ((m ||| 2^(i%8):Nat):Int))) false),T]) ?_ fun _=>z01 ?_
  ·refine z07 rfl ?_;refine z2l (by omega) (tri_ldI 0 rfl (v:=(m:Int)) (by rw[Nat.zero_add,Nat.mul_one,List.getElem?_set,if_pos rfl,if_pos (by rw[z0d];omega)]) ?_);refine z05 (by omega) ?_;refine z2l (by omega) (z21 0 rfl (by rw[List.length_set,z0d];omega) rfl ?_);rw[k3,Nat.zero_add,Nat.mul_one,List.set_set];exact z1m fun q hq=>hq
  ·dsimp only[sel,rem,nth,del,cat,upd];refine fin _ k4 ?_;unfold zjs;rw[k1];simp only[if_true];rw[k3,Int.toNat_natCast]
end
abbrev Row:=Nat×Nat
def zlh(r:Row):List MV:=[.int .u16 r.1,.int .i64 r.2]
abbrev z1t(rs:List Row):List MV:=z0x zlh rs
theorem z2e(r:Row):(zlh r).length=2:=rfl
theorem zj0(r:Row):(zlh r).all z10=true:=rfl
structure RowsOk(rs:List Row):Prop where
 len:rs.length=16
 rng:∀r∈rs,r.1<65536∧r.2≤65535
 zero:∀r∈rs,r.2=0→r.1=0
 dist:∀(i j:Nat)(hi:i<rs.length)(hj:j<rs.length),0<rs[i].2→0<rs[j].2→rs[i].1=rs[j].1→i=j
section
variable{N:Nat}{β:Type}{l:List HA}{S:β→HA}{T:HA}{s:Sl}{rs:List Row}
theorem zay(hr:RdC T s 2 (z1t rs)):s.len=rs.length:=by
 have:=hr.1
 rw[z0u z2e]at this;omega
theorem zjt(n:Nat)(hl:l[n]? = some T)(hr:RdC T s 2 (z1t rs)){i:Nat}(hi:i<rs.length){f:Int×Int→M β}(kk:Tri (z00 l) (f ((rs[i].1:Int),(rs[i].2:Int))) S):Tri (z00 l) (bd (idx 2 s (i:Int)) fun q=>bd (z4f [.int .u16,.int .i64] q) f) S:=
 zop (ts:=[.int .u16,.int .i64]) n hl hr (by rw[zay hr];exact hi) (x:=((rs[i].1:Int),(rs[i].2:Int))) (by
  have:=zdo z2e hi
  show HC.dec _ (((z1t rs).drop (i * 2)).take 2)=_;rw[this];rfl) kk
theorem z86(ok:RowsOk rs)(hr:RdC T s 2 (z1t rs))(hN:100<N):Tri (z00 [T]) (F_08 N s) fun r=>pu (r=true) (z00 [T]):=by
 have hlen:=zay hr;have h16:=ok.len;unfold F_08;refine z05 (by simp[hlen,h16]) ?_;refine z123 .u16 fun m=>?_;have loop:∀(K j:Nat)(kvs:List (Int×MV)),rs.length - j<K→j≤rs.length→(∀k:Int,z6t kvs k=none∨(z6t kvs k=some (.bool true)∧∃(i:Nat)(hi:i<rs.length),i<j∧0<rs[i].2∧(rs[i].1:Int)=k)) →
   Tri (z00 [z65 .u16 m kvs,T]) (z0e K (F_4x N s (some m)) (j:Int)) fun r=>pu (r=.inl ()) (z00 [T]):=by
  intro K;induction K with
  | zero=>intro j kvs h;omega
  | succ K ih=>
   intro j kvs h hj hk;rw[z13];unfold F_4x;by_cases hjl:j<rs.length
   ·refine z07 (by simp[hlen];omega) ?_;refine zjt 1 rfl hr hjl ?_;have hm:=List.getElem_mem hjl;have h1:=ok.rng _ hm;by_cases hz:rs[j].2=0
    ·have hz1:=ok.zero _ hm hz;refine z02 [0,0] (Q:=fun r=>pu (r=.inl ()) (z00 [z65 .u16 m kvs,T])) ?_ fun r=>z04 fun hr'=>z01 ?_
     ·refine z07 (by simp[hz]) (z05 (by simp[hz1]) (z1m fun q hq=>⟨rfl,hq⟩))
     ·subst hr';dsimp only;rw[z09 (by omega) (by omega)];exact ih (j+1) kvs (by omega) (by omega) fun k=>(hk k).imp id fun ⟨a,i,hi,b,c⟩=>⟨a,i,hi,by omega,c⟩
    ·have hno:z6t kvs (rs[j].1:Int)=none:=by
      rcases hk (rs[j].1:Int)with h0 | ⟨_,i,hi,h2,h3,h4⟩
      ·exact h0
      ·have:=ok.dist i j hi hjl h3 (by omega) (by omega)
       omega
     refine z02 [0,0] (Q:=fun r=>pu (r=.inl ()) (z00 [z65 .u16 m (z6u kvs rs[j].1 (.bool true)),T])) ?_ fun r=>z04 fun hr'=>z01 ?_
     ·refine z05 (by simp;omega) ?_;refine z02 [0,0] (Q:=fun r=>pu (r=false) (z00 [z65 .u16 m kvs,T])) ?_ fun r=>z04 fun hr'=>z01 ?_
      ·refine z07 (by simp;omega) ?_;refine ztx 0 rfl _ ?_;rw[hno];refine z4j ?_;exact z03 [0,0] fun q hq=>⟨rfl,hq⟩
      ·dsimp only[sel,rem,nth,del,cat,upd];subst hr';refine z05 (by simp) ?_;refine zx3 0 rfl _ _ ?_;exact z03 [0,0] fun q hq=>⟨rfl,hq⟩
     ·subst hr';dsimp only;rw[z09 (by omega) (by omega)];refine ih (j+1) _ (by omega) (by omega) fun k=>?_;rw[zlf];by_cases hkj:k=(rs[j].1:Int)
      ·rw[if_pos hkj];exact .inr ⟨rfl,j,hjl,by omega,by omega,hkj.symm⟩
      ·rw[if_neg hkj];exact(hk k).imp id fun ⟨a,i,hi,b,c⟩=>⟨a,i,hi,by omega,c⟩
   ·obtain rfl:j=rs.length:=by omega
    refine z05 (by simp[hlen]) (z03 [1] fun q hq=>⟨rfl,?_⟩);exact hq
 refine z02 [0,0] ((loop N 0 [] (by omega) (by omega) fun k =>.inl rfl).pre fun q hq=>hq) fun r=>z04 fun hr'=>z01 ?_;subst hr';exact z03 [0] fun q hq=>⟨rfl,hq⟩
def z3z(a:Nat)(r:Row):Bool:=decide (0<r.2)&&decide (r.1=a)
def zg0(r:Row):Bool:=decide (r.2=0)
theorem ztz{a:Nat}(ha:a<65536)(hr:RdC T s 2 (z1t rs))(hl:rs.length=16)(hN:100<N):Tri (z00 [T]) (F_1m N s (a:Int)) fun r=>pu (r=fi (z3z a) rs) (z00 [T]):=by
 have hlen:=zay hr;unfold F_1m;refine z5e (g:=fun b=>some ⟨b,0⟩) (x :=.cells [.int .u16 a] false) (fun h'=>rfl) fun b=>?_;unfold F_4g F_4f;refine z02 [0,0] (Q:=fun r=>pu (r=fi (z3z a) rs) (z00 [pts b (.cells [.int .u16 a] false),T])) ?_ fun r=>z04 fun h=>z01 (z03 [1] fun q hq=>⟨h,hq⟩);refine z02 [0,0] (ze7 (A:=z00 [pts b (.cells [.int .u16 a] false),T]) (z3z a) rs (by omega) (fun rec i hi Q k=>?_) fun rec Q k=>?_) fun r=>z04 fun h=>z01 (z03 [0,0] fun q hq=>⟨h,hq⟩)
 ·unfold F_5b;refine z07 (by simp[hlen];omega) ?_;refine zjt 1 rfl hr hi ?_;refine z02 [0,0] (Q:=fun r=>pu (r=z3z a rs[i]) (z00 [pts b (.cells [.int .u16 a] false),T])) ?_ fun r=>z04 fun hr'=>z01 ?_
  ·unfold F_4e z3z;refine z02 [0,0] (Q:=fun r=>pu (r=(decide (0<rs[i].2)&&decide (rs[i].1=a))) (z00 [pts b (.cells [.int .u16 a] false),T])) ?_ fun r=>z04 fun hr'=>z01 (z03 [0,0] fun q hq=>⟨hr',hq⟩);by_cases h0:0<rs[i].2
   ·refine z07 (by simpa using h0) (tri_ldI 0 rfl rfl (z03 [0,0] fun q hq=>⟨?_,hq⟩));simp only[h0,decide_true,Bool.true_and];congr 1;apply propext;omega
   ·refine z05 (by simpa using h0) (z03 [0,0] fun q hq=>⟨by simp[h0],hq⟩)
  ·subst hr';rw[z09 (by omega) (by omega)];exact k
 ·unfold F_5b;refine z05 (by simp[hlen]) k
theorem zyu(hr:RdC T s 2 (z1t rs))(hl:rs.length=16)(hN:100<N):Tri (z00 [T]) (F_2q N s ()) fun r=>pu (r=fi zg0 rs) (z00 [T]):=by
 have hlen:=zay hr;unfold F_2q F_4i;refine z02 [0] (ze7 (A:=z00 [T]) zg0 rs (by omega) (fun rec i hi Q k=>?_) fun rec Q k=>?_) fun r=>z04 fun h=>z01 (z03 [0] fun q hq=>⟨h,hq⟩)
 ·unfold F_5c;refine z07 (by simp[hlen];omega) ?_;refine zjt 0 rfl hr hi ?_;unfold F_4h;refine z0j ?_;rw[z09 (by omega) (by omega)];have:(decide ((rs[i].2:Int)=0))=zg0 rs[i]:=by
   unfold zg0;congr 1;apply propext;omega
  rw[this];exact k
 ·unfold F_5c;refine z05 (by simp[hlen]) k
theorem zyv{a:Nat}(ha:a<65536)(ok:RowsOk rs)(hr:RdC T s 2 (z1t rs))(hN:100<N):Tri (z00 [T]) (F_2s N s (a:Int)) fun r=>pu (r=match rs.findIdx? (z3z a)with | some i=>((i:Int),true) | none=>(0,false)) (z00 [T]):=by
 unfold F_2s;refine z02 [0] (ztz ha hr ok.len hN) fun r=>z04 fun h=>z01 ?_;subst h;dsimp only[sel,rem,nth,del,cat,upd];cases hx:rs.findIdx? (z3z a)with
 | none=>
  rw[zfx hx];refine z02 [0] (Q:=fun c=>pu (c=true) (z00 [T])) (z05 (by simp) (z1m fun q hq=>⟨rfl,hq⟩)) fun c=>z04 fun hc=>z01 ?_;subst hc;exact z07 rfl (z03 [0] fun q hq=>⟨rfl,hq⟩)
 | some i=>
  rw[zfy hx];refine z02 [0] (Q:=fun c=>pu (c=false) (z00 [T])) (z07 (by simp) (z02 [0] (z86 ok hr hN) fun r=>z04 fun h=>z01 (z03 [0] fun q hq=>⟨by rw[h];rfl,hq⟩))) fun c=>z04 fun hc=>z01 ?_;subst hc;exact z05 (by simp) (z03 [0] fun q hq=>⟨rfl,hq⟩)
theorem zh5(hr:RdC T s 2 (z1t rs))(hl:rs.length=16){i:Nat}(hi:i<16)(a n:Nat):Tri (z00 [T]) (F_0v N s (i:Int) ((a:Int),(n:Int))) fun r=>z00 [z06 r 2 (z1t (rs.set i (a,n))),T]:=by
 have hlen:=zay hr;unfold F_0v;refine z5e (g:=fun b=>(⟨some ⟨b,0⟩,16⟩:Sl)) (x :=.cells (z1t (List.replicate 16 (0,0))) false) (fun h'=>?_) fun b=>?_
 ·unfold mkSl;rw[hlen,hl,if_pos ⟨by omega,by omega,by have:most=70368744177664:=rfl;omega,rfl⟩];rfl
 ·refine z02 [0,0] (zdn (o:=0) (k:=16) hr (by rw[z0u z2e];simp) (zeu zj0 _) (by omega)) fun r=>z04 fun h=>z01 ?_;dsimp only[sel,rem,nth,del,cat,upd];have e1:z11 (z1t (List.replicate 16 (0,0))) 0 ((z1t rs).take (min s.len 16 * 2))=z1t rs:=by
   rw[hlen,hl,List.take_of_length_le (by rw[z0u z2e,hl];exact Nat.le_refl _)];unfold z11;rw[List.drop_of_length_le (by rw[z0u z2e,z0u z2e,hl];simp)];simp
  rw[e1];refine z2l hi (z50 0 rfl rfl (by rw[z0u z2e,hl];simp;omega) rfl ?_);refine z03 [0,0] fun q hq=>?_;have e2:z11 (z1t rs) (0+i * 2) [MV.int .u16 (a:Int),MV.int .i64 (n:Int)]=z1t (rs.set i (a,n)):=by
   rw[Nat.zero_add];exact zlg z2e (by omega) (a,n)
  rw[e2]at hq;exact z4r (.cons (fun _ k =>.mk (by rw[z0u z2e];simp[hl]) k) (.cons (fun _ k=>k) .nil)) q hq
def zbp(rs:List Row)(a:Nat):Option Nat:=match rs.findIdx? (z3z a)with
 | some i=>some i
 | none=>rs.findIdx? zg0
def z1a(rs:List Row)(i:Nat):Row:=rs[i]?.getD (0,0)
def z3w(rs:List Row)(a:Nat):Int:=match zbp rs a with
 | none=>5
 | some i=>if(z1a rs i).2=65535 then 4 else 0
def z3x(rs:List Row)(a:Nat):Nat:=(zbp rs a).getD 0
def z99(rs:List Row)(a:Nat):List Row:=rs.set (z3x rs a) (a,(z1a rs (z3x rs a)).2+1)
theorem zx5{a i:Nat}(h:zbp rs a=some i):i<rs.length:=by
 unfold zbp at h;split at h
 ·rename_i j hj;cases h;exact(List.findIdx?_eq_some_iff_getElem.1 hj).1
 ·exact(List.findIdx?_eq_some_iff_getElem.1 h).1
theorem zko{a:Nat}(ha:a<65536)(ok:RowsOk rs)(hr:RdC T s 2 (z1t rs))(hN:100<N):Tri (z00 [T]) (F_1n N s (a:Int)) fun r=>pu (r.2.2=z3w rs a∧(z3w rs a=0→r.2.1=(z3x rs a:Nat)∧z3x rs a<16)) (z00 [if z3w rs a=0 then z06 r.1 2 (z1t (z99 rs a))else emp,T]):=by
 have hlen:=zay hr;have h16:=ok.len;unfold F_1n;refine z02 [0] (z86 ok hr hN) fun r=>z04 fun h=>z01 ?_;subst h;dsimp only[sel,rem,nth,del,cat,upd];refine z05 (by simp) ?_;refine z02 [0] (ztz ha hr ok.len hN) fun r=>z04 fun h=>z01 ?_;subst h;dsimp only[sel,rem,nth,del,cat,upd];refine z02 [0] (Q:=fun r=>pu (r=match zbp rs a with | some i=>(i:Int) | none => -1) (z00 [T])) ?_ fun j=>z04 fun hj=>z01 ?_
 ·cases hx:rs.findIdx? (z3z a)with
  | none=>
   rw[zfx hx];refine z07 (by simp) (z02 [0] (zyu hr ok.len hN) fun r=>z04 fun h=>z01 (z03 [0] fun q hq=>⟨?_,hq⟩));rw[h];unfold zbp fi;rw[hx];rfl
  | some i=>
   rw[zfy hx];refine z05 (by simp) (z03 [0] fun q hq=>⟨?_,hq⟩);unfold zbp;rw[hx]
 ·dsimp only[sel,rem,nth,del,cat,upd];cases hx:zbp rs a with
  | none=>
   rw[hx]at hj;subst hj;have hE:z3w rs a=5:=by unfold z3w;rw[hx]
   refine z07 (by simp) (z03 [0] fun q hq=>⟨⟨hE.symm,fun c=>by rw[hE]at c;cases c⟩,?_⟩);rw[if_neg (by rw[hE];decide)];exact z2h (fun _ h=>h) hq
  | some i=>
   rw[hx]at hj;subst hj;have hi:=zx5 hx;have hrow:z1a rs i=rs[i]:=by simp[z1a,hi]
   have hI:z3x rs a=i:=by unfold z3x;rw[hx];rfl
   have hb:=(ok.rng _ (List.getElem_mem hi)).2;refine z05 (by simp) ?_;have hg:(z1t rs)[i * 2+1]? = some (.int .i64 (rs[i].2:Int)):=by rw[z3l z2e hi (by omega)];rfl
   refine z7a 0 rfl hr (by omega) (by omega) hg ?_;by_cases hf:rs[i].2=65535
   ·have hE:z3w rs a=4:=by unfold z3w;rw[hx];simp only[hrow,hf,if_true]
    refine z07 (by simp[hf]) (z03 [0] fun q hq=>⟨⟨hE.symm,fun c=>by rw[hE]at c;cases c⟩,?_⟩);rw[if_neg (by rw[hE];decide)];exact z2h (fun _ h=>h) hq
   ·have hE:z3w rs a=0:=by unfold z3w;rw[hx];simp only[hrow,hf,if_false]
    refine z05 (by simp;omega) ?_;refine z7a 0 rfl hr (by omega) (by omega) hg ?_;rw[z09 (by omega) (by omega)];have e:((rs[i].2:Int)+1)=((rs[i].2+1:Nat):Int):=by simp
    rw[e];refine z02 [0] (zh5 hr ok.len (by omega) a (rs[i].2+1)) fun r=>z01 ?_;refine z03 [0,0] fun q hq=>⟨⟨hE.symm,fun _=>⟨by rw[hI],by omega⟩⟩,?_⟩;rw[if_pos hE];unfold z99;rw[hI,hrow];exact hq
def zbq(rs:List Row)(i:Nat):List Row:=rs.set i (if(z1a rs i).2=1 then(0,0)else((z1a rs i).1,(z1a rs i).2 - 1))
theorem zu0(ok:RowsOk rs)(hr:RdC T s 2 (z1t rs)){i:Nat}(hi:i<16)(h0:0<(z1a rs i).2)(hN:100<N):Tri (z00 [T]) (F_32 N s (i:Int)) fun r=>pu (r.2=0) (z00 [z06 r.1 2 (z1t (zbq rs i)),T]):=by
 have hlen:=zay hr;have h16:=ok.len;have hil:i<rs.length:=by omega
 have hrow:z1a rs i=rs[i]:=by simp[z1a,hil]
 rw[hrow]at h0;have hb:=(ok.rng _ (List.getElem_mem hil)).2;unfold F_32;refine z02 [0] (z86 ok hr hN) fun r=>z04 fun h=>z01 ?_;subst h;dsimp only[sel,rem,nth,del,cat,upd];refine z05 (by simp[hlen];omega) ?_;have hg:(z1t rs)[i * 2+1]? = some (.int .i64 (rs[i].2:Int)):=by rw[z3l z2e hil (by omega)];rfl
 have hg0:(z1t rs)[i * 2+0]? = some (.int .u16 (rs[i].1:Int)):=by rw[z3l z2e hil (by omega)];rfl
 refine z7a 0 rfl hr (by omega) (by omega) hg (z05 (by simp;omega) (z7a 0 rfl hr (by omega) (by omega) hg ?_));by_cases h1:rs[i].2=1
 ·refine z07 (by simp[h1]) ?_;refine z02 [0] (zh5 hr ok.len hi 0 0) fun r=>z01 (z03 [0,0] fun q hq=>⟨rfl,?_⟩);unfold zbq;rw[hrow,if_pos h1];exact hq
 ·refine z05 (by simp;omega) ?_;refine z7a 0 rfl hr (by omega) (by omega) hg0 (z7a 0 rfl hr (by omega) (by omega) hg ?_);rw[z09 (by omega) (by omega)];have e:((rs[i].2:Int) - 1)=((rs[i].2 - 1:Nat):Int):=by omega
  rw[e];refine z02 [0] (zh5 hr ok.len hi rs[i].1 (rs[i].2 - 1)) fun r=>z01 (z03 [0,0] fun q hq=>⟨rfl,?_⟩);unfold zbq;rw[hrow,if_neg h1];exact hq
end
end Go.Moat
