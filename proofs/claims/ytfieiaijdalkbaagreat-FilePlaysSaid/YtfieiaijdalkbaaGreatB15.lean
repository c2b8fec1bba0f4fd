/- The laws' own toolkit: bytes, numbers of a few bytes, bits. -/
import Derived.Test.YtfieiaijdalkbaaGreatMLW
namespace Go.Moat
open Go.Mini
theorem zes{k:IntKind}{n:Nat}(hs:k.signed=false)(h:n<2^k.bits):wr k (n:Int)=n:=by
 unfold wr IntKind.wrap;rw[hs];simp only[Bool.false_and,Bool.false_eq_true,if_false];have:(2:Int)^k.bits=((2^k.bits:Nat):Int):=by simp
 rw[this];exact Int.emod_eq_of_lt (by omega) (by omega)
theorem z11q{k:IntKind}{n:Nat}(hs:k.signed=false):wr k (n:Int)=((n%2^k.bits:Nat):Int):=by
 unfold wr IntKind.wrap;rw[hs];simp only[Bool.false_and,Bool.false_eq_true,if_false];have:(2:Int)^k.bits=((2^k.bits:Nat):Int):=by simp
 rw[this];rfl
theorem wrU{k:IntKind}{n:Int}(hs:k.signed=false)(h0:0≤n)(h:n<2^k.bits):wr k n=n:=by
 unfold wr IntKind.wrap;rw[hs];simp only[Bool.false_and,Bool.false_eq_true,if_false];exact Int.emod_eq_of_lt h0 h
theorem wr8{n:Int}(h0:0≤n)(h:n<256):wr .u8 n=n:=wrU rfl h0 h
theorem wr16{n:Int}(h0:0≤n)(h:n<65536):wr .u16 n=n:=wrU rfl h0 h
theorem wr32{n:Int}(h0:0≤n)(h:n<4294967296):wr .u32 n=n:=wrU rfl h0 h
theorem z6d{n:Int}(h0:0≤n)(h:n<18446744073709551616):wr .u64 n=n:=wrU rfl h0 h
theorem z11r{k:IntKind}(n:Int)(hs:k.signed=false):0≤wr k n∧wr k n<2^k.bits:=by
 unfold wr IntKind.wrap;rw[hs];simp only[Bool.false_and,Bool.false_eq_true,if_false];have h:(0:Int)<2^k.bits:=by
  have:(2:Int)^k.bits=((2^k.bits:Nat):Int):=by simp
  rw[this];have:=Nat.two_pow_pos k.bits
  omega
 exact⟨Int.emod_nonneg _ (by omega),Int.emod_lt_of_pos _ h⟩
theorem zdm{k:IntKind}(hs:k.signed=false){a b:Nat}(ha:a<2^k.bits)(hb:b<2^k.bits) :
  z37 .and k a b=((a &&& b:Nat):Int)∧z37 .or k a b=((a ||| b:Nat):Int)∧z37 .xor k a b=((a ^^^ b:Nat):Int):=by
 have e1:(BitVec.ofInt k.bits (a:Int)).toNat=a:=by rw[BitVec.ofInt_natCast,BitVec.toNat_ofNat,Nat.mod_eq_of_lt ha]
 have e2:(BitVec.ofInt k.bits (b:Int)).toNat=b:=by rw[BitVec.ofInt_natCast,BitVec.toNat_ofNat,Nat.mod_eq_of_lt hb]
 refine⟨?_,?_,?_⟩
 ·unfold z37;simp only[BitVec.toNat_and,e1,e2];exact zes hs (Nat.lt_of_le_of_lt Nat.and_le_left ha)
 ·unfold z37;simp only[BitVec.toNat_or,e1,e2];exact zes hs (Nat.or_lt_two_pow ha hb)
 ·unfold z37;simp only[BitVec.toNat_xor,e1,e2];exact zes hs (Nat.xor_lt_two_pow ha hb)
theorem zyn{k:IntKind}(hs:k.signed=false){a b:Nat}(ha:a<2^k.bits)(hb:b<2^k.bits) :
  ∃m:Nat,z37 .andNot k a b=(m:Int)∧m<2^k.bits∧∀i,m.testBit i=(a.testBit i && !b.testBit i):=by
 refine⟨(BitVec.ofNat k.bits a &&& ~~~ BitVec.ofNat k.bits b).toNat,?_,BitVec.isLt _,fun i=>?_⟩
 ·unfold z37;simp only[BitVec.ofInt_natCast];exact zes hs (BitVec.isLt _)
 ·by_cases hi:i<k.bits
  ·rw[BitVec.testBit_toNat];simp only[BitVec.getLsbD_and,BitVec.getLsbD_not,BitVec.getLsbD_ofNat,hi,decide_true,Bool.true_and]
  ·have h1:(2:Nat)^k.bits≤2^i:=Nat.pow_le_pow_right (by omega) (by omega);rw[Nat.testBit_lt_two_pow (Nat.lt_of_lt_of_le (BitVec.isLt _) h1),Nat.testBit_lt_two_pow (Nat.lt_of_lt_of_le ha h1)];rfl
theorem zfs{k:IntKind}{a j:Nat}(hj:j≤k.bits):zbc k (a:Int) (j:Int)=((a / 2^j:Nat):Int):=by
 unfold zbc;rw[Int.toNat_natCast,Nat.min_eq_left hj];have:(2:Int)^j=((2^j:Nat):Int):=by simp
 rw[this,Int.fdiv_eq_ediv_of_nonneg _ (Int.natCast_nonneg _)];rfl
theorem zoj{k:IntKind}(hs:k.signed=false){a j:Nat}(hj:j≤k.bits)(h:a * 2^j<2^k.bits):z75 k (a:Int) (j:Int)=((a * 2^j:Nat):Int):=by
 unfold z75;rw[Int.toNat_natCast,Nat.min_eq_left hj];have:(a:Int) * 2^j=((a * 2^j:Nat):Int):=by simp
 rw[this];exact zes hs h
theorem z11s{a b j:Nat}(h:a<2^j):a ||| b * 2^j=a+b * 2^j:=by
 rw[Nat.or_comm,Nat.mul_comm b,←Nat.two_pow_add_eq_or_of_lt h,Nat.add_comm]
def le:Nat→Nat→List UInt8
 | 0,_=>[]
 | k+1,n=>UInt8.ofNat (n%256)::le k (n / 256)
def leN:List UInt8→Nat
 | []=>0
 | b::r=>b.toNat+256 * leN r
theorem z2i:∀(k n:Nat),(le k n).length=k
 | 0,_=>rfl
 | k+1,n=>congrArg (· + 1) (z2i k _)
theorem ze2:∀(k n:Nat),leN (le k n)=n%256^k
 | 0,n=>by simp[le,leN,Nat.mod_one]
 | k+1,n=>by
  simp only[le,leN,ze2 k];have:(UInt8.ofNat (n%256)).toNat=n%256:=by simp
  rw[this,Nat.pow_succ,Nat.mul_comm (256^k) 256,Nat.mod_mul]
theorem z11t:∀(l:List UInt8),leN l<256^l.length
 | []=>by simp[leN]
 | b::r=>by
  have ih:=z11t r;have hb:b.toNat<256:=b.toNat_lt;simp only[leN,List.length_cons,Nat.pow_succ];omega
theorem z11u(j:Nat):∀(i n:Nat),le (i+j) n=le i n++le j (n / 256^i)
 | 0,n=>by simp[le]
 | i+1,n=>by
  rw[show i+1+j=(i+j)+1 by omega];simp only[le,List.cons_append];rw[z11u j i,Nat.div_div_eq_div_mul,Nat.pow_succ,Nat.mul_comm]
theorem z159(l:List UInt8)(b:UInt8):leN (l++[b])=leN l+b.toNat * 256^l.length:=by
 induction l with
 | nil=>simp[leN]
 | cons a r ih=>
  simp only[List.cons_append,leN,ih,List.length_cons,Nat.pow_succ];have:256 * (leN r+b.toNat * 256^r.length)=256 * leN r+b.toNat * (256^r.length * 256):=by
   rw[Nat.mul_add];congr 1;rw[Nat.mul_left_comm,Nat.mul_comm 256]
  omega
theorem zft(i:Nat):(256:Nat)^i=2^(8 * i):=by
 rw[Nat.pow_mul]
def z1q(ns:List Nat):List MV:=ns.map fun(n:Nat) =>.int .u64 n
theorem z45(ns:List Nat):(z1q ns).length=ns.length:=by simp[z1q]
theorem zcd(a b:List UInt8):bytesOf (a++b)=bytesOf a++bytesOf b:=by simp[bytesOf]
theorem zaa{bs:List UInt8}{i:Nat}(h:i<bs.length):(bytesOf bs)[i]? = some (.int .u8 bs[i].toNat):=by simp[bytesOf,h]
theorem zgw(bs:List UInt8)(n:Nat):(bytesOf bs).take n=bytesOf (bs.take n):=by simp[bytesOf]
theorem zyo(bs:List UInt8)(n:Nat):(bytesOf bs).drop n=bytesOf (bs.drop n):=by simp[bytesOf]
theorem zvn(n:Nat):z0t n [MV.int .u8 (0:Int)]=bytesOf (List.replicate n 0):=by
 rw[ze5];simp[bytesOf]
theorem zgx(ds vs:List UInt8)(o:Nat):z11 (bytesOf ds) o (bytesOf vs)=bytesOf (ds.take o++vs++ds.drop (o+vs.length)):=by
 unfold z11;simp[bytesOf]
theorem z15a{cs vs ws:List MV}{o:Nat}(h:o+vs.length+ws.length≤cs.length):z11 (z11 cs o vs) (o+vs.length) ws=z11 cs o (vs++ws):=by
 have hA:(cs.take o++vs).length=o+vs.length:=by
  rw[List.length_append,List.length_take];omega
 unfold z11;rw[List.take_left' hA,←hA,List.drop_length_add_append,List.drop_drop,hA,List.length_append,Nat.add_assoc];simp
def z0y(bs:List UInt8)(i:Nat):Bool:=match bs[i / 8]? with
 | some b=>b.toNat.testBit (i%8)
 | none=>false
theorem z11v{bs:List UInt8}{i:Nat}(h:z0y bs i=true):i<8 * bs.length:=by
 unfold z0y at h;split at h
 ·rename_i b hb;have:=(List.getElem?_eq_some_iff.1 hb).1
  omega
 ·cases h
end Go.Moat
