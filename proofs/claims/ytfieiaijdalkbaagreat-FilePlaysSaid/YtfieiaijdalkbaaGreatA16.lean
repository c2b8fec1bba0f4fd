/- Layer 16: acts as they come in. -/
import Derived.Test.YtfieiaijdalkbaaGreatP16zo
import Derived.Test.YtfieiaijdalkbaaGreatMY
namespace Go.Moat
open Go.Mini
def zd7:List CTy:=[.int .u8,.int .u8,.int .i64,.int .i64,.sl 1]
theorem zuz{n:Int}(h:(MV.int .u8 n).has):∃k:Nat,n=k∧k<256:=by
 have h4:IntKind.u8.has n:=h;simp[IntKind.has,IntKind.min,IntKind.max,IntKind.signed,IntKind.bits]at h4;exact⟨n.toNat,by omega,by omega⟩
theorem zxf{n:Int}(h:(MV.int .i64 n).has) : -9223372036854775808≤n∧n<9223372036854775808:=by
 have h4:IntKind.i64.has n:=h;simp[IntKind.has,IntKind.min,IntKind.max,IntKind.signed,IntKind.bits]at h4;omega
theorem z18s{T:HA}(x:HC zd7)(h1:∀m∈HC.enc zd7 x,m.has)(h2:∀p ln,MV.sl p ln 1∈HC.enc zd7 x→∃bs:List UInt8,RdC T ⟨p,ln⟩ 1 (bytesOf bs)):∃A:ActS,zb4 A=HC.enc zd7 x∧ActIn T A:=by
 obtain⟨k,f,at_,n,b⟩:=x;have hm:∀m∈([.int .u8 k,.int .u8 f,.int .i64 at_,.int .i64 n,.sl b.p b.len 1]:List MV),m.has:=h1;obtain⟨k',e1,b1⟩:=zuz (hm (.int .u8 k) (by simp));obtain⟨f',e2,b2⟩:=zuz (hm (.int .u8 f) (by simp));have b3:=zxf (hm (.int .i64 at_) (by simp));have b4:=zxf (hm (.int .i64 n) (by simp));obtain⟨bs,hbs⟩:=h2 b.p b.len (by
  show MV.sl b.p b.len 1∈([.int .u8 k,.int .u8 f,.int .i64 at_,.int .i64 n,.sl b.p b.len 1]:List MV);simp)
 refine⟨⟨k',f',at_,n,b,bs⟩,?_,⟨b1,b2,b3,b4,hbs⟩⟩;show([.int .u8 (k':Int),.int .u8 (f':Int),.int .i64 at_,.int .i64 n,.sl b.p b.len 1]:List MV)=_;rw[←e1,←e2];rfl
theorem zxg{T:HA}:∀(xs:List (HC zd7)),(∀m∈z4p zd7 xs,m.has)→(∀p ln,MV.sl p ln 1∈z4p zd7 xs→∃bs:List UInt8,RdC T ⟨p,ln⟩ 1 (bytesOf bs))→∃acts:List ActS,z0x zb4 acts=z4p zd7 xs∧acts.length=xs.length∧∀A∈acts,ActIn T A
 | [],_,_=>⟨[],rfl,rfl,fun _ h=>by cases h⟩
 | x::xs,h1,h2=>by
  have e:z4p zd7 (x::xs)=HC.enc zd7 x++z4p zd7 xs:=rfl;rw[e]at h1 h2;obtain⟨A,h3,h4⟩:=z18s (T:=T) x (fun m hm=>h1 m (List.mem_append.2 (.inl hm))) fun p ln hm=>h2 p ln (List.mem_append.2 (.inl hm));obtain⟨acts,h5,h6,h7⟩:=zxg xs (fun m hm=>h1 m (List.mem_append.2 (.inr hm))) fun p ln hm=>h2 p ln (List.mem_append.2 (.inr hm));refine⟨A::acts,?_,by simp[h6],fun B hB=>?_⟩
  ·rw[e,←h3,←h5];rfl
  ·rcases List.mem_cons.1 hB with rfl | hB
   ·exact h4
   ·exact h7 B hB
end Go.Moat
