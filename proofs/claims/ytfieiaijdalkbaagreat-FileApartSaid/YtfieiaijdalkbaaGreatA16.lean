/- Layer 16: acts as they come in. -/
import Derived.Test.YtfieiaijdalkbaaGreatP16zo
import Derived.Test.YtfieiaijdalkbaaGreatMY
namespace Go.Moat
open Go.Mini
def zcv:List CTy:=[.int .u8,.int .u8,.int .i64,.int .i64,.sl 1]
theorem z122{n:Int}(h:(MV.int .u8 n).has):∃k:Nat,n=k∧k<256:=by
 have h4:IntKind.u8.has n:=h;simp[IntKind.has,IntKind.min,IntKind.max,IntKind.signed,IntKind.bits]at h4;exact⟨n.toNat,by omega,by omega⟩
theorem zw2{n:Int}(h:(MV.int .i64 n).has) : -9223372036854775808≤n∧n<9223372036854775808:=by
 have h4:IntKind.i64.has n:=h;simp[IntKind.has,IntKind.min,IntKind.max,IntKind.signed,IntKind.bits]at h4;omega
theorem z17a{T:HA}(x:HC zcv)(h1:∀m∈HC.enc zcv x,m.has)(h2:∀p ln,MV.sl p ln 1∈HC.enc zcv x→∃bs:List UInt8,RdC T ⟨p,ln⟩ 1 (bytesOf bs)):∃A:ActS,zau A=HC.enc zcv x∧ActIn T A:=by
 obtain⟨k,f,at_,n,b⟩:=x;have hm:∀m∈([.int .u8 k,.int .u8 f,.int .i64 at_,.int .i64 n,.sl b.p b.len 1]:List MV),m.has:=h1;obtain⟨k',e1,b1⟩:=z122 (hm (.int .u8 k) (by simp));obtain⟨f',e2,b2⟩:=z122 (hm (.int .u8 f) (by simp));have b3:=zw2 (hm (.int .i64 at_) (by simp));have b4:=zw2 (hm (.int .i64 n) (by simp));obtain⟨bs,hbs⟩:=h2 b.p b.len (by
  show MV.sl b.p b.len 1∈([.int .u8 k,.int .u8 f,.int .i64 at_,.int .i64 n,.sl b.p b.len 1]:List MV);simp)
 refine⟨⟨k',f',at_,n,b,bs⟩,?_,⟨b1,b2,b3,b4,hbs⟩⟩;show([.int .u8 (k':Int),.int .u8 (f':Int),.int .i64 at_,.int .i64 n,.sl b.p b.len 1]:List MV)=_;rw[←e1,←e2];rfl
theorem zw3{T:HA}:∀(xs:List (HC zcv)),(∀m∈z4m zcv xs,m.has)→(∀p ln,MV.sl p ln 1∈z4m zcv xs→∃bs:List UInt8,RdC T ⟨p,ln⟩ 1 (bytesOf bs))→∃acts:List ActS,z1l zau acts=z4m zcv xs∧acts.length=xs.length∧∀A∈acts,ActIn T A
 | [],_,_=>⟨[],rfl,rfl,fun _ h=>by cases h⟩
 | x::xs,h1,h2=>by
  have e:z4m zcv (x::xs)=HC.enc zcv x++z4m zcv xs:=rfl;rw[e]at h1 h2;obtain⟨A,h3,h4⟩:=z17a (T:=T) x (fun m hm=>h1 m (List.mem_append.2 (.inl hm))) fun p ln hm=>h2 p ln (List.mem_append.2 (.inl hm));obtain⟨acts,h5,h6,h7⟩:=zw3 xs (fun m hm=>h1 m (List.mem_append.2 (.inr hm))) fun p ln hm=>h2 p ln (List.mem_append.2 (.inr hm));refine⟨A::acts,?_,by simp[h6],fun B hB=>?_⟩
  ·rw[e,←h3,←h5];rfl
  ·rcases List.mem_cons.1 hB with rfl | hB
   ·exact h4
   ·exact h7 B hB
end Go.Moat
