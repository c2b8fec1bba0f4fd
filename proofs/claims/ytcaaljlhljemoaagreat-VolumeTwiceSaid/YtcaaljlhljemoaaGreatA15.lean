/- Layer 15: acts as they come in. -/
import Derived.Test.YtcaaljlhljemoaaGreatP15s
import Derived.Test.YtcaaljlhljemoaaGreatMY
namespace Go.Moat
open Go.Mini
def zby:List CTy:=[.int .u8,.int .i64,.int .u16,.int .u8,.sl 1,.int .u8,.int .u8,.int .i64,.int .i64,.int .i64,.int .i64,.int .i64,.int .i64,.int .i64,.int .i64,.int .i64,.int .i64,.int .i64,.int .i64,.int .u64]
theorem zlf{n:Int}(h:(MV.int .u8 n).has):∃k:Nat,n=k∧k<256:=by
 have h4:IntKind.u8.has n:=h;simp[IntKind.has,IntKind.min,IntKind.max,IntKind.signed,IntKind.bits]at h4;exact⟨n.toNat,by omega,by omega⟩
theorem z13f{n:Int}(h:(MV.int .u16 n).has):∃k:Nat,n=k∧k<65536:=by
 have h4:IntKind.u16.has n:=h;simp[IntKind.has,IntKind.min,IntKind.max,IntKind.signed,IntKind.bits]at h4;exact⟨n.toNat,by omega,by omega⟩
theorem z13g{T:HA}(x:HC zby)(h1:∀m∈HC.enc zby x,m.has)(h2:∀p ln,MV.sl p ln 1∈HC.enc zby x→∃bs:List UInt8,RdC T ⟨p,ln⟩ 1 (bytesOf bs)):∃A:ActS,z3z A=HC.enc zby x∧ActIn T A:=by
 obtain⟨k,at_,lab,c,b,n0,n1,n2,n3,n4,n5,n6,n7,n8,n9,n10,n11,n12,n13,th⟩:=x;have hm:∀m∈([.int .u8 k,.int .i64 at_,.int .u16 lab,.int .u8 c,.sl b.p b.len 1,.int .u8 n0,.int .u8 n1,.int .i64 n2,.int .i64 n3,.int .i64 n4,.int .i64 n5,.int .i64 n6,.int .i64 n7,.int .i64 n8,.int .i64 n9,.int .i64 n10,.int .i64 n11,.int .i64 n12,.int .i64 n13,.int .u64 th]:List MV),m.has:=h1;obtain⟨k',e1,b1⟩:=zlf (hm (.int .u8 k) (by simp));obtain⟨lab',e2,b2⟩:=z13f (hm (.int .u16 lab) (by simp));obtain⟨c',e3,b3⟩:=zlf (hm (.int .u8 c) (by simp));obtain⟨n0',e4,b4⟩:=zlf (hm (.int .u8 n0) (by simp));obtain⟨n1',e5,b5⟩:=zlf (hm (.int .u8 n1) (by simp));obtain⟨bs,hbs⟩:=h2 b.p b.len (by
  show MV.sl b.p b.len 1∈([.int .u8 k,.int .i64 at_,.int .u16 lab,.int .u8 c,.sl b.p b.len 1,.int .u8 n0,.int .u8 n1,.int .i64 n2,.int .i64 n3,.int .i64 n4,.int .i64 n5,.int .i64 n6,.int .i64 n7,.int .i64 n8,.int .i64 n9,.int .i64 n10,.int .i64 n11,.int .i64 n12,.int .i64 n13,.int .u64 th]:List MV);simp)
 refine⟨⟨k',at_,lab',c',b,bs,⟨n0',n1',⟨[n2,n3,n4,n5,n6,n7,n8,n9,n10,n11,n12,n13],rfl⟩⟩,th⟩,?_,⟨b1,b2,b3,hbs⟩⟩;show([.int .u8 (k':Int),.int .i64 at_,.int .u16 (lab':Int),.int .u8 (c':Int),.sl b.p b.len 1,.int .u8 (n0':Int),.int .u8 (n1':Int),.int .i64 n2,.int .i64 n3,.int .i64 n4,.int .i64 n5,.int .i64 n6,.int .i64 n7,.int .i64 n8,.int .i64 n9,.int .i64 n10,.int .i64 n11,.int .i64 n12,.int .i64 n13,.int .u64 th]:List MV)=_;rw[←e1,←e2,←e3,←e4,←e5];rfl
theorem ztb{T:HA}:∀(xs:List (HC zby)),(∀m∈z4e zby xs,m.has)→(∀p ln,MV.sl p ln 1∈z4e zby xs→∃bs:List UInt8,RdC T ⟨p,ln⟩ 1 (bytesOf bs))→∃acts:List ActS,z1j z3z acts=z4e zby xs∧acts.length=xs.length∧∀A∈acts,ActIn T A
 | [],_,_=>⟨[],rfl,rfl,fun _ h=>by cases h⟩
 | x::xs,h1,h2=>by
  have e:z4e zby (x::xs)=HC.enc zby x++z4e zby xs:=rfl;rw[e]at h1 h2;obtain⟨A,h3,h4⟩:=z13g (T:=T) x (fun m hm=>h1 m (List.mem_append.2 (.inl hm))) fun p ln hm=>h2 p ln (List.mem_append.2 (.inl hm));obtain⟨acts,h5,h6,h7⟩:=ztb xs (fun m hm=>h1 m (List.mem_append.2 (.inr hm))) fun p ln hm=>h2 p ln (List.mem_append.2 (.inr hm));refine⟨A::acts,?_,by simp[h6],fun B hB=>?_⟩
  ·rw[e,←h3,←h5];rfl
  ·rcases List.mem_cons.1 hB with rfl | hB
   ·exact h4
   ·exact h7 B hB
end Go.Moat
