/- Layer 15: acts as they come in. -/
import Derived.Test.YtcaaljlhljemoaaGreatP15s
import Derived.Test.YtcaaljlhljemoaaGreatMLR
import Derived.Test.YtcaaljlhljemoaaGreatMW2
namespace Go.Moat
open Go.Mini
def actT:List CTy:=[.int .u8,.int .i64,.int .u16,.int .u8,.sl 1,.int .u8,.int .u8,.int .i64,.int .i64,.int .i64,.int .i64,.int .i64,.int .i64,.int .i64,.int .i64,.int .i64,.int .i64,.int .i64,.int .i64,.int .u64]
theorem ze6 {n:Int} (h:(MV.int .u8 n).has):∃k:Nat,n=k∧k<256:=by
 have h4:IntKind.u8.has n:=h
 simp [IntKind.has,IntKind.min,IntKind.max,IntKind.signed,IntKind.bits] at h4
 exact ⟨n.toNat,by omega,by omega⟩
theorem zu3 {n:Int} (h:(MV.int .u16 n).has):∃k:Nat,n=k∧k<65536:=by
 have h4:IntKind.u16.has n:=h
 simp [IntKind.has,IntKind.min,IntKind.max,IntKind.signed,IntKind.bits] at h4
 exact ⟨n.toNat,by omega,by omega⟩
theorem zu4 {T:HA} (x:HC actT) (h1:∀m∈HC.enc actT x,m.has) (h2:∀p ln,MV.sl p ln 1∈HC.enc actT x→∃bs:List UInt8,RdC T ⟨p,ln⟩ 1 (bytesOf bs)):∃A:ActS,actC A=HC.enc actT x∧ActIn T A:=by
 obtain ⟨k,at_,lab,c,b,n0,n1,n2,n3,n4,n5,n6,n7,n8,n9,n10,n11,n12,n13,th⟩:=x
 have hm:∀m∈([.int .u8 k,.int .i64 at_,.int .u16 lab,.int .u8 c,.sl b.p b.len 1,.int .u8 n0,.int .u8 n1,.int .i64 n2,.int .i64 n3,.int .i64 n4,.int .i64 n5,.int .i64 n6,.int .i64 n7,.int .i64 n8,.int .i64 n9,.int .i64 n10,.int .i64 n11,.int .i64 n12,.int .i64 n13,.int .u64 th]:List MV),m.has:=h1
 obtain ⟨k',e1,b1⟩:=ze6 (hm (.int .u8 k) (by simp))
 obtain ⟨lab',e2,b2⟩:=zu3 (hm (.int .u16 lab) (by simp))
 obtain ⟨c',e3,b3⟩:=ze6 (hm (.int .u8 c) (by simp))
 obtain ⟨n0',e4,b4⟩:=ze6 (hm (.int .u8 n0) (by simp))
 obtain ⟨n1',e5,b5⟩:=ze6 (hm (.int .u8 n1) (by simp))
 obtain ⟨bs,hbs⟩:=h2 b.p b.len (by
  show MV.sl b.p b.len 1∈([.int .u8 k,.int .i64 at_,.int .u16 lab,.int .u8 c,.sl b.p b.len 1,.int .u8 n0,.int .u8 n1,.int .i64 n2,.int .i64 n3,.int .i64 n4,.int .i64 n5,.int .i64 n6,.int .i64 n7,.int .i64 n8,.int .i64 n9,.int .i64 n10,.int .i64 n11,.int .i64 n12,.int .i64 n13,.int .u64 th]:List MV)
  simp)
 refine ⟨⟨k',at_,lab',c',b,bs,⟨n0',n1',⟨[n2,n3,n4,n5,n6,n7,n8,n9,n10,n11,n12,n13],rfl⟩⟩,th⟩,?_,⟨b1,b2,b3,hbs⟩⟩
 show ([.int .u8 (k':Int),.int .i64 at_,.int .u16 (lab':Int),.int .u8 (c':Int),.sl b.p b.len 1,.int .u8 (n0':Int),.int .u8 (n1':Int),.int .i64 n2,.int .i64 n3,.int .i64 n4,.int .i64 n5,.int .i64 n6,.int .i64 n7,.int .i64 n8,.int .i64 n9,.int .i64 n10,.int .i64 n11,.int .i64 n12,.int .i64 n13,.int .u64 th]:List MV)=_
 rw [←e1,←e2,←e3,←e4,←e5]
 rfl
theorem zl3 {T:HA}:∀(xs:List (HC actT)),(∀m∈rowsOf actT xs,m.has)→(∀p ln,MV.sl p ln 1∈rowsOf actT xs→∃bs:List UInt8,RdC T ⟨p,ln⟩ 1 (bytesOf bs))→∃acts:List ActS,catL actC acts=rowsOf actT xs∧acts.length=xs.length∧∀A∈acts,ActIn T A
 | [],_,_=>⟨[],rfl,rfl,fun _ h=>by cases h⟩
 | x::xs,h1,h2=>by
  have e:rowsOf actT (x::xs)=HC.enc actT x++rowsOf actT xs:=rfl
  rw [e] at h1 h2
  obtain ⟨A,h3,h4⟩:=zu4 (T:=T) x (fun m hm=>h1 m (List.mem_append.2 (.inl hm))) fun p ln hm=>h2 p ln (List.mem_append.2 (.inl hm))
  obtain ⟨acts,h5,h6,h7⟩:=zl3 xs (fun m hm=>h1 m (List.mem_append.2 (.inr hm))) fun p ln hm=>h2 p ln (List.mem_append.2 (.inr hm))
  refine ⟨A::acts,?_,by simp [h6],fun B hB=>?_⟩
  ·rw [e,←h3,←h5]
   rfl
  ·rcases List.mem_cons.1 hB with rfl | hB
   ·exact h4
   ·exact h7 B hB
end Go.Moat
