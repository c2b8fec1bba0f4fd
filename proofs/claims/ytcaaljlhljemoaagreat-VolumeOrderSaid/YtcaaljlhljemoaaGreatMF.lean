/- Stores, new blocks, places, slices. -/
import Derived.Test.YtcaaljlhljemoaaGreatME
namespace Go.Mini
theorem z8p (cs vs:List MV) (off i:Nat) (h:off+vs.length≤cs.length) :
  (over cs off vs)[i]? = if off≤i∧i<off+vs.length then vs[i - off]? else cs[i]? :=by
 unfold over
 simp only [List.getElem?_append,List.length_append,List.length_take,List.getElem?_take,List.getElem?_drop]
 have m:min off cs.length=off:=by omega
 rw [m]
 by_cases a:i<off
 ·rw [if_pos (by omega),if_pos a,if_pos a,if_neg (by omega)]
 ·by_cases b:i<off+vs.length
  ·rw [if_pos b,if_neg a,if_pos ⟨by omega,b⟩]
  ·rw [if_neg b,if_neg (by omega)]
   congr 1;omega
theorem z69 (cs vs:List MV) (off:Nat) (h:off+vs.length≤cs.length):(over cs off vs).length=cs.length:=by
 unfold over;simp;omega
theorem over_one (cs:List MV) (off:Nat) (v:MV) (h:off<cs.length):over cs off [v]=cs.set off v:=by
 apply List.ext_getElem?
 intro i
 rw [z8p _ _ _ _ (by simp;omega),List.getElem?_set]
 by_cases e:off=i
 ·subst e;simp [h]
 ·rw [if_neg (by simp;omega),if_neg e]
section
variable {P:Program} {ρ:Rho} {h:Hp} {w:World}
theorem z7i (k:HRel ρ h w.heap) {b:Nat} {rb:RB} {cs:List MV} (hb:ρ b=some rb) (hg:h.get b=.cells cs false) (off:Nat) {vs:List MV} {xs:List Value}
  (hv:VRels ρ vs xs) (hc:vs.all isCell=true) (hle:off+vs.length≤cs.length) :
  ∃w',(storeCells ⟨rb.r,rb.o+off,none⟩ xs).run P w=.ok () w'∧HRel ρ (h.set b (.cells (over cs off vs) false)) w'.heap∧HStp ρ h w ρ (h.set b (.cells (over cs off vs) false)) w':=by
 have hk:=k.blk _ _ hb
 rw [hg] at hk
 obtain ⟨c,el,fz,h1,h2,h3,h4,h5⟩:=hk
 have hlen:=hv.length
 have hrun:=z4i (P:=P) rb.r (rb.o+off) el fz xs 0 c w h1 (fun j _ hj=>by have:=h5 rfl;omega) (by omega) (hv.oneCell hc)
 refine ⟨_,hrun,?_⟩
 refine k.write (b:=b) (rb:=rb) _ hb (.inl ⟨cs,hg⟩) (by simp) (by intro cs' e;cases e) (by simp) (fun i hi=>setRow_other w rb.r i _ hi) rfl rfl rfl ?_
 refine ⟨_,el,fz,setRow_heap w _ c _ el fz h1,?_,?_,?_,h5⟩
 ·simp;omega
 ·rw [z69 _ _ _ hle];exact h3
 ·intro i v hv'
  rw [z8p _ _ _ _ hle] at hv'
  simp only [Nat.add_zero]
  by_cases hi:off≤i∧i<off+vs.length
  ·rw [if_pos hi] at hv'
   obtain ⟨y,hy,hr⟩:=hv.get _ _ hv'
   refine ⟨y,?_,hr⟩
   rw [List.getElem?_toArray,List.getElem?_append_left (by simp;omega),List.getElem?_append_right (by simp;omega)]
   rw [←hy]
   congr 1
   simp;omega
  ·rw [if_neg hi] at hv'
   obtain ⟨y,hy,hr⟩:=h4 _ _ hv'
   refine ⟨y,?_,hr⟩
   have hib:i<cs.length:=(List.getElem?_eq_some_iff.1 hv').1
   rw [List.getElem?_toArray]
   by_cases hlt:i<off
   ·rw [List.getElem?_append_left (by simp;omega),List.getElem?_append_left (by simp;omega),List.getElem?_take,if_pos (by omega)]
    simpa using hy
   ·rw [List.getElem?_append_right (by simp;omega),List.getElem?_drop]
    rw [←hy]
    simp only [List.length_append,List.length_take,Array.length_toList,Array.getElem?_toList]
    congr 1
    omega
theorem z47 {x:Value} (h:x.oneCell'=true):x.cells = #[x]:=by
 cases x<;>first | rfl | simp [Value.oneCell'] at h
theorem znu (k:HRel ρ h w.heap) {T:TypeId} {d:TypeDesc} (hu:P.underlying T=some d) (hsz:P.cellsOf T=1) {q:Option MA} {x y:Value} {v:MV} (hx:VRel ρ (.ptr q) x) (hy:VRel ρ v y)
  {h':Hp} {u:Unit} (e:stc q v h=some (u,h')):∃w',(Instr.storeAt T x y).run P w=.ok () w'∧HRel ρ h' w'.heap∧HStp ρ h w ρ h' w':=by
 cases hx with
 | nil=>simp [stc] at e
 | ptr a rb hb=>
  simp only [stc] at e
  split at e
  ·rename_i cs hg
   split at e
   ·rename_i hc
    cases e
    obtain ⟨w',hr,h1,h2⟩:=z7i (P:=P) k hb hg a.off (.cons _ _ _ _ hy .nil) (by simp [hc.2]) (by have:=hc.1;simp;omega)
    refine ⟨w',?_,?_,?_⟩
    ·have h1c:=hy.oneCell hc.2
     simp [Instr.storeAt,Instr.sureAddr,storeVar,z47 h1c,z0w hu,hsz]
     exact hr
    ·rw [over_one _ _ _ hc.1] at h1;exact h1
    ·rw [over_one _ _ _ hc.1] at h2;exact h2
   ·cases e
  ·cases e
theorem znv (k:HRel ρ h w.heap) {T:TypeId} {d:TypeDesc} (hu:P.underlying T=some d) {q:Option MA} {x y:Value} {vs:List MV} (hx:VRel ρ (.ptr q) x) (hy:VRel ρ (.agg vs) y)
  {h':Hp} {u:Unit} (e:stn (P.cellsOf T) q vs h=some (u,h')):∃w',(Instr.storeAt T x y).run P w=.ok () w'∧HRel ρ h' w'.heap∧HStp ρ h w ρ h' w':=by
 cases hx with
 | nil=>simp [stn] at e
 | ptr a rb hb=>
  simp only [stn] at e
  split at e
  ·rename_i cs hg
   split at e
   ·rename_i hc
    cases e
    cases hy with
    | agg _ xs hv=>
     obtain ⟨w',hr,h1,h2⟩:=z7i (P:=P) k hb hg a.off hv hc.2.2 hc.1
     refine ⟨w',?_,h1,h2⟩
     have hl:=hv.length
     simp [Instr.storeAt,Instr.sureAddr,storeVar,Value.cells,z0w hu,←hl,hc.2.1]
     exact hr
   ·cases e
  ·cases e
theorem zb7 (k:HRel ρ h w.heap) (el:TypeId) {cs:List MV} {xs:Array Value} (hl:cs.length≤xs.size) (hv:VRels ρ cs (xs.toList.take cs.length)) :
  ∃ρ',(newRow el xs).run P w=.ok ⟨w.heap.size,0,none⟩ (w.alloc (.cells xs el))∧ρ' h.size=some ⟨w.heap.size,0,xs.size⟩ ∧
   HRel ρ' (h.push (.cells cs false)) (w.alloc (.cells xs el)).heap∧HStp ρ h w ρ' (h.push (.cells cs false)) (w.alloc (.cells xs el)):=by
 refine ⟨ρ.put h.size ⟨w.heap.size,0,xs.size⟩,by simp [newRow],Rho.put_same _ _ _,?_⟩
 refine k.alloc _ (by simp) _ (.cells xs el) _ rfl rfl rfl rfl ?_
 intro ρ' hx
 refine ⟨xs,el,(0,0),heap_alloc_new _ _,by simp,by simpa using hl,?_,fun _ =>.inl rfl⟩
 intro i v hi
 obtain ⟨y,hy,hr⟩:=hv.get _ _ hi
 rw [List.getElem?_take] at hy
 split at hy
 ·exact ⟨y,by simpa using hy,hr.mono hx⟩
 ·cases hy
theorem z48 (k:HRel ρ h w.heap) (el:TypeId) {cs:List MV} {xs:Array Value} (hv:VRels ρ cs xs.toList) :
  ∃ρ',(newRow el xs).run P w=.ok ⟨w.heap.size,0,none⟩ (w.alloc (.cells xs el))∧ρ' h.size=some ⟨w.heap.size,0,xs.size⟩ ∧
   HRel ρ' (h.push (.cells cs false)) (w.alloc (.cells xs el)).heap∧HStp ρ h w ρ' (h.push (.cells cs false)) (w.alloc (.cells xs el)):=by
 have hl:=hv.length
 refine zb7 k el (by simp at hl;omega) ?_
 rw [List.take_of_length_le (by omega)]
 exact hv
theorem zhd {c:CTy} {v:Value} {m:MV} (e:mvOf c v=some m) (ρ:Rho):VRel ρ m v:=by
 cases c<;>cases v<;>simp only [mvOf] at e<;>try cases e
 ·constructor
 ·split at e
  ·rename_i hk;subst hk;cases e;constructor
  ·cases e
 ·rename_i s
  have:VRel ρ (.str s.data.toList) (.string ⟨s.data.toList.toArray⟩) :=.str _
  simpa using this
 ·rename_i a
  cases a<;>simp only [mvOf] at e<;>cases e
  constructor
 ·rename_i e0 a l c
  cases a<;>cases l<;>cases c<;>simp only [mvOf] at e<;>cases e
  constructor
 ·rename_i r
  cases r<;>simp only [mvOf] at e<;>cases e
  constructor
 ·constructor
 ·constructor
theorem z9x:∀ {ts:List CTy} {vs:List Value} {ms:List MV},mvsOf ts vs=some ms→∀(ρ:Rho),VRels ρ ms vs
 | [],[],ms,e,ρ=>by simp [mvsOf] at e;subst e;exact .nil
 | t::ts,v::vs,ms,e,ρ=>by
  simp only [mvsOf] at e
  split at e
  ·rename_i x xs h1 h2
   cases e
   exact .cons _ _ _ _ (zhd h1 ρ) (z9x h2 ρ)
  ·cases e
 | [],_::_,ms,e,ρ=>by simp [mvsOf] at e
 | _::_,[],ms,e,ρ=>by simp [mvsOf] at e
theorem z2k {t:TypeId} {z:List MV} (e:zeroOf P t=some z):∃i v,P.info? t=some i∧i.zero=some v∧∀ρ,VRels ρ z v.cells.toList:=by
 unfold zeroOf at e
 split at e
 ·rename_i i hi
  split at e
  ·rename_i v ts hz ht
   exact ⟨i,v,hi,hz,fun ρ=>z9x e ρ⟩
  ·cases e
 ·cases e
theorem z1r {t:TypeId} {i:TypeInfo} {v:Value} (hi:P.info? t=some i) (hz:i.zero=some v) (w:World):(zeroValue t).run P w=.ok v w:=by
 simp [zeroValue,typeInfo,hi,hz]
theorem zj8 (k:HRel ρ h w.heap) {t:TypeId} {z:List MV} (hz:zeroOf P t=some z) {p:Option MA} {h':Hp} (e:alloc z h=some (p,h')) :
  Out ρ h w ((Instr.alloc t true (.tuple #[])).run P w) (.ptr p) h':=by
 cases e
 obtain ⟨i,v,hi,hv,hr⟩:=z2k hz
 obtain ⟨ρ',h1,h2,h3,h4⟩:=z48 (P:=P) k t (hr ρ)
 refine ⟨_,ρ',_,?_,.ptr ⟨h.size,0⟩ _ h2,h3,h4⟩
 simp [Instr.alloc,z1r hi hv,newVar,h1]
theorem znw (k:HRel ρ h w.heap) {t:TypeId} {cs:List MV} {y:Value} (hy:VRel ρ (.agg cs) y) {p:Option MA} {h':Hp} (e:alloc cs h=some (p,h')) :
  Out ρ h w ((Instr.box t y).run P w) (.ptr p) h':=by
 cases e
 cases hy with
 | agg _ xs hv=>
  obtain ⟨ρ',h1,h2,h3,h4⟩:=z48 (P:=P) (xs:=xs.toArray) k t hv
  refine ⟨_,ρ',_,?_,.ptr ⟨h.size,0⟩ _ h2,h3,h4⟩
  simp [Instr.box,newVar,Value.cells,h1]
theorem zlh (k:HRel ρ h w.heap) {t:TypeId} {v:MV} {y:Value} (hy:VRel ρ v y) {p:Option MA} {h':Hp} (e:alloc1 v h=some (p,h')) :
  Out ρ h w ((Instr.box t y).run P w) (.ptr p) h':=by
 unfold alloc1 at e
 split at e
 ·rename_i hc
  cases e
  obtain ⟨ρ',h1,h2,h3,h4⟩:=z48 (P:=P) (xs := #[y]) k t (.cons _ _ _ _ hy .nil)
  refine ⟨_,ρ',_,?_,.ptr ⟨h.size,0⟩ _ h2,h3,h4⟩
  simp [Instr.box,newVar,z47 (hy.oneCell hc),h1]
 ·cases e
theorem zc1 {z:List MV} {v:Value} (n:Nat) (hz:VRels ρ z v.cells.toList) (e:Nat) (he:z.length=e) :
  VRels ρ (reps n z) ((Array.range (n * e)).map fun x=>v.cells[x%v.cells.size]!).toList:=by
 have hl:=hz.length
 have hsz:v.cells.size=e:=by rw [←he,hl];simp
 have hlen:∀n,(reps n z).length=n * e:=by
  intro n
  induction n with
  | zero=>simp [reps]
  | succ n ih=>simp [reps,ih,he,Nat.succ_mul,Nat.add_comm]
 have hget:∀n i,i<n * e→(reps n z)[i]? = z[i%e]? :=by
  intro n
  induction n with
  | zero=>intro i hi;omega
  | succ n ih=>
   intro i hi
   rw [Nat.succ_mul] at hi
   simp only [reps]
   by_cases hlt:i<e
   ·rw [List.getElem?_append_left (by omega),Nat.mod_eq_of_lt hlt]
   ·rw [List.getElem?_append_right (by omega),he,ih _ (by omega),Nat.mod_eq_sub_mod (by omega:e≤i)]
 apply VRels.of_get
 ·simp [hlen]
 ·intro i m x hm hx
  have hi:i<n * e:=by
   have:=(List.getElem?_eq_some_iff.1 hm).1
   rw [hlen] at this;exact this
  have he0:0<e:=by
   rcases Nat.eq_zero_or_pos e with h0 | h0
   ·subst h0;simp at hi
   ·exact h0
  rw [hget _ _ hi] at hm
  have hmod:i%e<e:=Nat.mod_lt _ he0
  obtain ⟨y,hy,hr⟩:=hz.get _ _ hm
  simp [hi,hsz] at hx
  have hyy:v.cells[i%e]! = y:=by
   rw [getElem!_pos v.cells (i%e) (by omega)]
   simp at hy
   have:=hy
   rw [Array.getElem?_eq_getElem (by omega)] at this
   exact Option.some.inj this
  rw [hyy] at hx
  subst hx
  exact hr
theorem z9y {ρ':Rho} {b:Nat} {r o e n z:Nat} (h:ρ' b=some ⟨r,o,e⟩) (cap:Nat) (hn:n≤cap) (hc:cap * z≤e) (hm:cap≤9223372036854775807:=by omega):VRel ρ' (.sl (some ⟨b,0⟩) n z) (.slice (some ⟨r,o,none⟩) n cap):=by
 refine .sl _ _ n z cap _ h hn (.inr ⟨by simp,?_⟩)
 simpa using hc
theorem zd8 {n:Int} (h0:0≤n) (h1:n≤9223372036854775807):IntKind.i64.wrap n=n:=by
 unfold IntKind.wrap IntKind.bits IntKind.signed
 simp only [Bool.true_and]
 have e64:(2:Int)^64=18446744073709551616:=by decide
 have e63:(2:Int)^(64 - 1)=9223372036854775808:=by decide
 rw [e64,e63]
 have h2:n%18446744073709551616=n:=Int.emod_eq_of_lt h0 (by omega)
 rw [h2,if_neg]
 simp
 omega
theorem zli (k:HRel ρ h w.heap) {T E:TypeId} (hu:P.underlying T=some (.slice E)) {z:List MV} (hz:zeroOf P E=some z) {kl kc:IntKind} {l c:Int} {s:Sl} {h':Hp}
  (e:mkSl (P.cellsOf E) (P.bytesOf E) z l c h=some (s,h')) (hb:0<P.bytesOf E) :
  Out ρ h w ((Instr.makeSlice T (.int kl l) (.int kc c)).run P w) (.sl s.p s.len (P.cellsOf E)) h':=by
 unfold mkSl at e
 split at e
 ·rename_i hc
  obtain ⟨h0,h1,h2,h3⟩:=hc
  cases e
  obtain ⟨i,v,hi,hv,hr⟩:=z2k hz
  have hbi:i.bytes=P.bytesOf E:=by simp [Program.bytesOf,hi]
  have hsi:i.size=P.cellsOf E:=by simp [Program.cellsOf,hi]
  have hmost:(most:Int)=70368744177664:=rfl
  have hcle:c≤70368744177664:=by
   have:c * 1≤c * (P.bytesOf E:Int):=Int.mul_le_mul_of_nonneg_left (by omega) (by omega)
   omega
  have w1:IntKind.i64.wrap l=l:=zd8 h0 (by omega)
  have w2:IntKind.i64.wrap c=c:=zd8 (by omega) (by omega)
  have hrel:=zc1 (ρ:=ρ) c.toNat (hr ρ) (P.cellsOf E) h3
  obtain ⟨ρ',g1,g2,g3,g4⟩:=z48 (P:=P) k E hrel
  refine ⟨.slice (some ⟨w.heap.size,0,none⟩) l.toNat c.toNat,ρ',_,?_,?_,g3,g4⟩
  ·have hmul:((P.bytesOf E:Int) * c > 2^48)=False:=by
    apply eq_false
    have:(P.bytesOf E:Int) * c=c * P.bytesOf E:=Int.mul_comm _ _
    rw [this]
    have:(2:Int)^48=281474976710656:=by decide
    omega
   have c1:(c<0)=False:=eq_false (by omega)
   have c2:(l<0)=False:=eq_false (by omega)
   have c3:(l > c)=False:=eq_false (by omega)
   simp only [Instr.makeSlice,Sem.run_bind,z0h hu,Result.andThen_ok,asInt,asIntOf,Sem.run_pure,typeInfo,run_program,hi,hbi,w1,w2,hmul,c1,c2,c3,decide_false,Bool.or_self,Bool.false_eq_true,if_false,run_askRoom,sizeOf,hsi]
   by_cases hn:c.toNat * P.cellsOf E=0
   ·have hg:(Array.range (c.toNat * P.cellsOf E)).map (fun x=>v.cells[x%v.cells.size]!) = #[]:=by rw [hn];simp
    rw [hg] at g1 ⊢
    simp only [hn,if_true,Sem.run_pure,Result.andThen_ok,show Array.range 0 = #[] by simp,List.map_toArray,List.map_nil,Sem.run_bind,g1]
   ·simp [hn,z1r hi hv,g1]
  ·refine z9y g2 _ (show l.toNat≤c.toNat by omega) ?_
   simp
 ·cases e
end
end Go.Mini
