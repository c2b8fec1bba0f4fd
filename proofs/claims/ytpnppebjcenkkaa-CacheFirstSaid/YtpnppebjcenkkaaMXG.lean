/- Regions whose order is drawn: a block that was held is filled. -/
import Derived.Test.YtpnppebjcenkkaaMXH
namespace Go.Mini
universe u

mutual
theorem VRel.via {ρ ρ2 ρ3 : Rho} (hv : ∀ c rb, ρ c ≠ none → ρ2 c = some rb → ρ3 c = some rb) : ∀ {v : MV} {x0 x : Value}, VRel ρ v x0 → VRel ρ2 v x → VRel ρ3 v x
  | _, _, _, .bool b, .bool _ => .bool b
  | _, _, _, .int k n, .int _ _ => .int k n
  | _, _, _, .str s, .str _ => .str s
  | _, _, _, .nil, .nil => .nil
  | _, _, _, .ptr a rb h, .ptr _ rb2 h2 => .ptr a rb2 (hv _ _ (by rw [h]; simp) h2)
  | _, _, _, .slNil z, .slNil _ => .slNil z
  | _, _, _, .sl a rb len z cap ra h hl hc hm, .sl _ rb2 _ _ cap2 ra2 h2 hl2 hc2 hm2 => .sl a rb2 len z cap2 ra2 (hv _ _ (by rw [h]; simp) h2) hl2 hc2 hm2
  | _, _, _, .mapNil, .mapNil => .mapNil
  | _, _, _, .map b rb h, .map _ rb2 h2 => .map b rb2 (hv _ _ (by rw [h]; simp) h2)
  | _, _, _, .fn f cs vs h, .fn _ _ vs2 h2 => .fn f cs vs2 (VRels.via hv h h2)
  | _, _, _, .nilFn, .nilFn => .nilFn
  | _, _, _, .iface t v x h, .iface _ _ x2 h2 => .iface t v x2 (VRel.via hv h h2)
  | _, _, _, .nilIface, .nilIface => .nilIface
  | _, _, _, .agg cs vs h, .agg _ vs2 h2 => .agg cs vs2 (VRels.via hv h h2)
  | _, _, _, .tup cs vs h, .tup _ vs2 h2 => .tup cs vs2 (VRels.via hv h h2)
theorem VRels.via {ρ ρ2 ρ3 : Rho} (hv : ∀ c rb, ρ c ≠ none → ρ2 c = some rb → ρ3 c = some rb) : ∀ {vs : List MV} {xs0 xs : List Value}, VRels ρ vs xs0 → VRels ρ2 vs xs → VRels ρ3 vs xs
  | _, _, _, .nil, .nil => .nil
  | _, _, _, .cons v x0 vs xs0 h hs, .cons _ x _ xs h2 hs2 => .cons v x vs xs (VRel.via hv h h2) (VRels.via hv hs hs2)
end

theorem ERel.via {ρ ρ2 ρ3 : Rho} (hv : ∀ c rb, ρ c ≠ none → ρ2 c = some rb → ρ3 c = some rb) : ∀ {es : List (MV × MV)} {r0 r : List MapEntry}, ERel ρ es r0 → ERel ρ2 es r → ERel ρ3 es r
  | _, _, _, .nil, .nil => .nil
  | _, _, _, .cons k v e es rs hk hv1 h, .cons _ _ e2 _ rs2 hk2 hv2 h2 => .cons k v e2 es rs2 (hk.via hv hk2) (hv1.via hv hv2) (ERel.via hv h h2)

/-- All that a block holds is known under ρ. -/
def BC (ρ : Rho) : Blk → Prop
  | .cells cs _ => ∀ v ∈ cs, ∃ x, VRel ρ v x
  | .map es => ∃ r, ERel ρ es r
  | .dead => True

theorem BRel.bc {ρ : Rho} {rb : RB} {x : Blk} {H : Array Obj} (h : BRel ρ rb x H) : BC ρ x := by
  cases x with
  | cells cs ro =>
    obtain ⟨c, el, fz, _, _, _, h4, _⟩ := h
    intro v hv
    obtain ⟨i, hi⟩ := List.getElem?_of_mem hv
    obtain ⟨v', _, hr⟩ := h4 i v hi
    exact ⟨v', hr⟩
  | map es =>
    obtain ⟨res, ck, _, h⟩ := h
    exact ⟨_, h⟩
  | dead => trivial

theorem BRel.via {ρ ρ2 ρ3 : Rho} (hv : ∀ c rb, ρ c ≠ none → ρ2 c = some rb → ρ3 c = some rb) {rb : RB} {x : Blk} {H : Array Obj} (h0 : BC ρ x) (h : BRel ρ2 rb x H) : BRel ρ3 rb x H := by
  cases x with
  | cells cs ro =>
    obtain ⟨c, el, fz, h1, h2, h3, h4, h5⟩ := h
    refine ⟨c, el, fz, h1, h2, h3, fun i v hi => ?_, h5⟩
    obtain ⟨v', a, b⟩ := h4 i v hi
    obtain ⟨x0, hx0⟩ := h0 v (List.mem_of_getElem? hi)
    exact ⟨v', a, hx0.via hv b⟩
  | map es =>
    obtain ⟨res, ck, h1, h2⟩ := h
    obtain ⟨r, hr⟩ := h0
    exact ⟨res, ck, h1, hr.via hv h2⟩
  | dead => trivial

/-- The same, at another number. -/
inductive Ren (n b : Nat) : FV → FV → Prop
  | ptr : Ren n b (.v (.ptr (some ⟨n, 0⟩))) (.v (.ptr (some ⟨b, 0⟩)))
  | sl (l e : Nat) : Ren n b (.v (.sl (some ⟨n, 0⟩) l e)) (.v (.sl (some ⟨b, 0⟩) l e))
  | map : Ren n b (.v (.map (some n))) (.v (.map (some b)))

theorem Ren.rel {n b : Nat} {V0 V : FV} (h : Ren n b V0 V) {ρ2 ρ3 : Rho} {π : Nat → Nat} {rb : RB} (e2 : ρ2 n = some rb) (e3 : ρ3 b = some rb) {x : Value} (hr : FRel ρ2 π V0 x) : FRel ρ3 π V x := by
  cases h with
  | ptr =>
    have hr' : VRel ρ2 (.ptr (some ⟨n, 0⟩)) x := hr
    cases hr' with
    | ptr _ q hq =>
      have hq' : ρ2 n = some q := hq
      rw [e2] at hq'
      cases hq'
      exact VRel.ptr ⟨b, 0⟩ rb e3
  | sl l e =>
    have hr' : VRel ρ2 (.sl (some ⟨n, 0⟩) l e) x := hr
    cases hr' with
    | sl _ q _ _ cap ra hq hl hc =>
      have hq' : ρ2 n = some q := hq
      rw [e2] at hq'
      cases hq'
      exact VRel.sl ⟨b, 0⟩ rb l e cap ra e3 hl hc
  | map =>
    have hr' : VRel ρ2 (.map (some n)) x := hr
    cases hr' with
    | map _ q hq =>
      rw [e2] at hq
      cases hq
      exact VRel.map b rb e3

/-- A new block, at the number that was held for it. -/
theorem fill_back {s s2 : S} (ok : Ok s) {d b : Nat} {V0 V : FV} {blk : Blk} (hb : s.h.get b = .dead) (hlt : b < s.h.size) (hρ : s.ρ b = none) (hblk : blk ≠ .dead) (hbc : BC s.ρ blk)
    (hren : Ren s.h.size b V0 V) (ok2 : Ok s2) (st : Stp s s2 [d]) (hfr : s2.fr = s.fr.setF d V0) (hh : s2.h = s.h.push blk) :
    ∃ s3 : S, s3.t = s2.t ∧ s3.w = s2.w ∧ s3.fr = s.fr.setF d V ∧ s3.h = s.h.set b blk ∧ (∃ rb, s3.ρ = s.ρ.put b rb) ∧ Ok s3 ∧ StpC s s3 [d] := by
  have hnd : ¬ Dead s2.h s.h.size := by
    unfold Dead
    rw [hh, Hp.get_push, if_pos rfl]
    exact hblk
  obtain ⟨rb, erb⟩ := ok2.heap.live s.h.size hnd
  have hext : Ext s.ρ (s.ρ.put b rb) := by
    intro c q e
    rw [Rho.put_other _ _ (fun x => by rw [x, hρ] at e; cases e)]
    exact e
  have hvia : ∀ c q, s.ρ c ≠ none → s2.ρ c = some q → s.ρ.put b rb c = some q := by
    intro c q h1 h2
    cases h3 : s.ρ c with
    | none => exact absurd h3 h1
    | some q' =>
      have := st.ext c q' h3
      rw [h2] at this
      cases this
      exact hext c _ h3
  have hold : ∀ c, c < s.h.size → s2.h.get c = s.h.get c := by
    intro c hc
    rw [hh, Hp.get_push, if_neg (by omega)]
  have hget : ∀ c, (s.h.set b blk).get c = if c = b then blk else s.h.get c := fun c => Hp.get_set _ _ _ _
  have hlv : ∀ c, ¬ Dead (s.h.set b blk) c → c ≠ b → ¬ Dead s.h c := by
    intro c hd hne
    unfold Dead at *
    rwa [hget, if_neg hne] at hd
  have hbrb : BRel s2.ρ rb blk s2.w.heap := by
    have := ok2.heap.blk _ _ erb
    rwa [hh, Hp.get_push, if_pos rfl] at this
  have heap3 : HRel (s.ρ.put b rb) (s.h.set b blk) s2.w.heap := by
    have inj1 : ∀ c q, s.ρ c = some q → ¬ Dead s.h c → rb.r ≠ q.r := by
      intro c q e hd
      have hc : c < s.h.size := ok.heap.dom c q e
      refine ok2.heap.inj s.h.size c rb q erb (st.ext c q e) hnd ?_ (by omega)
      unfold Dead
      rw [hold c hc]
      exact hd
    refine ⟨fun c q e => ?_, fun c hd => ?_, fun c c' q q' e e' hd hd' hne => ?_, fun c q e => ?_⟩
    · by_cases hc : c = b
      · subst hc; exact hlt
      · rw [Rho.put_other _ _ hc] at e; exact ok.heap.dom c q e
    · by_cases hc : c = b
      · subst hc; exact ⟨rb, Rho.put_same _ _ _⟩
      · obtain ⟨q, e⟩ := ok.heap.live c (hlv c hd hc)
        exact ⟨q, hext c q e⟩
    · by_cases hc : c = b
      · have hc' : c' ≠ b := fun x => hne (hc.trans x.symm)
        rw [hc, Rho.put_same] at e
        cases e
        rw [Rho.put_other _ _ hc'] at e'
        exact inj1 c' q' e' (hlv c' hd' hc')
      · rw [Rho.put_other _ _ hc] at e
        by_cases hc' : c' = b
        · rw [hc', Rho.put_same] at e'
          cases e'
          exact (inj1 c q e (hlv c hd hc)).symm
        · rw [Rho.put_other _ _ hc'] at e'
          exact ok.heap.inj c c' q q' e e' (hlv c hd hc) (hlv c' hd' hc') hne
    · rw [hget]
      by_cases hc : c = b
      · rw [if_pos hc]
        rw [hc, Rho.put_same] at e
        cases e
        exact hbrb.via hvia hbc
      · rw [if_neg hc]
        rw [Rho.put_other _ _ hc] at e
        have h2 := ok2.heap.blk c q (st.ext c q e)
        rw [hold c (ok.heap.dom c q e)] at h2
        exact h2.via hvia (ok.heap.blk c q e).bc
  have liv2 : ∀ r, Liv (s.ρ.put b rb) (s.h.set b blk) r → Liv s2.ρ s2.h r := by
    rintro r ⟨c, q, e, hd, rfl⟩
    by_cases hc : c = b
    · rw [hc, Rho.put_same] at e
      cases e
      exact ⟨s.h.size, rb, erb, hnd, rfl⟩
    · rw [Rho.put_other _ _ hc] at e
      refine ⟨c, q, st.ext c q e, ?_, rfl⟩
      have := hlv c hd hc
      unfold Dead at *
      rwa [hold c (ok.heap.dom c q e)]
  have foot2 : ∀ r, Foot (s.ρ.put b rb) (s.h.set b blk) r → Foot s2.ρ s2.h r := by
    rintro r ⟨c, q, e, ho, rfl⟩
    by_cases hc : c = b
    · rw [hc, Rho.put_same] at e
      cases e
      refine ⟨s.h.size, rb, erb, ?_, rfl⟩
      unfold Own at *
      rw [hget, if_pos hc] at ho
      rw [hh, Hp.get_push, if_pos rfl]
      exact ho
    · rw [Rho.put_other _ _ hc] at e
      refine ⟨c, q, st.ext c q e, ?_, rfl⟩
      unfold Own at *
      rw [hget, if_neg hc] at ho
      rw [hold c (ok.heap.dom c q e)]
      exact ho
  have hp2 : s2.fr.p = s.fr.p := by rw [hfr]; rfl
  have hlk2 : look s2.fr.v d = some V0 := by rw [hfr]; exact (look_cons d V0 s.fr.v d).trans (if_pos rfl)
  refine ⟨{ s2 with ρ := s.ρ.put b rb, h := s.h.set b blk, fr := s.fr.setF d V }, rfl, rfl, rfl, rfl, ⟨rb, rfl⟩, ⟨heap3, fun i x hx => ?_, fun n pv c hn => ?_, fun n m x y hx hy hne => ?_⟩, ?_⟩
  · have hx' : (if d = i then some V else look s.fr.v i) = some x := (look_cons d V s.fr.v i).symm.trans hx
    by_cases hd : d = i
    · rw [if_pos hd] at hx'
      cases hx'
      subst hd
      obtain ⟨g1, g2⟩ := ok2.slots d V0 hlk2
      exact ⟨g1, hren.rel erb (Rho.put_same _ _ _) g2⟩
    · rw [if_neg hd] at hx'
      obtain ⟨g1, g2⟩ := ok.slots i x hx'
      refine ⟨by show i < s2.t.size; rw [st.tsz]; exact g1, ?_⟩
      show FRel (s.ρ.put b rb) s2.π x (s2.t.getD i undef)
      rw [st.tmp i (by simpa using fun c => hd c.symm)]
      have g3 := g2.mono hext
      cases x with
      | v v => exact g3
      | gone => trivial
      | loc n o =>
        have h2 : look s2.fr.v i = some (.loc n o) := by rw [hfr]; exact (look_cons d V0 s.fr.v i).trans ((if_neg hd).trans hx')
        have g4 := (ok2.slots i _ h2).2
        rw [st.tmp i (by simpa using fun c => hd c.symm)] at g4
        exact g4
  · have hn2 : look s2.fr.p n = some (pv, c) := by rw [hp2]; exact hn
    obtain ⟨⟨c1, el, h1, h2⟩, h3⟩ := ok2.priv n pv c hn2
    obtain ⟨⟨c0, el0, h10, h20⟩, _⟩ := ok.priv n pv c hn
    exact ⟨⟨c1, el, h1, h20.via hvia h2⟩, fun f => h3 (liv2 _ f)⟩
  · exact ok2.pinj n m x y (by rw [hp2]; exact hx) (by rw [hp2]; exact hy) hne
  · refine ⟨hext, st.os, st.tape, st.output, st.size, st.old, fun r f => st.foot r (foot2 r f), fun r f => st.liv r (liv2 r f), ?_, st.pi, st.pi2, st.tsz, st.tmp⟩
    rintro r ⟨n, pv, hn, rfl⟩
    exact st.wr _ ⟨n, pv, by rw [hp2]; exact hn, rfl⟩

end Go.Mini
