/- The laws' own toolkit: rows of structs that came in. -/
import Derived.Test.YtcaaljlhljemoaaGreatMW
import Derived.Test.YtcaaljlhljemoaaGreatMLW
namespace Go.Mini

theorem CTy.dec_enc (t : CTy) (x : t.den) : t.dec (t.enc x) = some x := by
  cases t with
  | int k => exact if_pos rfl
  | sl e => exact if_pos rfl
  | _ => rfl

theorem HC.dec_enc : ∀ (ts : List CTy) (x : HC ts), HC.dec ts (HC.enc ts x) = some x
  | [], () => rfl
  | [t], x => CTy.dec_enc t x
  | t :: u :: r, x => by
    show (match t.dec (t.enc x.1) with
      | none => none
      | some a => match HC.dec (u :: r) (HC.enc (u :: r) x.2) with
        | some y => some (a, y)
        | none => none) = some x
    rw [CTy.dec_enc t x.1, HC.dec_enc (u :: r) x.2]
    rfl

theorem rows_get {cts : List CTy} : ∀ (xs : List (HC cts)) (i : Nat) (hi : i < xs.length), ((rowsOf cts xs).drop (i * cts.length)).take cts.length = HC.enc cts xs[i]
  | [], i, hi => by simp at hi
  | x :: xs, 0, hi => by
    show ((HC.enc cts x ++ rowsOf cts xs).drop (0 * cts.length)).take cts.length = HC.enc cts x
    rw [Nat.zero_mul, List.drop_zero, List.take_append_of_le_length (by rw [HC.enc_length]; exact Nat.le_refl _), List.take_of_length_le (by rw [HC.enc_length]; exact Nat.le_refl _)]
  | x :: xs, i + 1, hi => by
    show ((HC.enc cts x ++ rowsOf cts xs).drop ((i + 1) * cts.length)).take cts.length = _
    have e : (HC.enc cts x ++ rowsOf cts xs).drop ((i + 1) * cts.length) = (rowsOf cts xs).drop (i * cts.length) := by
      rw [List.drop_append, HC.enc_length, List.drop_of_length_le (by rw [HC.enc_length, Nat.add_mul]; omega), List.nil_append]
      congr 1
      rw [Nat.add_mul]
      omega
    rw [e]
    simpa using rows_get xs i (by simpa using hi)

/-- One row is read. -/
theorem ldSt_row {h : Hp} {cts : List CTy} {xs : List (HC cts)} {s : Sl} (k : SlIn h s cts.length (rowsOf cts xs)) (h0 : 0 < cts.length) {m i : Nat} (hm : m ≤ s.len) (hi : i < m) (hx : i < xs.length) :
    ∃ q, idx cts.length ⟨s.p, m⟩ (i : Int) h = some (q, h) ∧ ldSt cts q h = some (xs[i], h) := by
  have hl := k.1
  have h5 : i * cts.length + cts.length ≤ s.len * cts.length := by
    have := Nat.mul_le_mul_right cts.length (show i + 1 ≤ s.len by omega)
    rw [Nat.add_mul] at this
    omega
  obtain ⟨b, ro, h1, h2, _⟩ := k.2 (by intro c; rw [c] at hl; simp at hl; omega)
  refine ⟨some ⟨b, i * cts.length⟩, by rw [h1, idx_nat hi]; simp, ?_⟩
  simp only [ldSt, bd, ldn_eq h2 (show i * cts.length + cts.length ≤ _ by omega), rows_get xs i hx, HC.dec_enc]
  rfl

theorem slc_few {e : Nat} {s : Sl} {m : Nat} (hm : m ≤ s.len) (h : Hp) : slc e s 0 (m : Int) h = some (⟨s.p, m⟩, h) := by
  obtain ⟨p, l⟩ := s
  rw [slc_eq (by omega) (by omega) (by simp only at hm; omega)]
  cases p with
  | none => simp
  | some a => simp [MA.add]

end Go.Mini
