/- append of slices and texts, copy, conversions, maps. -/
import Derived.Test.YtfieiaijdalkbaaGreatMG2
import Derived.Laws.Strings
namespace Go.Mini
theorem bytesOf_cells (s : List UInt8) : (bytesOf s).all isCell = true := by
 simp [bytesOf, isCell]
theorem bytesOf_rel (ρ : Rho) (s : List UInt8) : VRels ρ (bytesOf s) (s.map fun b => Value.int .u8 b.toNat) := by
 induction s with
 | nil => exact .nil
 | cons b s ih => exact .cons _ _ _ _ (.int _ _) ih
section
variable {P : Program} {ρ : Rho} {h : Hp} {w : World}
theorem lenOf_sl (b : Option Addr) (n c : Nat) : (Builtin.lenOf (.slice b n c)).run P w = .ok n w := rfl
theorem lenOf_str (s : ByteArray) : (Builtin.lenOf (.string s)).run P w = .ok s.size w := rfl
theorem first_str (e n : Nat) (s : List UInt8) (hn : n ≤ s.length) : (Builtin.firstCells e n (.string ⟨s.toArray⟩)).run P w = .ok ((s.take n).map fun b => Value.int .u8 b.toNat).toArray w := by
 simp only [Builtin.firstCells, Sem.run_pure]
 congr 1
 apply Array.ext'
 simp [ByteArray.data_extract]
theorem cellsOf_heap {e : Nat} {s : Sl} {x : Value} (k : HRel ρ h w.heap) (hx : VRel ρ (.sl s.p s.len e) x) {cs : List MV} {h' : Hp} (he : cellsOf e s h = some (cs, h')) :
  ∃ xs, VRels ρ cs xs.toList ∧ cs.length = s.len * e ∧ h' = h ∧ (Builtin.lenOf x).run P w = .ok s.len w ∧ ∀ w' : World, w'.heap = w.heap → (Builtin.firstCells e s.len x).run P w' = .ok xs w' := by
 obtain ⟨rfl, hl, b, cap, xs, rfl, hle, hrun, hv⟩ := cellsOf_sound (P := P) k hx he
 refine ⟨xs, hv, hl, rfl, rfl, fun w' hw' => ?_⟩
 have k' : HRel ρ h' w'.heap := by rw [hw']; exact k
 obtain ⟨_, _, b', cap', xs', heq, _, hrun', _⟩ := cellsOf_sound (P := P) k' hx he
 cases heq
 -- both runs read the same cells
 have : (Builtin.firstCells e s.len (.slice b s.len cap)).run P w' = .ok xs w' := by
  cases b with
  | none => simpa [Builtin.firstCells] using hrun
  | some a =>
   simp only [Builtin.firstCells] at hrun hrun' ⊢
   have key : ∀ (n i : Nat) (acc : Array Value) (ys : Array Value), (loadCellsFrom a i n acc).run P w = .ok ys w → (loadCellsFrom a i n acc).run P w' = .ok xs' w' → ys = xs' := by
    intro n
    induction n with
    | zero => intro i acc ys h1 h2; simp [loadCellsFrom] at h1 h2; rw [← h1, ← h2]
    | succ n ih =>
     intro i acc ys h1 h2
     simp only [loadCellsFrom, Sem.run_bind, run_load] at h1 h2
     have hc : w'.cell? (a.add i) = w.cell? (a.add i) := by simp [World.cell?, hw']
     rw [hc] at h2
     cases hcell : w.cell? (a.add i) with
     | some v =>
      simp only [hcell, Result.andThen_ok] at h1 h2
      exact ih _ _ _ h1 h2
     | none =>
      have hf : w'.farLoad P (a.add i) (Mode.plain == .atomic) = w.farLoad P (a.add i) (Mode.plain == .atomic) := by
       unfold World.farLoad World.viewLoad World.seen World.noCell
       rw [hw']
      simp only [hcell] at h1 h2
      rw [hf] at h2
      cases hfl : w.farLoad P (a.add i) (Mode.plain == .atomic) with
      | ok r =>
       simp only [hfl, Result.andThen_ok] at h1 h2
       exact ih _ _ _ h1 h2
      | error e => simp [hfl] at h1
   have := key _ _ _ _ hrun hrun'
   rw [this]
   exact hrun'
 exact this
theorem app_sound (k : HRel ρ h w.heap) {T U E F R : TypeId} {dE : TypeDesc} (hu : P.underlying T = some (.slice E)) (hE : P.underlying E = some dE) (hU : P.underlying U = some (.slice F))
  {z : List MV} (hz : zeroOf P E = some z) (hzl : z.length = P.cellsOf E) (hb0 : 0 < P.bytesOf E) (he0 : 0 < P.cellsOf E) {s t : Sl} {x y : Value} (hx : VRel ρ (.sl s.p s.len (P.cellsOf E)) x) (hy : VRel ρ (.sl t.p t.len (P.cellsOf E)) y)
  {r : Sl} {h' : Hp} (e : app (P.cellsOf E) (P.bytesOf E) s t h = some (r, h')) : Out ρ h w ((Builtin.append_ #[T, U] R #[x, y]).run P w) (.sl r.p r.len (P.cellsOf E)) h' := by
 obtain ⟨cs, h1, e1, e2⟩ := bd_some e
 obtain ⟨xs, hv, hl, rfl, hlen, hf⟩ := cellsOf_heap (P := P) k hy e1
 split at e2
 ·rename_i hc
  exact appc_sound k hu hE hU (fun _ h => by cases h) hz hzl hb0 he0 hx hlen hf hv hl hc e2
 ·cases e2
theorem appS_sound (k : HRel ρ h w.heap) {T U E R : TypeId} {kd : IntKind} (hu : P.underlying T = some (.slice E)) (hE : P.underlying E = some (.int kd)) (hU : P.underlying U = some .string) (he1 : P.cellsOf E = 1) (hb1 : P.bytesOf E = 1)
  {z : List MV} (hz : zeroOf P E = some z) (hzl : z.length = P.cellsOf E) {s : Sl} {t : List UInt8} {x y : Value} (hx : VRel ρ (.sl s.p s.len 1) x) (hy : VRel ρ (.str t) y)
  {r : Sl} {h' : Hp} (e : appS s t h = some (r, h')) : Out ρ h w ((Builtin.append_ #[T, U] R #[x, y]).run P w) (.sl r.p r.len 1) h' := by
 cases hy
 have hb := bytesOf_rel ρ t
 have := appc_sound (P := P) (R := R) k hu hE hU (fun _ h => by cases h) hz hzl (by omega) (by omega) (s := s) (x := x) (y := .string ⟨t.toArray⟩) (n := t.length) (xs := (t.map fun b => Value.int .u8 b.toNat).toArray) (new := bytesOf t)
  (by rw [he1]; exact hx) (by simp [lenOf_str, ByteArray.size]) (fun w' _ => by have := first_str (P := P) (w := w') (P.cellsOf E) t.length t (Nat.le_refl _); rw [List.take_length] at this; exact this) (by simpa using hb) (by simp [bytesOf, he1]) (bytesOf_cells t) (r := r) (h' := h') (by rw [he1, hb1]; exact e)
 rw [he1] at this
 exact this
theorem stn_row {q : Option MA} {vs : List MV} {h' : Hp} {n : Nat} (k : HRel ρ h w.heap) (e : stn n q vs h = some ((), h')) {ra : Addr} (hx : VRel ρ (.ptr q) (.pointer (some ra))) {xs : List Value} (hv : VRels ρ vs xs) :
  ∃ w', (storeCells ra xs).run P w = .ok () w' ∧ HRel ρ h' w'.heap ∧ HStp ρ h w ρ h' w' := by
 cases hx with
 | ptr a rb hb =>
  simp only [stn] at e
  split at e
  ·rename_i cs hg
   split at e
   ·rename_i hc
    cases e
    exact row_store (P := P) k hb hg a.off hv hc.2.2 hc.1
   ·cases e
  ·cases e
theorem copy_sound (k : HRel ρ h w.heap) {T U E R : TypeId} {dE : TypeDesc} (hu : P.underlying T = some (.slice E)) (hE : P.underlying E = some dE) (he0 : 0 < P.cellsOf E) {s t : Sl} {x y : Value} (hx : VRel ρ (.sl s.p s.len (P.cellsOf E)) x) (hy : VRel ρ (.sl t.p t.len (P.cellsOf E)) y)
  {n : Int} {h' : Hp} (e : copy (P.cellsOf E) s t h = some (n, h')) : Out ρ h w ((Builtin.copy_ #[T, U] R #[x, y]).run P w) (.int .i64 n) h' := by
 unfold copy at e
 obtain ⟨sp, sl⟩ := s
 obtain ⟨tp, tl⟩ := t
 dsimp only at e hx hy
 -- the source's first cells, as a slice of their own
 have hlt : ∃ tb tc, y = .slice tb tl tc ∧ tl ≤ tc := by
  cases hy with
  | slNil ez => exact ⟨none, 0, rfl, Nat.le_refl _⟩
  | sl a rb len ez cap ra hb hl hc => exact ⟨_, _, rfl, hl⟩
 obtain ⟨tb, tc, rfl, htc⟩ := hlt
 have hls : ∃ sb sc, x = .slice sb sl sc := by
  cases hx with
  | slNil ez => exact ⟨none, 0, rfl⟩
  | sl a rb len ez cap ra hb hl hc => exact ⟨_, _, rfl⟩
 obtain ⟨sb, sc, rfl⟩ := hls
 split at e
 ·rename_i h0
  cases e
  have hm : min tl sl = 0 := by
   rcases Nat.mul_eq_zero.1 h0 with h | h
   ·exact h
   ·omega
  refine Out.same k (rv := .int .i64 0) ?_ (by rw [hm]; exact .int _ _)
  have hf : (Builtin.firstCells (P.cellsOf E) 0 (.slice tb tl tc)).run P w = .ok #[] w := by
   cases tb <;> simp [Builtin.firstCells, loadCells, loadCellsFrom]
  have hmm : Nat.min tl sl = 0 := hm
  cases sb <;> simp [Builtin.copy_, und_run hu, sizeOf_run hE, lenOf_sl, hmm, hf, storeCells, goInt]
 ·rename_i h0
  obtain ⟨cs, h1, e1, e2⟩ := bd_some e
  obtain ⟨u, h2, e3, e4⟩ := bd_some e2
  cases e4
  have hy' : VRel ρ (.sl tp (min tl sl) (P.cellsOf E)) (.slice tb (min tl sl) tc) := by
   cases hy with
   | slNil ez => simp at h0
   | sl a rb len ez cap ra hb hl hc => exact .sl a rb _ _ _ _ hb (by omega) hc
  obtain ⟨xs, hv, hl, rfl, _, hf⟩ := cellsOf_heap (P := P) (s := ⟨tp, min tl sl⟩) k hy' e1
  have hfirst : (Builtin.firstCells (P.cellsOf E) (min tl sl) (.slice tb tl tc)).run P w = .ok xs w := by
   have := hf w rfl
   cases tb <;> exact this
  have hsx : ∃ ra, sb = some ra ∧ VRel ρ (.ptr sp) (.pointer (some ra)) := by
   cases hx with
   | slNil ez => simp at h0
   | sl a rb len ez cap ra hb hl' hc =>
    rcases hc with hc | ⟨rfl, _⟩
    ·exfalso; apply h0; rw [show min tl sl = 0 by omega]; simp
    ·exact ⟨_, rfl, .ptr a rb hb⟩
  obtain ⟨ra, rfl, hp⟩ := hsx
  obtain ⟨w', hst, k', st⟩ := stn_row (P := P) k e3 hp hv
  have hmm : Nat.min tl sl = min tl sl := rfl
  refine ⟨.int .i64 (min tl sl : Nat), ρ, w', ?_, .int _ _, k', st⟩
  simp [Builtin.copy_, und_run hu, sizeOf_run hE, lenOf_sl, hmm, hfirst, hst, goInt]
theorem copyS_sound (k : HRel ρ h w.heap) {T U E R : TypeId} {dE : TypeDesc} (hu : P.underlying T = some (.slice E)) (hE : P.underlying E = some dE) (he1 : P.cellsOf E = 1) {s : Sl} {t : List UInt8} {x y : Value} (hx : VRel ρ (.sl s.p s.len 1) x) (hy : VRel ρ (.str t) y)
  {n : Int} {h' : Hp} (e : copyS s t h = some (n, h')) : Out ρ h w ((Builtin.copy_ #[T, U] R #[x, y]).run P w) (.int .i64 n) h' := by
 unfold copyS at e
 obtain ⟨sp, sl⟩ := s
 dsimp only at e hx
 cases hy
 have hls : ∃ sb sc, x = .slice sb sl sc := by
  cases hx with
  | slNil ez => exact ⟨none, 0, rfl⟩
  | sl a rb len ez cap ra hb hl hc => exact ⟨_, _, rfl⟩
 obtain ⟨sb, sc, rfl⟩ := hls
 have hsz : (⟨t.toArray⟩ : ByteArray).size = t.length := by simp [ByteArray.size]
 have hmm : Nat.min t.length sl = min t.length sl := rfl
 have hfirst := first_str (P := P) (w := w) (P.cellsOf E) (min t.length sl) t (by omega)
 split at e
 ·rename_i h0
  cases e
  refine Out.same k (rv := .int .i64 0) ?_ (by rw [h0]; exact .int _ _)
  rw [h0] at hfirst
  cases sb <;> simp [Builtin.copy_, und_run hu, sizeOf_run hE, lenOf_str, hsz, hmm, h0, hfirst, storeCells, goInt]
 ·rename_i h0
  obtain ⟨u, h2, e3, e4⟩ := bd_some e
  cases e4
  have hsx : ∃ ra, sb = some ra ∧ VRel ρ (.ptr sp) (.pointer (some ra)) := by
   cases hx with
   | slNil ez => simp at h0
   | sl a rb len ez cap ra hb hl' hc =>
    rcases hc with hc | ⟨rfl, _⟩
    ·omega
    ·exact ⟨_, rfl, .ptr a rb hb⟩
  obtain ⟨ra, rfl, hp⟩ := hsx
  obtain ⟨w', hst, k', st⟩ := stn_row (P := P) k e3 hp (bytesOf_rel ρ (t.take (min t.length sl)))
  rw [List.map_take] at hst
  refine ⟨.int .i64 (min t.length sl : Nat), ρ, w', ?_, .int _ _, k', st⟩
  simp [Builtin.copy_, und_run hu, sizeOf_run hE, lenOf_str, hsz, hmm, hfirst, hst, goInt]
theorem strOf_spec : ∀ {cs : List MV} {s : List UInt8}, strOf cs = some s → ∃ ns : List Int, cs = ns.map (.int .u8) ∧ s = ns.map fun n => UInt8.ofNat n.toNat
 | [], s, h => by cases h; exact ⟨[], rfl, rfl⟩
 | .int .u8 n :: r, s, h => by
  simp only [strOf] at h
  split at h
  ·rename_i l hl
   cases h
   obtain ⟨ns, rfl, rfl⟩ := strOf_spec hl
   exact ⟨n :: ns, rfl, rfl⟩
  ·cases h
 | .int .u16 _ :: _, s, h => by simp [strOf] at h
 | .int .u32 _ :: _, s, h => by simp [strOf] at h
 | .int .u64 _ :: _, s, h => by simp [strOf] at h
 | .int .i8 _ :: _, s, h => by simp [strOf] at h
 | .int .i16 _ :: _, s, h => by simp [strOf] at h
 | .int .i32 _ :: _, s, h => by simp [strOf] at h
 | .int .i64 _ :: _, s, h => by simp [strOf] at h
 | .bool _ :: _, s, h => by simp [strOf] at h
 | .str _ :: _, s, h => by simp [strOf] at h
 | .ptr _ :: _, s, h => by simp [strOf] at h
 | .sl _ _ _ :: _, s, h => by simp [strOf] at h
 | .map _ :: _, s, h => by simp [strOf] at h
 | .fn _ _ :: _, s, h => by simp [strOf] at h
 | .nilFn :: _, s, h => by simp [strOf] at h
 | .iface _ _ :: _, s, h => by simp [strOf] at h
 | .nilIface :: _, s, h => by simp [strOf] at h
 | .agg _ :: _, s, h => by simp [strOf] at h
 | .tup _ :: _, s, h => by simp [strOf] at h
theorem ints_rel {ρ : Rho} {k : IntKind} : ∀ {ns : List Int} {xs : List Value}, VRels ρ (ns.map (.int k)) xs → xs = ns.map (.int k)
 | [], xs, h => by cases h; rfl
 | n :: ns, xs, h => by
  cases h with
  | cons _ x _ xs h hs => cases h; rw [ints_rel hs]; rfl
theorem push_fold (ns : List Int) : ∀ (s : ByteArray), ns.foldl (fun r n => r.push (UInt8.ofNat n.toNat)) s = ⟨(s.data.toList ++ ns.map fun n => UInt8.ofNat n.toNat).toArray⟩ := by
 induction ns with
 | nil => intro s; simp
 | cons n ns ih =>
  intro s
  simp only [List.foldl_cons, ih, List.map_cons]
  congr 1
  simp [ByteArray.push]
theorem toStr_sound (k : HRel ρ h w.heap) {s : Sl} {x : Value} (hx : VRel ρ (.sl s.p s.len 1) x) {r : List UInt8} {h' : Hp} (e : toStr s h = some (r, h')) : Out ρ h w ((Conv.bytesToString x).run P w) (.str r) h' := by
 obtain ⟨cs, h1, e1, e2⟩ := bd_some e
 obtain ⟨e3, rfl⟩ := someOr_some e2
 obtain ⟨rfl, hl, b, cap, xs, rfl, hle, hrun, hv⟩ := cellsOf_sound (P := P) k hx e1
 obtain ⟨ns, rfl, rfl⟩ := strOf_spec e3
 have hxs := ints_rel hv
 cases b with
 | none =>
  have : ns = [] := by
   simp [Builtin.firstCells] at hrun
   subst hrun
   cases ns with
   | nil => rfl
   | cons a b => simp at hxs
  subst this
  refine Out.same k (rv := .string .empty) ?_ (.str [])
  simp [Conv.bytesToString]
 | some a =>
  have hload : (loadCells a s.len).run P w = .ok (ns.map (Value.int .u8)).toArray w := by
   simp only [Builtin.firstCells, Nat.mul_one] at hrun
   rw [hrun, ← hxs]
  refine Out.same k (run_bytesToString w a s.len cap ns hload) ?_
  rw [push_fold]
  exact .str _
theorem toBytes_sound (k : HRel ρ h w.heap) {E : TypeId} {s : List UInt8} {r : Sl} {h' : Hp} (e : toBytes s h = some (r, h')) : Out ρ h w ((Conv.stringToBytes E ⟨s.toArray⟩).run P w) (.sl r.p r.len 1) h' := by
 unfold toBytes at e
 split at e
 ·rename_i hm
  cases e
  have hsz : (⟨s.toArray⟩ : ByteArray).size = s.length := by simp [ByteArray.size]
  generalize hnc : s.length + w.tape w.drawn (.appendCap s.length 0 E) % (2 ^ 63 - s.length) = nc
  have hge : s.length ≤ nc := by omega
  have hmost : most = 70368744177664 := rfl
  have hnc2 : nc ≤ 9223372036854775807 := by
   have := Nat.mod_lt (w.tape w.drawn (.appendCap s.length 0 E)) (show 0 < 2 ^ 63 - s.length by omega)
   omega
  let row : Array Value := (s.map fun b => Value.int .u8 b.toNat).toArray ++ Array.replicate (nc - s.length) (.int .u8 0)
  have hrow : row.size = nc := by simp [row]; omega
  let w1 : World := ({ w with drawn := w.drawn + 1 } : World).alloc (.cells row E)
  let w2 : World := w1.freeze ⟨w.heap.size, nc, none⟩ 1
  have hw2 : w2.heap = w.heap.push (.cells row E (nc, nc + 1)) := by
   simp only [w2, w1, World.freeze, World.alloc, Nat.one_ne_zero, if_false]
   apply Array.ext_getElem?
   intro i
   rw [Array.getElem?_modify, Array.getElem?_push, Array.getElem?_push]
   by_cases e : i = w.heap.size
   ·subst e; simp
   ·simp [e, Ne.symm e]
  have hal := k.alloc (w' := w2) (.cells (bytesOf s) false) (by simp) nc _ hw2 rfl rfl rfl (by
   intro ρ' hx
   refine ⟨row, E, (nc, nc + 1), by rw [hw2]; simp, by simp [hrow], by simp [bytesOf]; omega, ?_, fun _ => .inr ⟨hm.2, by dsimp only; omega⟩⟩
   intro i v hi
   simp only [bytesOf, List.getElem?_map, Option.map_eq_some_iff] at hi
   obtain ⟨b, hb, rfl⟩ := hi
   refine ⟨.int .u8 b.toNat, ?_, .int _ _⟩
   have hil : i < s.length := (List.getElem?_eq_some_iff.1 hb).1
   simp only [Nat.zero_add, row]
   rw [Array.getElem?_append_left (by simpa using hil)]
   simp [hb])
  refine ⟨.slice (some ⟨w.heap.size, 0, none⟩) s.length nc, _, w2, ?_, ?_, hal.1, hal.2⟩
  ·have hsh : w1.shape? w.heap.size = some (E, nc) := by
    simp only [World.shape?]
    have : w1.heap[w.heap.size]? = some (.cells row E) := heap_alloc_new _ _
    rw [this]; simp [hrow]
   have hfs : (⟨s.toArray⟩ : ByteArray).data.map (fun b => Value.int .u8 b.toNat) = (s.map fun b => Value.int .u8 b.toNat).toArray := by simp
   have e1 : (newRow E row).run P ({ w with drawn := w.drawn + 1 } : World) = .ok ⟨w.heap.size, 0, none⟩ w1 := by simp only [newRow, Sem.run_bind, run_newObj]; rfl
   have e2 : (markStringish ⟨w.heap.size, 0, none⟩).run P w1 = .ok () w2 := by simp [markStringish, hsh, w2]
   have e3 : ((choose (.appendCap s.length 0 E)).run P w) = .ok nc ({ w with drawn := w.drawn + 1 } : World) := by
    rw [run_choose, if_neg (by simp [Question.forced])]
    simp only [Question.cut, hnc]
   unfold Conv.stringToBytes
   rw [hsz, hfs, Sem.run_bind, e3, Result.andThen_ok, Sem.run_bind, e1, Result.andThen_ok, Sem.run_bind, e2]
   rfl
  ·exact sl_new (Rho.put_same _ _ _) nc hge (by omega)
 ·cases e
theorem mark_sound (k : HRel ρ h w.heap) {T E : TypeId} (hu : P.underlying T = some (.slice E)) (hE : P.underlying E = some (.int .u8)) {s : Sl} {x : Value} (hx : VRel ρ (.sl s.p s.len 1) x) {r : Sl} {h' : Hp} (e : markB s h = some (r, h')) :
  Out ρ h w ((convert T T x).run P w) (.sl r.p r.len 1) h' := by
 obtain ⟨p, l⟩ := s
 unfold markB at e
 cases p with
 | none => cases e
 | some a =>
  dsimp only at e hx
  split at e
  ·rename_i cs hg
   split at e
   ·rename_i hl0
    cases e
    cases hx with
    | sl _ rb _ _ cap ra hb hl hc =>
     have hk := k.blk _ _ hb
     rw [hg] at hk
     obtain ⟨c, el, fz, h1, h2, h3, h4, h5⟩ := hk
     rcases hc with hc | ⟨rfl, hc⟩
     ·omega
     ·obtain ⟨lo, hi⟩ := fz
      have hsh : w.shape? rb.r = some (el, c.size) := by simp only [World.shape?, h1]
      let w2 : World := w.freeze ⟨rb.r, c.size, none⟩ 1
      have hw2 : w2.heap = w.heap.modify rb.r fun
        | .cells c' elem (lo, hi) => .cells c' elem (if lo == hi then (c.size, c.size + 1) else (min lo c.size, max hi (c.size + 1)))
        | o => o := by
       simp only [w2, World.freeze, Nat.one_ne_zero, if_false]
       rfl
      have hnew : w2.heap[rb.r]? = some (.cells c el (if lo == hi then (c.size, c.size + 1) else (min lo c.size, max hi (c.size + 1)))) := by
       rw [hw2, Array.getElem?_modify, if_pos rfl, h1]
       rfl
      have hwr := k.write (w' := w2) (.cells cs false) hb (.inl ⟨cs, hg⟩) (by simp) (by simp) (by rw [hw2]; simp) (fun i hi => by rw [hw2, Array.getElem?_modify, if_neg (Ne.symm hi)]) (by simp only [w2, World.freeze, Nat.one_ne_zero, if_false]) (by simp only [w2, World.freeze, Nat.one_ne_zero, if_false]) (by simp only [w2, World.freeze, Nat.one_ne_zero, if_false])
       ⟨c, el, _, hnew, h2, h3, h4, fun _ => by
        have := (h5 rfl).imp id And.right
        dsimp only at this
        by_cases he : lo = hi
        ·refine .inr ⟨hl0.2, ?_⟩; simp [he]; omega
        ·refine .inr ⟨hl0.2, ?_⟩; simp [he]; omega⟩
      refine ⟨.slice (some ⟨rb.r, rb.o + a.off, none⟩) l cap, ρ, w2, ?_, .sl a rb l 1 cap _ hb hl (.inr ⟨rfl, hc⟩), hwr.1, hwr.2⟩
      simp [convert, und_run hu, und_run hE, markStringish, hsh, w2]
   ·cases e
  ·cases e
theorem bytes_eq {s t : List UInt8} : ((⟨s.toArray⟩ : ByteArray).toList == (⟨t.toArray⟩ : ByteArray).toList) = decide (s = t) := by
 rw [ByteArray.toList_mk, ByteArray.toList_mk]
 by_cases e : s = t
 ·simp [e]
 ·simp [e]
end
end Go.Mini
