/- What (*work).best remembers: its memory, and what may change of the rest. -/
import Derived.Test.YtmjhmcjlbcadaaaLnBestPlain
namespace Go.Proofs.Ytmjhmcjlbcadaaa.Ln
open Go.RowKit Go.Frm

/-- a plan as cells, and as one value -/
def plV (p : Pl) : Nat → Value
  | 0 => .bool true
  | 1 => .int .i64 p.en
  | 2 => .int .i64 p.co
  | _ => .int .i64 p.li
def nilV : Nat → Value
  | 0 => .bool false
  | _ => .int .i64 0
def plA (p : Pl) : Value := .agg #[.bool true, .int .i64 p.en, .int .i64 p.co, .int .i64 p.li]
def plC (p : Pl) : Array Value := #[.bool true, .int .i64 p.en, .int .i64 p.co, .int .i64 p.li]
/-- a row of plans: those that are known -/
def memV (K : Nat → Bool) (T : Nat → Pl) (q : Nat) : Nat → Value := if K q then plV (T q) else nilV
def rowVal (L : Nat) : Option Nat → Value
  | none => .slice none 0 0
  | some g => .slice (some ⟨g, 0, none⟩) (2 * L) (2 * L)

structure Mem (w : World) (base wb kb b n L : Nat) (T : Nat → Nat → Pl) (R : Nat → Option Nat) : Prop where
  wk : Blk w wb 52 #[.pointer (some ⟨b, 0, none⟩), .slice (some ⟨kb, 0, none⟩) (n + 1) (n + 1)]
  kn : Blk w kb 66 (tabV (n + 1) fun j => rowVal L (R j)).toArray
  row : ∀ j g, R j = some g → base ≤ g ∧ ∃ K : Nat → Bool, Blk w g 56 (rowF (2 * L) 4 (memV K (T j))).toArray
  inj : ∀ i j g, R i = some g → R j = some g → i = j
  hi : ∀ j, n < j → R j = none
  low : base ≤ kb ∧ base ≤ wb

/-- not what is remembered in -/
def Out (kb : Nat) (R : Nat → Option Nat) (g : Nat) : Prop := g ≠ kb ∧ ∀ j, R j ≠ some g
/-- all but what is remembered stays -/
structure Kept (kb : Nat) (R R' : Nat → Option Nat) (w w' : World) : Prop where
  os : w'.os = w.os
  tape : w'.tape = w.tape
  output : w'.output = w.output
  size : w.heap.size ≤ w'.heap.size
  block : ∀ q, q < w.heap.size → Out kb R q → w'.heap[q]? = w.heap[q]?
  ext : ∀ j g, R' j = some g → R j = some g ∨ w.heap.size ≤ g
  keep : ∀ j g, R j = some g → R' j = some g
section
variable {kb : Nat} {R R1 R2 : Nat → Option Nat} {w w1 w2 : World}
theorem Kept.refl (kb : Nat) (R : Nat → Option Nat) (w : World) : Kept kb R R w w := ⟨rfl, rfl, rfl, Nat.le_refl _, fun _ _ _ => rfl, fun _ _ h => .inl h, fun _ _ h => h⟩
theorem Out.kept {g : Nat} (h : Out kb R g) (hg : g < w.heap.size) (hk : Kept kb R R1 w w1) : Out kb R1 g :=
  ⟨h.1, fun j hj => by
    rcases hk.ext j g hj with h1 | h1
    · exact h.2 j h1
    · omega⟩
theorem Kept.trans (h : Kept kb R R1 w w1) (h' : Kept kb R1 R2 w1 w2) : Kept kb R R2 w w2 :=
  ⟨h'.os.trans h.os, h'.tape.trans h.tape, h'.output.trans h.output, Nat.le_trans h.size h'.size, fun q hq ho => (h'.block q (Nat.lt_of_lt_of_le hq h.size) (ho.kept hq h)).trans (h.block q hq ho), fun j g hg => by
    rcases h'.ext j g hg with h1 | h1
    · exact h.ext j g h1
    · exact .inr (Nat.le_trans h.size h1), fun j g hg => h'.keep j g (h.keep j g hg)⟩
theorem Kept.below (h : Kept kb R R1 w w1) (hb : Below w1.heap.size w1 w2) : Kept kb R R1 w w2 :=
  ⟨hb.os.trans h.os, hb.tape.trans h.tape, hb.output.trans h.output, Nat.le_trans h.size hb.size, fun q hq ho => (hb.block q (Nat.lt_of_lt_of_le hq h.size)).trans (h.block q hq ho), h.ext, h.keep⟩
theorem Kept.setCell (h : Kept kb R R1 w w1) {p : Addr} (hp : w.heap.size ≤ p.block ∨ ¬ Out kb R p.block) (u : Value) : Kept kb R R1 w (w1.setCell p u) :=
  ⟨h.os, h.tape, h.output, by simpa [World.setCell] using h.size, fun q hq ho => by
    rw [Below.heap_setCell w1 p u q]
    · exact h.block q hq ho
    · rcases hp with h1 | h1
      · omega
      · intro e; rw [e] at ho; exact h1 ho, h.ext, h.keep⟩
theorem Kept.to_below (h : Kept kb R R1 w w1) {base : Nat} (hb : base ≤ w.heap.size) (hk : base ≤ kb) (hr : ∀ j g, R j = some g → base ≤ g) : Below base w w1 :=
  ⟨h.os, h.tape, h.output, h.size, fun q hq => h.block q (by omega) ⟨by omega, fun j hj => by have := hr j q hj; omega⟩⟩
theorem Blk.kept {g : Nat} {t : TypeId} {cs : Array Value} (h : Blk w g t cs) (ho : Out kb R g) (hk : Kept kb R R1 w w1) : Blk w1 g t cs := (hk.block g h.lt ho).trans h
theorem RdF.kept {g : Nat} {n size : Nat} {f : Nat → Nat → Value} (h : RdF w (some ⟨g, 0, none⟩) n size f) (ho : Out kb R g) (hk : Kept kb R R1 w w1) : RdF w1 (some ⟨g, 0, none⟩) n size f := by
  rcases h with h | ⟨b, off, e, hc⟩
  · exact .inl h
  · injection e with e
    injection e with e1 e2
    subst e1 e2
    refine .inr ⟨g, 0, rfl, fun i j hi hj => ?_⟩
    have h1 := hc i j hi hj
    have hl := World.block_lt_of_cell? _ _ h1
    have h2 := hk.block g hl ho
    rw [← h1]
    simp only [World.cell?, h2]
end
section
variable {w w' : World} {base wb kb b n L : Nat} {T : Nat → Nat → Pl} {R : Nat → Option Nat}
theorem Mem.ne (h : Mem w base wb kb b n L T R) {j g : Nat} (hj : R j = some g) : g ≠ kb ∧ g ≠ wb := by
  obtain ⟨_, K, hb⟩ := h.row j g hj
  constructor
  · intro e
    subst e
    have h1 := hb.symm.trans h.kn
    injection h1 with h1
    injection h1 with _ h1
    exact absurd h1 (by decide)
  · intro e
    subst e
    have h1 := hb.symm.trans h.wk
    injection h1 with h1
    injection h1 with _ h1
    exact absurd h1 (by decide)
theorem Mem.below (h : Mem w base wb kb b n L T R) (hb : Below w.heap.size w w') : Mem w' base wb kb b n L T R :=
  ⟨h.wk.below hb h.wk.lt, h.kn.below hb h.kn.lt, fun j g hj => by
    obtain ⟨h1, K, h2⟩ := h.row j g hj
    exact ⟨h1, K, h2.below hb h2.lt⟩, h.inj, h.hi, h.low⟩
theorem Mem.lt (h : Mem w base wb kb b n L T R) {j g : Nat} (hj : R j = some g) : g < w.heap.size := by
  obtain ⟨_, K, h2⟩ := h.row j g hj
  exact h2.lt
/-- what is made anew is outside -/
theorem Mem.out (h : Mem w base wb kb b n L T R) {g : Nat} (hg : w.heap.size ≤ g) : Out kb R g :=
  ⟨by have := h.kn.lt; omega, fun j hj => by have := h.lt hj; omega⟩
/-- a store outside -/
theorem Mem.far (h : Mem w base wb kb b n L T R) {p : Addr} (ho : Out kb R p.block) (hw : p.block ≠ wb) (u : Value) : Mem (w.setCell p u) base wb kb b n L T R :=
  ⟨h.wk.far (fun e => hw e.symm) u, h.kn.far (fun e => ho.1 e.symm) u, fun j g hj => by
    obtain ⟨h1, K, h2⟩ := h.row j g hj
    exact ⟨h1, K, h2.far (fun e => ho.2 j (by rw [← e]; exact hj)) u⟩, h.inj, h.hi, h.low⟩
theorem Mem.c1 (h : Mem w base wb kb b n L T R) : w.cell? ⟨wb, 1, none⟩ = some (.slice (some ⟨kb, 0, none⟩) (n + 1) (n + 1)) := h.wk.cell 1
theorem Mem.c0 (h : Mem w base wb kb b n L T R) : w.cell? ⟨wb, 0, none⟩ = some (.pointer (some ⟨b, 0, none⟩)) := h.wk.cell 0
theorem Mem.ck (h : Mem w base wb kb b n L T R) {j : Nat} (hj : j ≤ n) : w.cell? ⟨kb, j, none⟩ = some (rowVal L (R j)) := by
  rw [h.kn.cell]
  simp only [List.getElem?_toArray]
  exact tabV_get _ (by omega)
theorem Mem.fk (h : Mem w base wb kb b n L T R) (j : Nat) : w.frozen? ⟨kb, j, none⟩ = false := h.kn.frozen j
theorem Mem.cr (h : Mem w base wb kb b n L T R) {j g : Nat} (hj : R j = some g) : ∃ K : Nat → Bool, (∀ q c, q < 2 * L → c < 4 → w.cell? ⟨g, q * 4 + c, none⟩ = some (memV K (T j) q c)) ∧ ∀ i, w.frozen? ⟨g, i, none⟩ = false := by
  obtain ⟨_, K, h2⟩ := h.row j g hj
  refine ⟨K, fun q c hq hc => ?_, h2.frozen⟩
  rw [h2.cell]
  simp only [List.getElem?_toArray]
  exact rowF_get _ _ _ _ _ hq hc
/-- a row is made -/
theorem madeCells_row (n : Nat) : madeCells #[.bool false, .int .i64 0, .int .i64 0, .int .i64 0] (n * 4) = (rowF n 4 fun _ => nilV).toArray := by
  apply Array.ext
  · simp [size_madeCells, rowF_length]
  · intro i h1 h2
    have hi : i < n * 4 := by simpa [size_madeCells] using h1
    have hq : i / 4 < n := by omega
    have := rowF_get n 4 (fun _ => nilV) (i / 4) (i % 4) hq (by omega)
    rw [show i / 4 * 4 + i % 4 = i by omega] at this
    have h3 : (rowF n 4 fun _ => nilV).toArray[i] = nilV (i % 4) := by
      have h4 : (rowF n 4 fun _ => nilV)[i]? = some (nilV (i % 4)) := this
      rw [List.getElem?_eq_getElem (by simpa using h2)] at h4
      simpa using h4
    rw [h3]
    simp only [madeCells, Array.getElem_map, Array.getElem_range]
    rcases (show i % 4 = 0 ∨ i % 4 = 1 ∨ i % 4 = 2 ∨ i % 4 = 3 by omega) with e | e | e | e <;> rw [show i % (#[Value.bool false, .int .i64 0, .int .i64 0, .int .i64 0] : Array Value).size = i % 4 from rfl, e] <;> rfl
theorem Mem.made (h : Mem w base wb kb b n L T R) {fr : Nat} (hf : fr ≤ n) (hR : R fr = none) (hbase : base ≤ w.heap.size) :
    Mem ((w.alloc (.cells (madeCells #[.bool false, .int .i64 0, .int .i64 0, .int .i64 0] (2 * L * 4)) 56)).setCell ⟨kb, fr, none⟩ (rowVal L (some w.heap.size))) base wb kb b n L T (upd R fr (some w.heap.size)) := by
  have hkl := h.kn.lt
  have hwl := h.wk.lt
  have hkw : wb ≠ kb := by
    intro e
    have h1 := h.wk
    rw [e] at h1
    have h2 := h1.symm.trans h.kn
    injection h2 with h2
    injection h2 with _ h2
    exact absurd h2 (by decide)
  refine ⟨(h.wk.alloc _).far hkw _, ?_, fun j g hj => ?_, fun i j g hi hj => ?_, fun j hj => ?_, h.low⟩
  · have h1 := (h.kn.alloc (.cells (madeCells #[.bool false, .int .i64 0, .int .i64 0, .int .i64 0] (2 * L * 4)) 56)).set_ fr (rowVal L (some w.heap.size))
    rw [List.setIfInBounds_toArray, tabV_set] at h1
    rwa [tabV_congr (F := fun j => rowVal L (upd R fr (some w.heap.size) j)) (G := upd (fun j => rowVal L (R j)) fr (rowVal L (some w.heap.size))) (fun i _ => by unfold upd; split <;> rfl)]
  · by_cases e : j = fr
    · subst e
      rw [upd_same] at hj
      injection hj with hj
      subst hj
      refine ⟨hbase, fun _ => false, ?_⟩
      have h1 := Blk.new w 56 (madeCells #[.bool false, .int .i64 0, .int .i64 0, .int .i64 0] (2 * L * 4))
      have h2 := h1.far (p := ⟨kb, j, none⟩) (by show w.heap.size ≠ kb; omega) (rowVal L (some w.heap.size))
      have h3 : madeCells #[.bool false, .int .i64 0, .int .i64 0, .int .i64 0] (2 * L * 4) = (rowF (2 * L) 4 (memV (fun _ => false) (T j))).toArray := madeCells_row (2 * L)
      rw [← h3]
      exact h2
    · rw [upd_other _ _ e] at hj
      obtain ⟨h1, K, h2⟩ := h.row j g hj
      exact ⟨h1, K, (h2.alloc _).far (p := ⟨kb, fr, none⟩) (h.ne hj).1 _⟩
  · by_cases ei : i = fr
    · by_cases ej : j = fr
      · rw [ei, ej]
      · rw [ei, upd_same] at hi
        injection hi with hi
        rw [upd_other _ _ ej] at hj
        have := h.lt hj
        omega
    · rw [upd_other _ _ ei] at hi
      by_cases ej : j = fr
      · rw [ej, upd_same] at hj
        injection hj with hj
        have := h.lt hi
        omega
      · rw [upd_other _ _ ej] at hj
        exact h.inj i j g hi hj
  · rw [upd_other _ _ (by omega)]
    exact h.hi j hj
theorem Mem.drewN (h : Mem w base wb kb b n L T R) (m : Nat) : Mem (w.drewN m) base wb kb b n L T R := ⟨h.wk, h.kn, h.row, h.inj, h.hi, h.low⟩
/-- all that is known behind the making of a row -/
theorem Mem.made_all {wa wx : World} (h : Mem w base wb kb b n L T R) {fr : Nat} (hf : fr ≤ n) (hR : R fr = none) (hbase : base ≤ w.heap.size) {g8 : Nat} {t : TypeId} {cs : Array Value} (hb : Blk w g8 t cs) (ho : Out kb R g8) (hk : Kept kb R R wa w) (hl : Below base wx w) :
    ∃ R1 g, R1 fr = some g ∧ Blk ((w.alloc (.cells (madeCells #[.bool false, .int .i64 0, .int .i64 0, .int .i64 0] (2 * L * 4)) 56)).setCell ⟨kb, fr, none⟩ (rowVal L (some w.heap.size))).drew g8 t cs ∧ Out kb R1 g8 ∧
      Kept kb R R1 wa ((w.alloc (.cells (madeCells #[.bool false, .int .i64 0, .int .i64 0, .int .i64 0] (2 * L * 4)) 56)).setCell ⟨kb, fr, none⟩ (rowVal L (some w.heap.size))).drew ∧
      Mem ((w.alloc (.cells (madeCells #[.bool false, .int .i64 0, .int .i64 0, .int .i64 0] (2 * L * 4)) 56)).setCell ⟨kb, fr, none⟩ (rowVal L (some w.heap.size))).drew base wb kb b n L T R1 ∧
      Below base wx ((w.alloc (.cells (madeCells #[.bool false, .int .i64 0, .int .i64 0, .int .i64 0] (2 * L * 4)) 56)).setCell ⟨kb, fr, none⟩ (rowVal L (some w.heap.size))).drew := by
  have h1 := (hk.below ((Below.refl w.heap.size w).alloc (Nat.le_refl _) (.cells (madeCells #[.bool false, .int .i64 0, .int .i64 0, .int .i64 0] (2 * L * 4)) 56))).setCell (p := ⟨kb, fr, none⟩) (.inr fun e => e.1 rfl) (rowVal L (some w.heap.size))
  refine ⟨_, _, upd_same _ _ _, (hb.alloc _).far (p := ⟨kb, fr, none⟩) ho.1 _, ⟨ho.1, fun j hj => ?_⟩, ⟨h1.os, h1.tape, h1.output, h1.size, h1.block, fun j g hj => ?_, fun j g hj => ?_⟩, (h.made hf hR hbase).drewN 1, below_drewN ((hl.alloc hbase _).setCell (p := ⟨kb, fr, none⟩) h.low.1 _) 1⟩
  · by_cases e : j = fr
    · rw [e, upd_same] at hj
      injection hj with hj
      have := hb.lt
      omega
    · rw [upd_other _ _ e] at hj
      exact ho.2 j hj
  · by_cases e : j = fr
    · rw [e, upd_same] at hj
      injection hj with hj
      have := hk.size
      exact .inr (by omega)
    · rw [upd_other _ _ e] at hj
      exact hk.ext j g hj
  · have h2 := hk.keep j g hj
    by_cases e : j = fr
    · rw [e, hR] at h2
      cases h2
    · rw [upd_other _ _ e]
      exact h2
/-- a plan is remembered -/
def put4 (w : World) (g q : Nat) (p : Pl) : World := (((w.setCell ⟨g, q * 4, none⟩ (.bool true)).setCell ⟨g, q * 4 + 1, none⟩ (.int .i64 p.en)).setCell ⟨g, q * 4 + 2, none⟩ (.int .i64 p.co)).setCell ⟨g, q * 4 + 3, none⟩ (.int .i64 p.li)
theorem Mem.put (h : Mem w base wb kb b n L T R) {fr g q : Nat} (hR : R fr = some g) (hq : q < 2 * L) : Mem (put4 w g q (T fr q)) base wb kb b n L T R := by
  have hn := h.ne hR
  have hset : ∀ (w : World) (cs : Array Value), Blk w g 56 cs → Blk (put4 w g q (T fr q)) g 56 ((((cs.setIfInBounds (q * 4) (.bool true)).setIfInBounds (q * 4 + 1) (.int .i64 (T fr q).en)).setIfInBounds (q * 4 + 2) (.int .i64 (T fr q).co)).setIfInBounds (q * 4 + 3) (.int .i64 (T fr q).li)) :=
    fun w cs hb => (((hb.set_ _ _).set_ _ _).set_ _ _).set_ _ _
  have hfar : ∀ {x : Nat} {t : TypeId} {cs : Array Value}, x ≠ g → Blk w x t cs → Blk (put4 w g q (T fr q)) x t cs := fun hx hb =>
    (((hb.far (p := ⟨g, q * 4, none⟩) hx _).far (p := ⟨g, q * 4 + 1, none⟩) hx _).far (p := ⟨g, q * 4 + 2, none⟩) hx _).far (p := ⟨g, q * 4 + 3, none⟩) hx _
  refine ⟨hfar (fun e => hn.2 e.symm) h.wk, hfar (fun e => hn.1 e.symm) h.kn, fun j g' hj => ?_, h.inj, h.hi, h.low⟩
  obtain ⟨h1, K, h2⟩ := h.row j g' hj
  refine ⟨h1, ?_⟩
  by_cases e : g' = g
  · subst e
    have ej := h.inj j fr g' hj hR
    subst ej
    refine ⟨upd K q true, ?_⟩
    have h3 := hset w _ h2
    have e0 := rowF_set (2 * L) 4 (memV K (T j)) (i := q) (j := 0) (by omega) (.bool true)
    rw [Nat.add_zero] at e0
    rw [List.setIfInBounds_toArray, List.setIfInBounds_toArray, List.setIfInBounds_toArray, List.setIfInBounds_toArray, e0, rowF_set _ _ _ (by omega), rowF_set _ _ _ (by omega), rowF_set _ _ _ (by omega)] at h3
    rw [rowF_congr (f := memV (upd K q true) (T j)) (g := upd2 (upd2 (upd2 (upd2 (memV K (T j)) q 0 (.bool true)) q 1 (.int .i64 (T j q).en)) q 2 (.int .i64 (T j q).co)) q 3 (.int .i64 (T j q).li)) (fun a c ha hc => ?_)]
    · exact h3
    · unfold memV
      by_cases ha : a = q
      · subst ha
        rw [upd_same, if_pos rfl]
        match c, hc with
        | 0, _ => simp [upd2, plV]
        | 1, _ => simp [upd2, plV]
        | 2, _ => simp [upd2, plV]
        | 3, _ => simp [upd2, plV]
      · rw [upd_other _ _ ha]
        simp [upd2, ha]
  · exact ⟨K, hfar e h2⟩
theorem Mem.ne_wb (h : Mem w base wb kb b n L T R) {g : Nat} {cs : Array Value} (hb : Blk w g 56 cs) : g ≠ wb := by
  intro e
  subst e
  have h1 := hb.symm.trans h.wk
  injection h1 with h1
  injection h1 with _ h1
  exact absurd h1 (by decide)
/-- a plan in a box of the call's own -/
def set4 (w : World) (g : Nat) (p : Pl) : World := (((w.setCell ⟨g, 0, none⟩ (.bool true)).setCell ⟨g, 1, none⟩ (.int .i64 p.en)).setCell ⟨g, 2, none⟩ (.int .i64 p.co)).setCell ⟨g, 3, none⟩ (.int .i64 p.li)
theorem Mem.set4 {R0 : Nat → Option Nat} {wa : World} (h : Mem w base wb kb b n L T R) {g : Nat} {cs : Array Value} (hb : Blk w g 56 cs) (ho : Out kb R g) (hk : Kept kb R0 R wa w) (hg : wa.heap.size ≤ g) (p : Pl) :
    Mem (set4 w g p) base wb kb b n L T R ∧ Kept kb R0 R wa (Ln.set4 w g p) := by
  have hw := h.ne_wb hb
  exact ⟨(((h.far (p := ⟨g, 0, none⟩) ho hw _).far (p := ⟨g, 1, none⟩) ho hw _).far (p := ⟨g, 2, none⟩) ho hw _).far (p := ⟨g, 3, none⟩) ho hw _,
    (((hk.setCell (p := ⟨g, 0, none⟩) (.inl hg) _).setCell (p := ⟨g, 1, none⟩) (.inl hg) _).setCell (p := ⟨g, 2, none⟩) (.inl hg) _).setCell (p := ⟨g, 3, none⟩) (.inl hg) _⟩
/-- the cells of a box while it is filled -/
theorem set4_cells {g : Nat} {t : TypeId} {v0 v1 v2 v3 : Value} (hb : Blk w g t #[v0, v1, v2, v3]) (p : Pl) :
    (w.setCell ⟨g, 0, none⟩ (.bool true)).cell? ⟨g, 0, none⟩ = some (.bool true) ∧ ((w.setCell ⟨g, 0, none⟩ (.bool true)).setCell ⟨g, 1, none⟩ (.int .i64 p.en)).cell? ⟨g, 1, none⟩ = some (.int .i64 p.en) ∧
    (((w.setCell ⟨g, 0, none⟩ (.bool true)).setCell ⟨g, 1, none⟩ (.int .i64 p.en)).setCell ⟨g, 2, none⟩ (.int .i64 p.co)).cell? ⟨g, 2, none⟩ = some (.int .i64 p.co) ∧
    ((((w.setCell ⟨g, 0, none⟩ (.bool true)).setCell ⟨g, 1, none⟩ (.int .i64 p.en)).setCell ⟨g, 2, none⟩ (.int .i64 p.co)).setCell ⟨g, 3, none⟩ (.int .i64 p.li)).cell? ⟨g, 3, none⟩ = some (.int .i64 p.li) :=
  ⟨(hb.set_ 0 (.bool true)).cell 0, ((hb.set_ 0 (.bool true)).set_ 1 (.int .i64 p.en)).cell 1, (((hb.set_ 0 (.bool true)).set_ 1 (.int .i64 p.en)).set_ 2 (.int .i64 p.co)).cell 2, ((((hb.set_ 0 (.bool true)).set_ 1 (.int .i64 p.en)).set_ 2 (.int .i64 p.co)).set_ 3 (.int .i64 p.li)).cell 3⟩
end
end Go.Proofs.Ytmjhmcjlbcadaaa.Ln
