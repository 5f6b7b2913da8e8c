/- What a master's slide shows and misses, in plain words: nothing here speaks of a program. -/
namespace Go.Frm.Ms

/-- a shape of the slide has this name and is in no group -/
def usedB (G : Nat → Nat → Int) (T : Nat → Nat → ByteArray) : Nat → ByteArray → Bool
  | 0, _ => false
  | n + 1, s => (decide (G n 1 = 0) && decide (T n 10 = s)) || usedB G T n s
theorem usedB_of {G : Nat → Nat → Int} {T : Nat → Nat → ByteArray} {i : Nat} (hi : G i 1 = 0) : ∀ {n : Nat}, i < n → usedB G T n (T i 10) = true
  | n + 1, h => by
    unfold usedB
    by_cases hin : i = n
    · subst hin; simp [hi]
    · simp [usedB_of hi (show i < n by omega)]

/-- is it on the list? -/
def memB (l : List ByteArray) (s : ByteArray) : Bool := l.any fun x => decide (x = s)
theorem memB_of {l : List ByteArray} {s : ByteArray} (h : s ∈ l) : memB l s = true := List.any_eq_true.2 ⟨s, h, by simp⟩
theorem memB_snoc (l : List ByteArray) (x s : ByteArray) : memB (l ++ [x]) s = (memB l s || decide (x = s)) := by simp [memB]
/-- the names that are told -/
def missL (room : ByteArray → Bool) (u : ByteArray → Bool) (G : Nat → Nat → Int) (T : Nat → Nat → ByteArray) : Nat → List ByteArray
  | 0 => []
  | k + 1 => if G k 1 = 0 ∧ room (T k 10) = true ∧ (u (T k 10) || memB (missL room u G T k) (T k 10)) = false then missL room u G T k ++ [T k 10] else missL room u G T k
theorem missL_unused {room u : ByteArray → Bool} {G : Nat → Nat → Int} {T : Nat → Nat → ByteArray} : ∀ {k : Nat} {s : ByteArray}, s ∈ missL room u G T k → u s = false
  | 0, s, h => by simp [missL] at h
  | k + 1, s, h => by
    unfold missL at h
    split at h
    · rename_i hc
      rcases List.mem_append.1 h with h | h
      · exact missL_unused h
      · simp at h
        rw [h]
        have := hc.2.2
        simp at this
        exact this.1
    · exact missL_unused h
theorem missL_len {room u : ByteArray → Bool} {G : Nat → Nat → Int} {T : Nat → Nat → ByteArray} : ∀ k : Nat, (missL room u G T k).length ≤ k
  | 0 => by simp [missL]
  | k + 1 => by
    unfold missL
    have := missL_len (room := room) (u := u) (G := G) (T := T) k
    split
    · simp; omega
    · omega
theorem missL_yes {room u : ByteArray → Bool} {G : Nat → Nat → Int} {T : Nat → Nat → ByteArray} {k : Nat} (h : G k 1 = 0 ∧ room (T k 10) = true ∧ (u (T k 10) || memB (missL room u G T k) (T k 10)) = false) : missL room u G T (k + 1) = missL room u G T k ++ [T k 10] := by
  show (if _ then _ else _) = _
  rw [if_pos h]
theorem missL_no {room u : ByteArray → Bool} {G : Nat → Nat → Int} {T : Nat → Nat → ByteArray} {k : Nat} (h : ¬ (G k 1 = 0 ∧ room (T k 10) = true ∧ (u (T k 10) || memB (missL room u G T k) (T k 10)) = false)) : missL room u G T (k + 1) = missL room u G T k := by
  show (if _ then _ else _) = _
  rw [if_neg h]

/-- a shape that is shown: as it was, or moved to a place -/
def Fr (G F : Nat → Int) : Prop := (∀ j, j < 10 → F j = G j) ∨ (G 1 = 0 ∧ G 5 = 0 ∧ G 6 = 0 ∧ F 0 = G 0 ∧ F 1 = G 1 ∧ F 2 = G 2 ∧ F 8 = G 8 ∧ F 9 = G 9)
/-- the three ways in which one is compared with what it was -/
def Fr3 (G F : Nat → Int) : Prop :=
  (¬ (G 5 = 0 ∧ G 6 = 0) ∧ F 0 = G 0 ∧ F 1 = G 1 ∧ F 2 = G 2 ∧ F 3 = G 3 ∧ F 4 = G 4 ∧ F 5 = G 5 ∧ F 6 = G 6 ∧ F 7 = G 7 ∧ F 8 = G 8 ∧ F 9 = G 9) ∨
  (G 5 = 0 ∧ G 6 = 0 ∧ F 5 = 0 ∧ F 6 = 0 ∧ F 0 = G 0 ∧ F 1 = G 1 ∧ F 2 = G 2 ∧ F 8 = G 8 ∧ F 9 = G 9) ∨
  (G 1 = 0 ∧ G 5 = 0 ∧ G 6 = 0 ∧ ¬ (F 5 = 0 ∧ F 6 = 0) ∧ F 0 = G 0 ∧ F 1 = G 1 ∧ F 2 = G 2 ∧ F 8 = G 8 ∧ F 9 = G 9)
theorem fr3 {G F : Nat → Int} (h : Fr G F) : Fr3 G F := by
  unfold Fr3
  rcases h with h | ⟨h1, h5, h6, e0, e1, e2, e8, e9⟩
  · have h0 := h 0 (by omega); have h1 := h 1 (by omega); have h2 := h 2 (by omega); have h3 := h 3 (by omega); have h4 := h 4 (by omega)
    have h5 := h 5 (by omega); have h6 := h 6 (by omega); have h7 := h 7 (by omega); have h8 := h 8 (by omega); have h9 := h 9 (by omega)
    by_cases hz : G 5 = 0 ∧ G 6 = 0
    · exact .inr (.inl ⟨hz.1, hz.2, by omega, by omega, h0, h1, h2, h8, h9⟩)
    · exact .inl ⟨hz, h0, h1, h2, h3, h4, h5, h6, h7, h8, h9⟩
  · by_cases hz : F 5 = 0 ∧ F 6 = 0
    · exact .inr (.inl ⟨h5, h6, hz.1, hz.2, e0, e1, e2, e8, e9⟩)
    · exact .inr (.inr ⟨h1, h5, h6, hz, e0, e1, e2, e8, e9⟩)
end Go.Frm.Ms
