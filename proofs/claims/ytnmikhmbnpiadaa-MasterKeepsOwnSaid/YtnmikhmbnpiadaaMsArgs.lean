/- Drawings as arguments, their names of bounded size. -/
import Derived.Test.YtnmikhmbnpiadaaShapeMake
import Derived.Test.YtnmikhmbnpiadaaShapeCheck
import Derived.Test.YtnmikhmbnpiadaaArgs
namespace Go.Proofs.Ytnmikhmbnpiadaa.Shp
open Go.RowKit Go.Frm Go.ChangeShapes Go.WideShapes Go.ChangeAt Go.Deep Go.Joins Wi

theorem spk_bd (G : Nat → Nat → Int) {i : Nat} (h : 0 < i) : 0 ≤ spk G i ∧ spk G i ≤ (i : Int) - 1 := wi_bd _ (by omega)
theorem spar_cases (G : Nat → Nat → Int) (i : Nat) : spar G i = 0 ∨ ∃ p : Nat, p < i ∧ spar G i = (p : Int) + 1 ∧ skind G p = 5 := by
  unfold spar
  split
  · rename_i h
    have hb := spk_bd G h.1
    exact .inr ⟨(spk G i).toNat, by omega, by omega, h.2.2⟩
  · exact .inl rfl
theorem skind_bd (G : Nat → Nat → Int) (i : Nat) : 0 ≤ skind G i ∧ skind G i ≤ 7 := wi_bd _ (by omega)
theorem send_bd (G : Nat → Nat → Int) (i j : Nat) : 0 ≤ send G i j ∧ send G i j ≤ 11 := by
  unfold send
  split
  · exact wi_bd _ (by omega)
  · omega
theorem sturn_bd (G : Nat → Nat → Int) (t : Bool) (i : Nat) : 0 ≤ sturn G t i ∧ sturn G t i ≤ 3599 := by
  unfold sturn
  split
  · exact wi_bd _ (by omega)
  · omega
theorem made_ok (G : Nat → Nat → Int) (t : Bool) {m : Nat} (hm : m ≤ 10) : ShOk (shG G t) m where
  few := by omega
  item i hi := by show 1 ≤ (i : Int) + 1 ∧ (i : Int) + 1 ≤ 1073741824; omega
  one j i hj hi := by show (j : Int) + 1 ≠ (i : Int) + 1; omega
  par i hi := by
    show 0 ≤ spar G i ∧ spar G i ≤ 1073741824
    rcases spar_cases G i with h | ⟨p, hp, h, _⟩ <;> omega
  kind i hi := skind_bd G i
  xy i hi := by
    have h1 := wi_bd (G i 3) (show (-2000 : Int) ≤ 2000 by omega)
    have h2 := wi_bd (G i 4) (show (-2000 : Int) ≤ 2000 by omega)
    show (-1048576 ≤ wi (G i 3) (-2000) 2000 ∧ wi (G i 3) (-2000) 2000 ≤ 1048576) ∧ (-1048576 ≤ wi (G i 4) (-2000) 2000 ∧ wi (G i 4) (-2000) 2000 ≤ 1048576)
    omega
  wh i hi := by
    have h1 := wi_bd (G i 5) (show (0 : Int) ≤ 1500 by omega)
    have h2 := wi_bd (G i 6) (show (0 : Int) ≤ 1500 by omega)
    show (0 ≤ wi (G i 5) 0 1500 ∧ wi (G i 5) 0 1500 ≤ 1048576) ∧ (0 ≤ wi (G i 6) 0 1500 ∧ wi (G i 6) 0 1500 ≤ 1048576)
    omega
  turn i hi := by
    have h1 := sturn_bd G t i
    show 0 ≤ sturn G t i ∧ sturn G t i < 3600
    omega
  ft i hi := by
    have h1 := send_bd G i 8
    have h2 := send_bd G i 9
    show (0 ≤ send G i 8 ∧ send G i 8 ≤ 1073741824) ∧ (0 ≤ send G i 9 ∧ send G i 9 ≤ 1073741824)
    omega
  link i hi h := by
    have h6 : skind G i ≠ 6 := h
    show send G i 8 = 0 ∧ send G i 9 = 0
    simp [send, h6]
  grp i hi := by
    rcases spar_cases G i with h | ⟨p, hp, h, hk⟩
    · exact .inl h
    · exact .inr ⟨p, hp, h.symm, hk⟩

/-- one shape in a block -/
theorem rdF_one {w : World} {g : Nat} {t : TypeId} {G : Nat → Nat → Int} {T : Nat → Nat → ByteArray} (h : Blk w g t (shC G T 0)) : RdF w (some ⟨g, 0, none⟩) 1 12 (shV G T) := by
  refine .inr ⟨g, 0, rfl, fun i j hi hj => ?_⟩
  obtain rfl : i = 0 := by omega
  rw [h.cell]
  match j with
  | 0 => rfl
  | 1 => rfl
  | 2 => rfl
  | 3 => rfl
  | 4 => rfl
  | 5 => rfl
  | 6 => rfl
  | 7 => rfl
  | 8 => rfl
  | 9 => rfl
  | 10 => rfl
  | 11 => rfl
  | j + 12 => omega


section
variable {H : Type} {enc : TypeId × Value → H} {w : World} {base : Nat} {spare : Nat → Bool} {held : Bool}
def intOf2 : Value → Int
  | .int _ z => z
  | _ => 0
def strOf2 : Value → ByteArray
  | .string s => s
  | _ => ⟨#[]⟩
/-- an argument of type []api.Shape -/
theorem shapes_argS {r : Reach} {b0 : Nat} {v : Value} {d : DataW H} {p : List MemPlace} (hv : Value.okWide Try.prog w r b0 22 v)
    (h : DataW.Trod enc Try.prog w base spare held 22 v d p) :
    ∃ (A : Option Addr) (n c : Nat) (G : Nat → Nat → Int) (T : Nat → Nat → ByteArray), v = .slice A n c ∧ n ≤ 9223372036854775807 ∧ RdF w A n 12 (shV G T) ∧ (∀ i j, i < n → j < 10 → (Lit.int .i64 (G i j)).wf = true) ∧ ∀ i, i < n → (T i 10).size ≤ maxLen := by
  obtain ⟨a0, len, cap, rfl⟩ := okWide_slice Try.underlying22 hv
  obtain ⟨fuel, h⟩ := h
  obtain ⟨A, n, c, F, hA, hn, hr, hf⟩ := structs_trod Try.underlying22 Try.underlying28 (by kernel_rfl) (by kernel_rfl) (by decide) h
  have hI : ∀ i j, i < n → j < 10 → ∃ z : Int, F i j = .int .i64 z ∧ (Lit.int .i64 z).wf = true := by
    intro i j hi hj
    match j, hj with
    | 0, _ => obtain ⟨m, y, hy⟩ := hf i 0 _ hi rfl; obtain ⟨z, hz, _, hw⟩ := DataW.trod_int Try.underlying3 hy; exact ⟨z, by simpa using hz, hw⟩
    | 1, _ => obtain ⟨m, y, hy⟩ := hf i 1 _ hi rfl; obtain ⟨z, hz, _, hw⟩ := DataW.trod_int Try.underlying3 hy; exact ⟨z, by simpa using hz, hw⟩
    | 2, _ => obtain ⟨m, y, hy⟩ := hf i 2 _ hi rfl; obtain ⟨z, hz, _, hw⟩ := DataW.trod_int Try.underlying3 hy; exact ⟨z, by simpa using hz, hw⟩
    | 3, _ => obtain ⟨m, y, hy⟩ := hf i 3 _ hi rfl; obtain ⟨z, hz, _, hw⟩ := DataW.trod_int Try.underlying3 hy; exact ⟨z, by simpa using hz, hw⟩
    | 4, _ => obtain ⟨m, y, hy⟩ := hf i 4 _ hi rfl; obtain ⟨z, hz, _, hw⟩ := DataW.trod_int Try.underlying3 hy; exact ⟨z, by simpa using hz, hw⟩
    | 5, _ => obtain ⟨m, y, hy⟩ := hf i 5 _ hi rfl; obtain ⟨z, hz, _, hw⟩ := DataW.trod_int Try.underlying3 hy; exact ⟨z, by simpa using hz, hw⟩
    | 6, _ => obtain ⟨m, y, hy⟩ := hf i 6 _ hi rfl; obtain ⟨z, hz, _, hw⟩ := DataW.trod_int Try.underlying3 hy; exact ⟨z, by simpa using hz, hw⟩
    | 7, _ => obtain ⟨m, y, hy⟩ := hf i 7 _ hi rfl; obtain ⟨z, hz, _, hw⟩ := DataW.trod_int Try.underlying3 hy; exact ⟨z, by simpa using hz, hw⟩
    | 8, _ => obtain ⟨m, y, hy⟩ := hf i 8 _ hi rfl; obtain ⟨z, hz, _, hw⟩ := DataW.trod_int Try.underlying3 hy; exact ⟨z, by simpa using hz, hw⟩
    | 9, _ => obtain ⟨m, y, hy⟩ := hf i 9 _ hi rfl; obtain ⟨z, hz, _, hw⟩ := DataW.trod_int Try.underlying3 hy; exact ⟨z, by simpa using hz, hw⟩
  have hS : ∀ i, i < n → (∃ s, F i 10 = .string s ∧ s.size ≤ maxLen) ∧ ∃ s, F i 11 = .string s := by
    intro i hi
    constructor
    · obtain ⟨m, y, hy⟩ := hf i 10 _ hi rfl; obtain ⟨s, hs, _, hl⟩ := DataW.trod_string Try.underlying9 hy; exact ⟨s, by simpa using hs, hl⟩
    · obtain ⟨m, y, hy⟩ := hf i 11 _ hi rfl; obtain ⟨s, hs, _⟩ := DataW.trod_string Try.underlying9 hy; exact ⟨s, by simpa using hs⟩
  refine ⟨A, n, c, fun i j => intOf2 (F i j), fun i j => strOf2 (F i j), hA, hn, ?_, ?_, fun i hi => ?_⟩
  · rcases hr with h0 | ⟨b, off, rfl, hc⟩
    · exact .inl h0
    · refine .inr ⟨b, off, rfl, fun i j hi hj => ?_⟩
      have h1 : w.cell? ⟨b, off + i * 12 + j, none⟩ = some (F i j) := hc i j hi hj
      rw [h1]
      unfold shV
      dsimp only
      by_cases h10 : j < 10
      · obtain ⟨z, hz, _⟩ := hI i j hi h10
        rw [if_pos h10, hz]
        rfl
      · rw [if_neg h10]
        have hj2 : j = 10 ∨ j = 11 := by
          have : j < 12 := hj
          omega
        rcases hj2 with rfl | rfl
        · obtain ⟨s, hs, _⟩ := (hS i hi).1
          rw [hs]
          rfl
        · obtain ⟨s, hs⟩ := (hS i hi).2
          rw [hs]
          rfl
  · intro i j hi hj
    obtain ⟨z, hz, hw⟩ := hI i j hi hj
    show (Lit.int .i64 (intOf2 (F i j))).wf = true
    rw [hz]
    exact hw
  · obtain ⟨s, hs, hl⟩ := (hS i hi).1
    show (strOf2 (F i 10)).size ≤ maxLen
    rw [hs]
    exact hl
end
theorem own_addr {w : World} {base : Nat} {e : TypeId} {size n c : Nat} {A : Option Addr} {xs : List Value} (h : w.ownsRow base e size (.slice A n c) n xs) (hn : 0 < n) :
    ∃ g, A = some ⟨g, 0, none⟩ ∧ base ≤ g ∧ g < w.heap.size ∧ n ≤ c ∧ ∀ i, w.frozen? ⟨g, i, none⟩ = false := by
  rcases h.2 with ⟨h1, h2⟩ | ⟨g, cap, cur, h1, h2, h3, h4, _⟩
  · omega
  · injection h1 with h5 h6 h7
    subst h5 h7
    exact ⟨g, rfl, h2, (Array.getElem?_eq_some_iff.1 h3).1, h4, fun i => by simp [World.frozen?, h3]⟩

end Go.Proofs.Ytnmikhmbnpiadaa.Shp
