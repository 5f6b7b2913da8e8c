/- slices.SortFunc on what a slide shows: the items in their order. -/
import Derived.Test.YtlipdhoeklgdoaaTlShelf
import Derived.Test.YtlipdhoeklgdoaaTlBasics
import Derived.Sort.OwnSortedInts
namespace Go.Proofs.Ytlipdhoeklgdoaa.Tl
open Go.RowKit Go.Frm Go.Sort Go.Proofs

theorem flat_row {α : Type} [Inhabited α] (enc : α → List Value) (k : Nat) (d : Array α) : (flatK enc k d).toList = rowF d.size k (fun i j => (enc d[i]!)[j]!) := by
  apply List.ext_getElem?
  intro t
  by_cases ht : t < d.size * k
  · have hs : 0 < k := by
      rcases Nat.eq_zero_or_pos k with h | h
      · subst h; omega
      · exact h
    have ha : t / k < d.size := by rw [Nat.div_lt_iff_lt_mul hs]; exact ht
    have hb : t % k < k := Nat.mod_lt _ hs
    have hkk : t = t / k * k + t % k := by rw [Nat.mul_comm]; exact (Nat.div_add_mod t k).symm
    have hg := rowF_get d.size k (fun i j => (enc d[i]!)[j]!) (t / k) (t % k) ha hb
    rw [← hkk] at hg
    rw [hg, Array.getElem?_toList]
    simp [flatK, ht]
  · rw [List.getElem?_eq_none (by simp [flatK]; omega), List.getElem?_eq_none (by rw [rowF_length]; omega)]

theorem heap_sortedV {w : World} {g n : Nat} {os : Array Obj} {cur : Array Value} {e : TypeId} {fr : Nat × Nat} (d : Array Value) (hb : w.heap[g]? = some (.cells cur e fr)) :
    (grow (putRow id (Sort.ahead w n) g 0 d) os).heap[g]? = some (.cells (putCells id 0 d cur) e fr) := by
  have hg : g < w.heap.size := (Array.getElem?_eq_some_iff.1 hb).1
  rw [heap_grow_old _ _ (by simpa using hg)]
  simp [putRow, mapBlock, Sort.ahead, Array.getElem?_modify, hb, onCells]
theorem grownBy_sortedV {w : World} {g n : Nat} {os : Array Obj} (d : Array Value) : w.grownBy (grow (putRow id (Sort.ahead w n) g 0 d) os) (some g) := by
  refine ⟨rfl, rfl, rfl, by simp, fun k hk hne => ?_⟩
  rw [heap_grow_old _ _ (by simpa using hk)]
  have : g ≠ k := fun e => hne (by rw [e])
  simp [putRow, mapBlock, Sort.ahead, Array.getElem?_modify, this]
theorem take_putCellsV (cur : Array Value) (ts : Array Value) (h : ts.size ≤ cur.size) : (putCells id 0 ts cur).toList.take ts.size = ts.toList := by
  apply List.ext_getElem?
  intro j
  by_cases hj : j < ts.size
  · rw [List.getElem?_take_of_lt hj, Array.getElem?_toList]
    simp [putCells, hj, show j < cur.size by omega]
  · rw [List.getElem?_take_eq_none (by omega), List.getElem?_eq_none (by simp; omega)]

/-- an item's number -/
abbrev It := { z : Int // 1 ≤ z ∧ z ≤ 4 }
instance : Inhabited It := ⟨⟨1, by omega, by omega⟩⟩
def encI (F : Nat → Nat → Int) (p : Nat → Int) (n : Nat) (z : It) : List Value := stE F p n z.val

set_option maxHeartbeats 1000000 in
theorem cmp_ok (a b : It) (sa xa ya sb xb yb : Int) (W : World) : Calls Try.prog 31 #[.agg #[.int .i64 a.val, .int .i64 sa, .int .i64 xa, .int .i64 ya], .agg #[.int .i64 b.val, .int .i64 sb, .int .i64 xb, .int .i64 yb]] W fun e w' => e = .returned (.int .i64 (a.val - b.val)) ∧ ∃ q os', w' = grow (W.drewN q) os' := by
  obtain ⟨a, a1, a2⟩ := a
  obtain ⟨b, b1, b2⟩ := b
  dsimp only
  go_enter Try.func31, Try.ntmps31
  go_wp2_with fail
  go_ret
  exact ⟨rfl, 0, _, by rw [alloc_eq_grow, alloc_eq_grow, grow_grow]; rfl⟩

theorem lt_items (x y : It) : ltOf (fun a b : It => a.val - b.val) x y = decide (x.val < y.val) := by
  unfold ltOf
  simp
  omega
theorem swo_items : SWO (ltOf fun a b : It => a.val - b.val) where
  irrefl x := by rw [lt_items]; simp
  trans x y z h1 h2 := by rw [lt_items] at *; simp at *; omega
  ntrans x y z h1 h2 := by rw [lt_items] at *; simp at *; omega

theorem getD_stE (F : Nat → Nat → Int) (p : Nat → Int) (n : Nat) (z : Int) {j : Nat} (hj : j < 4) : (stE F p n z)[j]! = .int .i64 (stF F p n z j) := by
  match j, hj with
  | 0, _ => rfl
  | 1, _ => rfl
  | 2, _ => rfl
  | 3, _ => rfl

theorem row_items (F : Nat → Nat → Int) (p : Nat → Int) (n : Nat) (L : List It) : (flatK (encI F p n) 4 L.toArray).toList = rowF L.length 4 (stV F p n (L.map (·.val))) := by
  rw [flat_row]
  have e : L.toArray.size = L.length := by simp
  rw [e]
  refine rowF_congr (fun i j hi hj => ?_)
  have e1 : L.toArray[i]! = L[i] := by simp [hi]
  have e2 : ix (L.map (·.val)) i = (L[i]).val := by rw [ix_eq (by simpa using hi)]; simp
  rw [e1]
  unfold stV
  rw [e2]
  exact getD_stE F p n _ hj

set_option maxHeartbeats 1000000 in
theorem sort_st (F : Nat → Nat → Int) (p : Nat → Int) (n base c : Nat) (A : Option Addr) (L : List Int) (w : World) (hL : ∀ z ∈ L, 1 ≤ z ∧ z ≤ 4) (hl : L.length ≤ 100) (hb : base ≤ w.heap.size)
    (hown : w.ownsRow base 42 4 (.slice A L.length c) L.length (rowF L.length 4 (stV F p n L))) :
    Calls Try.prog 30 #[.slice A L.length c, .func (.func 31) #[] #[]] w fun e w' => e = .returned (.tuple #[]) ∧
      w'.ownsRow base 42 4 (.slice A L.length c) L.length (rowF L.length 4 (stV F p n (L.mergeSort fun x y => decide (x ≤ y)))) ∧ Below base w w' := by
  obtain ⟨M, rfl⟩ : ∃ M : List It, L = M.map (·.val) := ⟨L.attachWith (fun z => 1 ≤ z ∧ z ≤ 4) hL, by simp⟩
  have hsort : (M.mergeSort fun x y => !(ltOf fun a b : It => a.val - b.val) y x).map (·.val) = (M.map (·.val)).mergeSort fun x y => decide (x ≤ y) := by
    apply List.map_mergeSort
    intro a _ b _
    rw [lt_items]
    by_cases h : b.val < a.val
    · have h2 : ¬ a.val ≤ b.val := by omega
      rw [decide_eq_true h, decide_eq_false h2]; rfl
    · have h2 : a.val ≤ b.val := by omega
      rw [decide_eq_false h, decide_eq_true h2]; rfl
  have hlen : (M.mergeSort fun x y => !(ltOf fun a b : It => a.val - b.val) y x).length = M.length := List.length_mergeSort _
  have hr := row_items F p n M
  have hr2 := row_items F p n (M.mergeSort fun x y => !(ltOf fun a b : It => a.val - b.val) y x)
  rw [hsort, hlen] at hr2
  rw [List.length_map] at hown hl ⊢
  rcases hown.2 with ⟨hv, h0⟩ | ⟨g, cap, cur, hv, hg, hc, hn, hcap, hsz, ht⟩
  · injection hv with h1 h2 h3
    subst h1 h3
    have hM : M = [] := List.eq_nil_of_length_eq_zero h0
    subst hM
    have hcon := AnyF.slices_SortFunc_none { Try.sortSt with } none 0 (.func (.func 31) #[] #[]) w
    change Calls Try.prog 30 _ _ _ at hcon
    refine hcon.mono ?_
    rintro e w' ⟨rfl, rfl⟩
    exact ⟨rfl, by simpa using hown, Below.refl _ _⟩
  · injection hv with h1 h2 h3
    subst h1 h3
    have hlt : g < w.heap.size := (Array.getElem?_eq_some_iff.1 hc).1
    have hsize : M.toArray.size = M.length := by simp
    have hH : HoldsK (encI F p n) 4 w g 0 M.toArray := by
      intro j hj
      rw [size_flatK, hsize] at hj
      have h1 : (flatK (encI F p n) 4 M.toArray).toList[j]? = (rowF M.length 4 (stV F p n (M.map (·.val))))[j]? := by rw [hr]
      have h2 := hown.cells (g := g) rfl j ((flatK (encI F p n) 4 M.toArray)[j]!) (by rw [← h1, Array.getElem?_toList]; simp [hj, hsize])
      have hadd : (⟨g, 0, none⟩ : Addr).add j = ⟨g, 0 + j, none⟩ := by rw [Addr.add_lit]
      rw [hadd] at h2
      exact ⟨h2, by simp [World.frozen?, hc]⟩
    have eg : ∀ args w, (callFunc 31 args).run Try.prog w = .ok (.enter 31 args) w := enters_of Try.func31 (by kernel_rfl) rfl
    have hcon := AnyQ.slices_SortFunc_total Try.sortSt 4 Try.isAgg42 Try.sizeOf42 (encI F p n) (fun _ => rfl) (fun x v hv => by simp [encI, stE] at hv; rcases hv with rfl | rfl | rfl | rfl <;> rfl) (fun a b => a.val - b.val) swo_items 31 #[] g 0 c M.toArray w eg
      (fun _ _ _ _ x y => cmp_ok x y _ _ _ _ _ _ _) hH hlt (by simp; omega) (fun x y h1 h2 => by rw [lt_items] at h1 h2; simp at h1 h2; exact Subtype.ext (by omega))
    change Calls Try.prog 30 _ _ _ at hcon
    rw [hsize] at hcon
    refine hcon.mono ?_
    rintro e w' ⟨rfl, m, os, rfl⟩
    have hs4 : (flatK (encI F p n) 4 (M.mergeSort fun x y => !(ltOf fun a b : It => a.val - b.val) y x).toArray).size = M.length * 4 := by rw [size_flatK]; simp
    refine ⟨rfl, ⟨by rw [rowF_length], .inr ⟨g, c, _, rfl, hg, heap_sortedV _ hc, hn, hcap, by simp [putCells, hsz], ?_⟩⟩, ?_⟩
    · rw [← hr2, ← hs4]
      exact take_putCellsV _ _ (by rw [hs4, hsz]; exact Nat.mul_le_mul_right _ hn)
    · have hgb := grownBy_sortedV (w := w) (g := g) (n := m) (os := os) (flatK (encI F p n) 4 (M.mergeSort fun x y => !(ltOf fun a b : It => a.val - b.val) y x).toArray)
      exact ⟨hgb.os, hgb.tape, hgb.output, hgb.size, fun k hk => hgb.block k (by omega) (fun e => by injection e with e; omega)⟩
end Go.Proofs.Ytlipdhoeklgdoaa.Tl
