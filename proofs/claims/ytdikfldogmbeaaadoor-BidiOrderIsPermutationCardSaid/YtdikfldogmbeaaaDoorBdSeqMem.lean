/- The memory of what (*para).sequences returns. -/
import Derived.Test.YtdikfldogmbeaaaDoorBdRuns
import Derived.Test.YtdikfldogmbeaaaDoorBdBorders
namespace Go.Proofs.YtdikfldogmbeaaaDoor.Bd
open Go.RowKit Go.Frm

theorem seqp_info : (Tryd.prog.info? 47).map (fun i => (i.zero, i.size, i.bytes)) = some (some (.pointer none), 1, 8) := by kernel_rfl
theorem blk_own_ne {w : World} {g : Nat} {t e : TypeId} {cs : Array Value} {base size n : Nat} {v : Value} {xs : List Value} (h : Blk w g t cs) (h' : w.ownsRow base e size v n xs) (hne : t ≠ e) : some g ≠ v.ownBlock := fun hh => by
  rcases h'.2 with ⟨rfl, _⟩ | ⟨g2, cap2, cur2, rfl, _, h3, _⟩
  · cases hh
  · have : g = g2 := by simpa [Value.ownBlock] using hh
    subst this
    have h1 := h.symm.trans h3
    injection h1 with h1
    injection h1 with _ h4
    exact hne h4
/-- a sequence, its borders with it -/
def sqFull (M : Nat → Int) (r : Rn) (W L : Nat → Int) (O : Nat → Bool) (base : Int) (n k : Nat) : Sq :=
  { sqOf M r W L k with bg := bgOf (sqOf M r W L k) O L base, en := enOf (sqOf M r W L k) O L M base n }
/-- sequences in memory -/
structure SM (w : World) (B G gw n : Nat) (Sf : Nat → Sq) (ks : List Nat) (v : Value) (sB ga ca : Nat → Nat) : Prop where
  row : w.ownsRow B 47 1 v ks.length (ks.map fun k => .pointer (some ⟨sB k, 0, none⟩))
  blk : ∀ k, k ∈ ks → B ≤ sB k ∧ Blk w (sB k) 65 (sqC G (ga k) (Sf k) (ca k) gw n)
  at_ : ∀ k, k ∈ ks → w.ownsRow B 3 1 (.slice (some ⟨ga k, 0, none⟩) (Sf k).n (ca k)) (Sf k).n (tabV (Sf k).n fun j => .int .i64 ((Sf k).A j : Nat))
section
variable {w w' : World} {B G gw n : Nat} {Sf : Nat → Sq} {ks : List Nat} {v : Value} {sB ga ca : Nat → Nat}
theorem SM.nil (w : World) (B G gw n : Nat) (Sf : Nat → Sq) (sB ga ca : Nat → Nat) : SM w B G gw n Sf [] (.slice none 0 0) sB ga ca :=
  ⟨World.ownsRow_nil _ _ _ _, fun k hk => (by cases hk), fun k hk => (by cases hk)⟩
theorem SM.less (h : SM w B G gw n Sf ks v sB ga ca) {b : Nat} (hb : b ≤ B) : SM w b G gw n Sf ks v sB ga ca :=
  ⟨ownsRow_less h.row hb, fun k hk => ⟨Nat.le_trans hb (h.blk k hk).1, (h.blk k hk).2⟩, fun k hk => ownsRow_less (h.at_ k hk) hb⟩
theorem SM.below (h : SM w B G gw n Sf ks v sB ga ca) (hb : Below w.heap.size w w') : SM w' B G gw n Sf ks v sB ga ca :=
  ⟨own_below h.row hb, fun k hk => ⟨(h.blk k hk).1, (h.blk k hk).2.below hb (h.blk k hk).2.lt⟩, fun k hk => own_below (h.at_ k hk) hb⟩
theorem SM.chg {D : Nat → Prop} (h : SM w B G gw n Sf ks v sB ga ca) (hg : Chg D w w') (hd : ∀ k, D k → k < B) : SM w' B G gw n Sf ks v sB ga ca :=
  ⟨own_chg h.row hg hd, fun k hk => ⟨(h.blk k hk).1, blk_chg (h.blk k hk).2 hg (fun e => by have := hd _ e; have := (h.blk k hk).1; omega)⟩, fun k hk => own_chg (h.at_ k hk) hg hd⟩
theorem SM.alloc (h : SM w B G gw n Sf ks v sB ga ca) (o : Obj) : SM (w.alloc o) B G gw n Sf ks v sB ga ca := h.below ((Below.refl _ _).alloc (Nat.le_refl _) o)
theorem SM.push (h : SM w B G gw n Sf ks v sB ga ca) {k s g c : Nat} (hk : k ∉ ks) (hs : B ≤ s) (hb : Blk w s 65 (sqC G g (Sf k) c gw n))
    (ho : w.ownsRow B 3 1 (.slice (some ⟨g, 0, none⟩) (Sf k).n c) (Sf k).n (tabV (Sf k).n fun j => .int .i64 ((Sf k).A j : Nat))) {w3 : World} {v3 : Value} (hg : w.grownBy w3 v.ownBlock)
    (h3 : w3.ownsRow B 47 1 v3 (ks.length + 1) ((ks.map fun k => Value.pointer (some ⟨sB k, 0, none⟩)) ++ [.pointer (some ⟨s, 0, none⟩)])) :
    SM w3 B G gw n Sf (ks ++ [k]) v3 (upd sB k s) (upd ga k g) (upd ca k c) := by
  have hne : ∀ j, j ∈ ks → j ≠ k := fun j hj e => hk (e ▸ hj)
  have hmap : (ks.map fun k => Value.pointer (some ⟨sB k, 0, none⟩)) = ks.map fun j => Value.pointer (some ⟨upd sB k s j, 0, none⟩) := List.map_congr_left fun j hj => by rw [upd_other _ _ (hne j hj)]
  refine ⟨?_, fun j hj => ?_, fun j hj => ?_⟩
  · rw [List.length_append, List.map_append, ← hmap]
    simp only [List.map_cons, List.map_nil, List.length_cons, List.length_nil, upd_same]
    exact h3
  · rcases List.mem_append.1 hj with hj | hj
    · rw [upd_other _ _ (hne j hj), upd_other _ _ (hne j hj), upd_other _ _ (hne j hj)]
      exact ⟨(h.blk j hj).1, (h.blk j hj).2.grown hg (blk_own_ne (h.blk j hj).2 h.row (by decide))⟩
    · obtain rfl : j = k := by simpa using hj
      rw [upd_same, upd_same, upd_same]
      exact ⟨hs, hb.grown hg (blk_own_ne hb h.row (by decide))⟩
  · rcases List.mem_append.1 hj with hj | hj
    · rw [upd_other _ _ (hne j hj), upd_other _ _ (hne j hj)]
      exact (h.at_ j hj).kept hg (own_ne (h.at_ j hj) h.row (by decide))
    · obtain rfl : j = k := by simpa using hj
      rw [upd_same, upd_same]
      exact ho.kept hg (own_ne ho h.row (by decide))
end
theorem tabV_append (m n : Nat) (F : Nat → Value) : tabV (m + n) F = tabV m F ++ tabV n fun i => F (m + i) := by
  induction n with
  | zero => simp [tabV]
  | succ n ih => rw [← Nat.add_assoc, tabV_succ, ih, tabV_succ, List.append_assoc]
theorem atAdd_tab (r : Rn) (k : Nat) (a : At) : tabV (a.n + r.len k) (fun j => .int .i64 ((atAdd r k a).A j : Nat)) = tabV a.n (fun j => .int .i64 (a.A j : Nat)) ++ tabV (r.len k) fun j => .int .i64 (r.R k j : Nat) := by
  rw [tabV_append]
  congr 1
  · exact tabV_congr fun i hi => by show Value.int .i64 ((if i < a.n then a.A i else r.R k (i - a.n) : Nat) : Int) = _; rw [if_pos hi]
  · exact tabV_congr fun i hi => by show Value.int .i64 ((if a.n + i < a.n then a.A (a.n + i) else r.R k (a.n + i - a.n) : Nat) : Int) = _; rw [if_neg (by omega), Nat.add_sub_cancel_left]
theorem own_ints {w : World} {base m c : Nat} {e : TypeId} {A : Option Addr} {F : Nat → Nat} (h : w.ownsRow base e 1 (.slice A m c) m (tabV m fun j => .int .i64 (F j : Nat))) : RdI w A (tab m fun j => (F j : Int)) := RdI.of_own (by rw [← tabV_ints]; exact h)
end Go.Proofs.YtdikfldogmbeaaaDoor.Bd
