/- The memory of (*para).sequences: runs. -/
import Derived.Test.YtdikfldogmbeaaaDoorBdRunPlain
import Derived.Test.YtdikfldogmbeaaaDoorBdMem
namespace Go.Proofs.YtdikfldogmbeaaaDoor.Bd
open Go.RowKit Go.Frm

theorem ints_info : (Tryd.prog.info? 22).map (fun i => (i.zero, i.size, i.bytes)) = some (some (.slice none 0 0), 1, 24) := by kernel_rfl
/-- rows whose first values differ lie apart -/
theorem own_heads {w : World} {b b' : Nat} {e e' : TypeId} {A A' : Option Addr} {n n' c c' : Nat} {F F' : Nat → Value} (h : w.ownsRow b e 1 (.slice A n c) n (tabV n F)) (h' : w.ownsRow b' e' 1 (.slice A' n' c') n' (tabV n' F')) (hn : 0 < n) (hn' : 0 < n') (hne : F 0 ≠ F' 0) :
    (Value.slice A n c).ownBlock = none ∨ (Value.slice A n c).ownBlock ≠ (Value.slice A' n' c').ownBlock := by
  obtain ⟨g, rfl, _⟩ := own_at h hn
  obtain ⟨g', rfl, _⟩ := own_at h' hn'
  right
  intro hh
  have hg : g = g' := by injection hh
  subst hg
  have h1 := own_cell h hn
  rw [own_cell h' hn'] at h1
  injection h1 with h1
  exact hne h1.symm

structure RM (w : World) (B : Nat) (r : Rn) (v : Value) (Af : Nat → Option Addr) (cf : Nat → Nat) : Prop where
  outr : w.ownsRow B 22 1 v r.m (tabV r.m fun k => .slice (Af k) (r.len k) (cf k))
  inn : ∀ k, k < r.m → w.ownsRow B 3 1 (.slice (Af k) (r.len k) (cf k)) (r.len k) (tabV (r.len k) fun j => .int .i64 (r.R k j : Nat))
section
variable {w w' : World} {B : Nat} {r : Rn} {v : Value} {Af : Nat → Option Addr} {cf : Nat → Nat}
theorem RM.drewN (h : RM w B r v Af cf) (m : Nat) : RM (w.drewN m) B r v Af cf := ⟨h.outr, h.inn⟩
theorem RM.alloc (h : RM w B r v Af cf) (o : Obj) : RM (w.alloc o) B r v Af cf := ⟨h.outr.alloc o, fun k hk => (h.inn k hk).alloc o⟩
theorem RM.low (h : RM w B r v Af cf) {p : Addr} (hp : p.block < B) (u : Value) : RM (w.setCell p u) B r v Af cf := ⟨own_setCell_low h.outr hp u, fun k hk => own_setCell_low (h.inn k hk) hp u⟩
theorem RM.below (h : RM w B r v Af cf) (hb : Below w.heap.size w w') : RM w' B r v Af cf := ⟨own_below h.outr hb, fun k hk => own_below (h.inn k hk) hb⟩
theorem RM.chg {D : Nat → Prop} (h : RM w B r v Af cf) (hg : Chg D w w') (hd : ∀ k, D k → k < B) : RM w' B r v Af cf := ⟨own_chg h.outr hg hd, fun k hk => own_chg (h.inn k hk) hg hd⟩
theorem ints_ne {x y : Nat} (h : x ≠ y) : (Value.int .i64 (x : Int)) ≠ Value.int .i64 (y : Int) := fun e => by
  injection e with _ e
  omega
/-- the last run grows -/
theorem RM.grow {O : Nat → Bool} {L : Nat → Int} {i : Nat} (hk : RnOk O L i r) {g c : Nat} (h : RM w B r (.slice (some ⟨g, 0, none⟩) r.m c) Af cf) (hm : 0 < r.m) {w3 : World} {v3 : Value} (hg : w.grownBy w3 (Value.slice (Af (r.m - 1)) (r.len (r.m - 1)) (cf (r.m - 1))).ownBlock)
    (h3 : w3.ownsRow B 3 1 v3 (r.len (r.m - 1) + 1) (tabV (r.len (r.m - 1)) (fun j => .int .i64 (r.R (r.m - 1) j : Nat)) ++ [.int .i64 (i : Nat)])) :
    ∃ Af' cf', RM (w3.setCell ⟨g, r.m - 1, none⟩ v3) B ⟨upd r.R (r.m - 1) (upd (r.R (r.m - 1)) (r.len (r.m - 1)) i), upd r.len (r.m - 1) (r.len (r.m - 1) + 1), r.m⟩ (.slice (some ⟨g, 0, none⟩) r.m c) Af' cf' := by
  obtain ⟨A3, c3, rfl⟩ := own_form h3
  have ho3 := h.outr.kept hg (own_ne h.outr (h.inn (r.m - 1) (by omega)) (by decide))
  have hs := own_store ho3 (r.m - 1) (.slice A3 (r.len (r.m - 1) + 1) c3)
  refine ⟨upd Af (r.m - 1) A3, upd cf (r.m - 1) c3, ?_, fun k hk' => ?_⟩
  · show (w3.setCell _ _).ownsRow B 22 1 _ r.m (tabV r.m fun k => .slice (upd Af (r.m - 1) A3 k) (upd r.len (r.m - 1) (r.len (r.m - 1) + 1) k) (upd cf (r.m - 1) c3 k))
    rwa [tabV_congr (G := fun k => Value.slice (upd Af (r.m - 1) A3 k) (upd r.len (r.m - 1) (r.len (r.m - 1) + 1) k) (upd cf (r.m - 1) c3 k)) (fun k _ => by
      by_cases e : k = r.m - 1
      · rw [e, upd_same, upd_same, upd_same, upd_same]
      · rw [upd_other _ _ e, upd_other _ _ e, upd_other _ _ e, upd_other _ _ e])] at hs
  · replace hk' : k < r.m := hk'
    show (w3.setCell _ _).ownsRow B 3 1 (.slice (upd Af (r.m - 1) A3 k) (upd r.len (r.m - 1) (r.len (r.m - 1) + 1) k) (upd cf (r.m - 1) c3 k)) (upd r.len (r.m - 1) (r.len (r.m - 1) + 1) k) (tabV (upd r.len (r.m - 1) (r.len (r.m - 1) + 1) k) fun j => .int .i64 (upd r.R (r.m - 1) (upd (r.R (r.m - 1)) (r.len (r.m - 1)) i) k j : Nat))
    by_cases e : k = r.m - 1
    · subst e
      rw [upd_same, upd_same, upd_same, upd_same]
      rw [tabV_congr (F := fun j => Value.int .i64 ((upd (r.R (r.m - 1)) (r.len (r.m - 1)) i j : Nat) : Int)) (G := upd (fun j => Value.int .i64 ((r.R (r.m - 1) j : Nat) : Int)) (r.len (r.m - 1)) (.int .i64 (i : Int))) (fun j _ => by unfold upd; split <;> rfl), tabV_push]
      exact own_far h3 ho3 (by decide) _ _
    · rw [upd_other _ _ e, upd_other _ _ e, upd_other _ _ e, upd_other _ _ e]
      have h4 := (h.inn k hk').kept hg (own_heads (h.inn k hk') (h.inn (r.m - 1) (by omega)) (by have := hk.len k hk'; omega) (by have := hk.len (r.m - 1) (by omega); omega) (ints_ne (hk.heads_ne hk' (by omega) e)))
      exact own_far h4 ho3 (by decide) _ _
/-- a run begins -/
theorem RM.begin (h : RM w B r v Af cf) {i b1 : Nat} (hB : B ≤ b1) {w3 : World} {v3 : Value} (hnew : w.ownsRow B 3 1 (.slice (some ⟨b1, 0, none⟩) 1 1) 1 [.int .i64 (i : Nat)]) (hg : w.grownBy w3 v.ownBlock)
    (h3 : w3.ownsRow B 22 1 v3 (r.m + 1) (tabV r.m (fun k => .slice (Af k) (r.len k) (cf k)) ++ [.slice (some ⟨b1, 0, none⟩) 1 1])) :
    ∃ Af' cf', RM w3 B ⟨upd r.R r.m (fun _ => i), upd r.len r.m 1, r.m + 1⟩ v3 Af' cf' := by
  refine ⟨upd Af r.m (some ⟨b1, 0, none⟩), upd cf r.m 1, ?_, fun k hk' => ?_⟩
  · show w3.ownsRow B 22 1 v3 (r.m + 1) (tabV (r.m + 1) fun k => .slice (upd Af r.m (some ⟨b1, 0, none⟩) k) (upd r.len r.m 1 k) (upd cf r.m 1 k))
    rw [tabV_congr (G := upd (fun k => Value.slice (Af k) (r.len k) (cf k)) r.m (.slice (some ⟨b1, 0, none⟩) 1 1)) (fun k _ => by
      by_cases e : k = r.m
      · rw [e, upd_same, upd_same, upd_same, upd_same]
      · rw [upd_other _ _ e, upd_other _ _ e, upd_other _ _ e, upd_other _ _ e]), tabV_push]
    exact h3
  · replace hk' : k < r.m + 1 := hk'
    show w3.ownsRow B 3 1 (.slice (upd Af r.m (some ⟨b1, 0, none⟩) k) (upd r.len r.m 1 k) (upd cf r.m 1 k)) (upd r.len r.m 1 k) (tabV (upd r.len r.m 1 k) fun j => .int .i64 (upd r.R r.m (fun _ => i) k j : Nat))
    by_cases e : k = r.m
    · subst e
      rw [upd_same, upd_same, upd_same, upd_same]
      exact hnew.kept hg (own_ne hnew h.outr (by decide))
    · rw [upd_other _ _ e, upd_other _ _ e, upd_other _ _ e, upd_other _ _ e]
      exact (h.inn k (by omega)).kept hg (own_ne (h.inn k (by omega)) h.outr (by decide))
end
end Go.Proofs.YtdikfldogmbeaaaDoor.Bd
