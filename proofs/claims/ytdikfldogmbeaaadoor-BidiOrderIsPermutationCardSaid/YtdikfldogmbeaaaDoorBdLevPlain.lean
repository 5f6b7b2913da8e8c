/- Levels in plain Lean: bounds, and the whole. -/
import Derived.Test.YtdikfldogmbeaaaDoorBdExPlain
import Derived.Test.YtdikfldogmbeaaaDoorBdSeqMem
import Derived.Test.YtdikfldogmbeaaaDoorBdBrkPlain
import Derived.Test.YtdikfldogmbeaaaDoorBdTable
namespace Go.Proofs.YtdikfldogmbeaaaDoor.Bd
open Go.RowKit Go.Frm

theorem pr_mok (C : Nat → Int) : ∀ i, MOk (pr C i).M i
  | 0 => fun j hj => absurd hj (Nat.not_lt_zero j)
  | i + 1 => by
    have h := pr_mok C i
    have hS := (pr_bd C i).2
    intro j hj
    show (prStep C i (pr C i)).M j < 0 ∨ ((j : Int) < (prStep C i (pr C i)).M j ∧ (prStep C i (pr C i)).M j < (i + 1 : Nat))
    generalize pr C i = p at *
    have hup : ∀ j, j < i + 1 → upd p.M i (-1) j < 0 ∨ ((j : Int) < upd p.M i (-1) j ∧ upd p.M i (-1) j < (i + 1 : Nat)) := by
      intro j hj
      unfold upd
      split
      · left; decide
      · have := h j (by omega)
        omega
    unfold prStep
    split
    · exact hup j hj
    · split
      · rename_i h1 h2
        simp only [Bool.and_eq_true, decide_eq_true_eq] at h2
        show upd (upd p.M i (-1)) (p.S (p.m - 1)) (i : Int) j < 0 ∨ ((j : Int) < upd (upd p.M i (-1)) (p.S (p.m - 1)) (i : Int) j ∧ upd (upd p.M i (-1)) (p.S (p.m - 1)) (i : Int) j < (i + 1 : Nat))
        by_cases e : j = p.S (p.m - 1)
        · rw [e, upd_same]
          have := hS (p.m - 1) (by omega)
          omega
        · rw [upd_other _ _ e]
          exact hup j hj
      · exact hup j hj
theorem popI_le (si : Nat → Bool) : ∀ m, popI si m ≤ m
  | 0 => Nat.le_refl _
  | m + 1 => by
    unfold popI
    split
    · exact Nat.le_succ _
    · exact Nat.le_succ_of_le (popI_le si m)
theorem exStep_L {n i : Nat} {base : Int} {e : Ex} (h : ExOk base i e) (hb : base ≤ 125) : ∃ v, (base ≤ v ∧ v ≤ 125) ∧ ∀ j, (exStep n base i e).L j = if j = i then v else e.L j := by
  have hm := h.m1
  have h1 := h.lv (e.m - 1) (by omega)
  have h2 := h.lv (popI e.si e.m - 1) (by have := popI_le e.si e.m; omega)
  have hu : ∀ (x y : Int) j, upd (upd e.L i x) i y j = if j = i then y else e.L j := fun x y j => by unfold upd; split <;> rfl
  unfold exStep
  simp only
  repeat' split
  all_goals first
    | exact ⟨_, h1, fun j => rfl⟩
    | exact ⟨_, h1, fun j => hu _ _ j⟩
    | exact ⟨_, h2, fun j => hu _ _ j⟩
    | exact ⟨_, ⟨Int.le_refl _, hb⟩, fun j => hu _ _ j⟩
theorem ex_L (C : Nat → Int) (n : Nat) {base : Int} (hb : 0 ≤ base ∧ base ≤ 1) : ∀ i, (∀ j, j < i → base ≤ (ex C n base i).L j ∧ (ex C n base i).L j ≤ 125) ∧ ∀ j, i ≤ j → (ex C n base i).L j = 0
  | 0 => ⟨fun j hj => absurd hj (Nat.not_lt_zero j), fun _ _ => rfl⟩
  | i + 1 => by
    obtain ⟨h1, h2⟩ := ex_L C n hb i
    obtain ⟨v, hv, hj⟩ := exStep_L (n := n) (ex_ok C n hb i) (by omega)
    constructor
    · intro j hji
      rw [show (ex C n base (i + 1)).L j = _ from hj j]
      split
      · exact hv
      · exact h1 j (by omega)
    · intro j hji
      rw [show (ex C n base (i + 1)).L j = _ from hj j, if_neg (by omega)]
      exact h2 j (by omega)
/-- one sequence after the other: classes and levels -/
def seqStep (b : Nat → Nat → Int) (X : Nat → Int) (Sf : Nat → Sq) (s : (Nat → Int) × (Nat → Int)) (k : Nat) : (Nat → Int) × (Nat → Int) :=
  ((Sf k).cls b X s.1, (Sf k).lev ((Sf k).cls b X s.1) s.2 (Sf k).n)
def seqFold (b : Nat → Nat → Int) (X : Nat → Int) (Sf : Nat → Sq) (ks : List Nat) (s : (Nat → Int) × (Nat → Int)) : (Nat → Int) × (Nat → Int) := ks.foldl (seqStep b X Sf) s
theorem seqFold_take {b : Nat → Nat → Int} {X : Nat → Int} {Sf : Nat → Sq} {ks : List Nat} {s : (Nat → Int) × (Nat → Int)} {j : Nat} (hj : j < ks.length) : seqFold b X Sf (ks.take (j + 1)) s = seqStep b X Sf (seqFold b X Sf (ks.take j) s) ks[j] := by
  unfold seqFold
  rw [List.take_succ_eq_append_getElem hj, List.foldl_append]
  rfl
/-- what the parts of Levels are -/
structure LvP where
  X : Nat → Int
  W : Nat → Int
  n : Nat
  base : Int
section
variable (l : LvP)
def LvP.e : Ex := ex l.W l.n l.base l.n
def LvP.M : Nat → Int := (pr l.W l.n).M
def LvP.r : Rn := rn l.e.O l.e.L l.n
def LvP.Sf : Nat → Sq := sqFull l.M l.r l.W l.e.L l.e.O l.base l.n
def LvP.ks : List Nat := begs l.M l.r l.r.m
def LvP.cl (j : Nat) : (Nat → Int) × (Nat → Int) := seqFold (tbV brTb) l.X l.Sf (l.ks.take j) (l.e.C, l.e.L)
def LvP.raw : Nat → Int := (seqFold (tbV brTb) l.X l.Sf l.ks (l.e.C, l.e.L)).2
def LvP.lev : Nat → Int := blanks l.W l.base l.n true (tailL l.e.O l.raw l.base l.n)
end
/-- the base level -/
def baseOf (zs : List Int) (dir : Int) : Int := if dir = -1 then firstR (clsX zs) false zs.length 0 0 else dir
def lvP (zs : List Int) (base : Int) : LvP := ⟨ix zs, clsX zs, zs.length, base⟩
/-- the places of a sequence -/
theorem chainA_ok {O : Nat → Bool} {L M : Nat → Int} {n : Nat} {r : Rn} (h : RnOk O L n r) (hM : MOk M n) : ∀ f k a, k < r.m → r.m ≤ f + k → AtOk a (r.R k 0) → AtOk (chainA M r f k a) n ∧ 0 < (chainA M r f k a).n
  | 0, k, a, hk, hf, _ => by omega
  | f + 1, k, a, hk, hf, ha => by
    have h1 := ha.add h hk
    have h2 := h.last_lt hk
    have h3 := h.len k hk
    have h4 := nextRun_spec h hM hk
    unfold chainA
    split
    · exact ⟨h1.mono (by omega), by show 0 < a.n + r.len k; omega⟩
    · obtain ⟨h5, h6⟩ := h4.2 (by omega)
      exact chainA_ok h hM f _ _ (by omega) (by omega) (h1.mono (by omega))
theorem seqAt_ok {O : Nat → Bool} {L M : Nat → Int} {n k : Nat} {r : Rn} (h : RnOk O L n r) (hM : MOk M n) (hk : k < r.m) : AtOk (seqAt M r k) n ∧ 0 < (seqAt M r k).n :=
  chainA_ok h hM _ _ _ hk (by omega) ⟨fun j hj => absurd hj (Nat.not_lt_zero _), fun j hj => absurd hj (Nat.not_lt_zero _)⟩
section
variable (l : LvP)
theorem LvP.rok : RnOk l.e.O l.e.L l.n l.r := rn_ok _ _ _
theorem LvP.mok : MOk l.M l.n := pr_mok _ _
theorem LvP.at_ {k : Nat} (hk : k < l.r.m) : AtOk (seqAt l.M l.r k) l.n ∧ 0 < (seqAt l.M l.r k).n := seqAt_ok l.rok l.mok hk
theorem LvP.Sfn (k : Nat) : (l.Sf k).n = (seqAt l.M l.r k).n := rfl
theorem LvP.SfA (k : Nat) : (l.Sf k).A = (seqAt l.M l.r k).A := rfl
theorem LvP.ks_lt {k : Nat} (h : k ∈ l.ks) : k < l.r.m := begs_lt h
theorem LvP.cl_succ {j : Nat} (hj : j < l.ks.length) : l.cl (j + 1) = seqStep (tbV brTb) l.X l.Sf (l.cl j) l.ks[j] := seqFold_take hj
end
end Go.Proofs.YtdikfldogmbeaaaDoor.Bd
