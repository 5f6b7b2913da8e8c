/- A drawing of which one shape is turned. -/
import Derived.Test.YtnmikhmbnpiadaaDoorShapeArgs
namespace Go.Proofs.YtnmikhmbnpiadaaDoor.Shp
open Go.RowKit Go.Frm

theorem own_addr {w : World} {base : Nat} {e : TypeId} {size n c : Nat} {A : Option Addr} {xs : List Value} (h : w.ownsRow base e size (.slice A n c) n xs) (hn : 0 < n) :
    ∃ g, A = some ⟨g, 0, none⟩ ∧ base ≤ g ∧ g < w.heap.size ∧ n ≤ c ∧ ∀ i, w.frozen? ⟨g, i, none⟩ = false := by
  rcases h.2 with ⟨h1, h2⟩ | ⟨g, cap, cur, h1, h2, h3, h4, _⟩
  · omega
  · injection h1 with h5 h6 h7
    subst h5 h7
    exact ⟨g, rfl, h2, (Array.getElem?_eq_some_iff.1 h3).1, h4, fun i => by simp [World.frozen?, h3]⟩

def updT (G : Nat → Nat → Int) (k : Nat) (t : Int) : Nat → Nat → Int := fun i j => if i = k ∧ j = 7 then t else G i j
theorem updT_of {G : Nat → Nat → Int} {k i j : Nat} {t : Int} (h : j ≠ 7) : updT G k t i j = G i j := by simp [updT, h]
theorem updT_ok {G : Nat → Nat → Int} {n k : Nat} {t : Int} (h : ShOk G n) (h0 : 0 ≤ t) (h1 : t < 3600) : ShOk (updT G k t) n where
  few := h.few
  item i hi := by rw [updT_of (by omega)]; exact h.item i hi
  one j i hj hi := by rw [updT_of (by omega), updT_of (by omega)]; exact h.one j i hj hi
  par i hi := by rw [updT_of (by omega)]; exact h.par i hi
  kind i hi := by rw [updT_of (by omega)]; exact h.kind i hi
  xy i hi := by rw [updT_of (by omega), updT_of (by omega)]; exact h.xy i hi
  wh i hi := by rw [updT_of (by omega), updT_of (by omega)]; exact h.wh i hi
  turn i hi := by
    unfold updT
    split
    · exact ⟨h0, h1⟩
    · exact h.turn i hi
  ft i hi := by rw [updT_of (by omega), updT_of (by omega)]; exact h.ft i hi
  link i hi := by rw [updT_of (by omega), updT_of (by omega), updT_of (by omega)]; exact h.link i hi
  grp i hi := by
    rw [updT_of (by omega)]
    rcases h.grp i hi with h2 | ⟨p, hp, h2, h3⟩
    · exact .inl h2
    · exact .inr ⟨p, hp, by rw [updT_of (by omega)]; exact h2, by rw [updT_of (by omega)]; exact h3⟩
theorem rdF_updT {w : World} {b off n k : Nat} {G : Nat → Nat → Int} {T : Nat → Nat → ByteArray} {t : Int} (h : RdF w (some ⟨b, off, none⟩) n 12 (shV G T)) (hk : k < n) :
    RdF (w.setCell ⟨b, off + k * 12 + 7, none⟩ (.int .i64 t)) (some ⟨b, off, none⟩) n 12 (shV (updT G k t) T) := by
  obtain ⟨b', off', he, hc⟩ : ∃ b' off', some (⟨b, off, none⟩ : Addr) = some ⟨b', off', none⟩ ∧ ∀ i j, i < n → j < 12 → w.cell? ⟨b', off' + i * 12 + j, none⟩ = some (shV G T i j) := by
    rcases h with rfl | h
    · omega
    · exact h
  injection he with he
  injection he with he1 he2
  subst he1 he2
  refine .inr ⟨b, off, rfl, fun i j hi hj => ?_⟩
  by_cases hij : i = k ∧ j = 7
  · obtain ⟨rfl, rfl⟩ := hij
    rw [World.cell?_setCell_same (h := hc i 7 hi (by omega))]
    simp [shV, updT]
  · rw [World.cell?_setCell_other (h := by
      intro hh
      injection hh with _ hh
      omega), hc i j hi hj]
    simp [shV, updT, hij]
end Go.Proofs.YtnmikhmbnpiadaaDoor.Shp
