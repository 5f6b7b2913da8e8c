/- What is in an isolate has no influence on the level of the paragraph. -/
import Derived.Test.YtdikfldogmbeaaaDoorBdIsoPlain
namespace Go.Proofs.YtdikfldogmbeaaaDoor.Bd
open Go.RowKit Go.Frm

theorem firstR_succ (C : Nat → Int) (inner : Bool) (r i d : Nat) : firstR C inner (r + 1) i d =
    if iso (C i) then firstR C inner r (i + 1) (d + 1)
    else if C i == 22 then (if d == 0 && inner then 0 else firstR C inner r (i + 1) (d - 1))
    else if 0 < d then firstR C inner r (i + 1) d
    else if C i == 0 then 0
    else if C i == 1 || C i == 2 then 1
    else if C i == 10 then 0
    else firstR C inner r (i + 1) d := rfl
theorem fr_pc (W : Nat → Int) (inner : Bool) (r : Nat) {d : Nat} (hd : 0 < d) : ∀ k i, (∀ u, u < k → Pc (W (i + u))) → firstR W inner (k + r) i d = firstR W inner r (i + k) d
  | 0, i, _ => by rw [Nat.zero_add, Nat.add_zero]
  | k + 1, i, h => by
    have h0 := h 0 (by omega)
    rw [Nat.add_zero] at h0
    rw [show k + 1 + r = (k + r) + 1 by omega, firstR_succ W inner (k + r) i d]
    rw [pc_iso h0, pc_22 h0, if_neg (by decide), if_neg (by decide), if_pos hd, fr_pc W inner r hd k (i + 1) (fun u hu => by rw [show i + 1 + u = i + (u + 1) by omega]; exact h (u + 1) (by omega)), show i + 1 + k = i + (k + 1) by omega]
theorem fr_shift {W W' : Nat → Int} (inner : Bool) : ∀ r i i' d, (∀ u, u < r → W (i + u) = W' (i' + u)) → firstR W inner r i d = firstR W' inner r i' d
  | 0, _, _, _, _ => rfl
  | r + 1, i, i', d, h => by
    have h0 := h 0 (by omega)
    rw [Nat.add_zero, Nat.add_zero] at h0
    have ih := fun d => fr_shift (W := W) (W' := W') inner r (i + 1) (i' + 1) d (fun u hu => by rw [show i + 1 + u = i + (u + 1) by omega, show i' + 1 + u = i' + (u + 1) by omega]; exact h (u + 1) (by omega))
    rw [firstR_succ W inner r i d, firstR_succ W' inner r i' d, h0, ih, ih, ih]
theorem fr_pre {W W' : Nat → Int} (r r' : Nat) : ∀ k i i', (∀ u, u < k → Pc (W (i + u))) → (∀ u, u < k → W (i + u) = W' (i' + u)) → firstR W false r (i + k) 0 = firstR W' false r' (i' + k) 0 → firstR W false (k + r) i 0 = firstR W' false (k + r') i' 0
  | 0, i, i', _, _, h => by simpa using h
  | k + 1, i, i', hp, hW, h => by
    have h0 := hW 0 (by omega)
    have p0 := hp 0 (by omega)
    rw [Nat.add_zero, Nat.add_zero] at h0
    rw [Nat.add_zero] at p0
    have ih := fr_pre (W := W) (W' := W') r r' k (i + 1) (i' + 1) (fun u hu => by rw [show i + 1 + u = i + (u + 1) by omega]; exact hp (u + 1) (by omega)) (fun u hu => by rw [show i + 1 + u = i + (u + 1) by omega, show i' + 1 + u = i' + (u + 1) by omega]; exact hW (u + 1) (by omega)) (by rw [show i + 1 + k = i + (k + 1) by omega, show i' + 1 + k = i' + (k + 1) by omega]; exact h)
    rw [show k + 1 + r = (k + r) + 1 by omega, show k + 1 + r' = (k + r') + 1 by omega]
    rw [firstR_succ W false (k + r) i 0, firstR_succ W' false (k + r') i' 0, ← h0, ih]
    simp [pc_iso p0, pc_22 p0]
theorem iso_first {W : Nat → Int} {p m b : Nat} (h : IsoT W p m b) : firstR W false (1 + (m + (1 + b))) p 0 = firstR W false b (p + 1 + m + 1) 0 := by
  rw [show 1 + (m + (1 + b)) = (m + (1 + b)) + 1 by omega, firstR_succ W false (m + (1 + b)) p 0]
  have e1 : iso (W p) = true := by rcases h.op with hp | hp <;> rw [hp] <;> rfl
  rw [e1, if_pos rfl, fr_pc W false (1 + b) (show 0 < 0 + 1 by omega) m (p + 1) (fun u hu => h.pc _ (by omega) (by omega) (by omega)), show 1 + b = b + 1 by omega]
  rw [firstR_succ W false b (p + 1 + m) (0 + 1), h.cl]
  rfl
theorem iso_base {zs zs' : List Int} {p m m' b : Nat} (h : IsoT (clsX zs) p m b) (hn : zs.length = p + 1 + m + 1 + b) (h' : IsoT (clsX zs') p m' b) (hn' : zs'.length = p + 1 + m' + 1 + b)
    (hWA : ∀ j, j < p + 1 → clsX zs j = clsX zs' j) (hWB : ∀ t, t < b + 1 → clsX zs (p + 1 + m + t) = clsX zs' (p + 1 + m' + t)) : baseOf zs (-1) = baseOf zs' (-1) := by
  unfold baseOf
  rw [if_pos rfl, if_pos rfl, hn, hn', show p + 1 + m + 1 + b = p + (1 + (m + (1 + b))) by omega, show p + 1 + m' + 1 + b = p + (1 + (m' + (1 + b))) by omega]
  refine fr_pre _ _ p 0 0 (fun u hu => by rw [Nat.zero_add]; exact h.pc u (by omega) (by omega) (by omega)) (fun u hu => by rw [Nat.zero_add]; exact hWA u (by omega)) ?_
  rw [Nat.zero_add, iso_first h, iso_first h']
  exact fr_shift false b _ _ 0 (fun u hu => by
    have := hWB (u + 1) (by omega)
    rwa [show p + 1 + m + (u + 1) = p + 1 + m + 1 + u by omega, show p + 1 + m' + (u + 1) = p + 1 + m' + 1 + u by omega] at this)
end Go.Proofs.YtdikfldogmbeaaaDoor.Bd
