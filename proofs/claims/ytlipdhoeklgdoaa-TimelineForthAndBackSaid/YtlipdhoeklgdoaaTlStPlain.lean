/- The rows of timeline.State: what a round makes of them. -/
import Derived.Test.YtlipdhoeklgdoaaTlFind
namespace Go.Proofs.Ytlipdhoeklgdoaa.Tl
open Go.RowKit Go.Frm

theorem own_froz {w : World} {base g n c size : Nat} {e : TypeId} {xs : List Value} (h : w.ownsRow base e size (.slice (some ⟨g, 0, none⟩) n c) n xs) (j : Nat) : w.frozen? ⟨g, j, none⟩ = false := by
  rcases h.2 with ⟨h1, _⟩ | ⟨g', cap, cur, h1, _, h2, _⟩
  · cases h1
  · have hg : g = g' := by injection h1 with h1; injection h1 with h1; injection h1
    subst hg
    simp [World.frozen?, h2]
theorem blk_ne {w : World} {base g g' n c size : Nat} {t e : TypeId} {cs : Array Value} {xs : List Value} (hb : Blk w g' t cs) (h : w.ownsRow base e size (.slice (some ⟨g, 0, none⟩) n c) n xs) (hne : t ≠ e) : g' ≠ g := by
  rcases h.2 with ⟨h1, _⟩ | ⟨g1, cap, cur, h1, _, h2, _⟩
  · cases h1
  · have hg : g = g1 := by injection h1 with h1; injection h1 with h1; injection h1
    subst hg
    rintro rfl
    unfold Blk at hb
    rw [hb] at h2
    injection h2 with h2
    injection h2 with _ h3
    exact hne h3
theorem nodup_inj {L : List Int} (hnd : L.Nodup) {a b : Nat} (ha : a < L.length) (hb : b < L.length) (e : L[a] = L[b]) : a = b := by
  rcases Nat.lt_trichotomy a b with h | h | h
  · exact absurd e (List.pairwise_iff_getElem.1 hnd a b ha hb h)
  · exact h
  · exact absurd e.symm (List.pairwise_iff_getElem.1 hnd b a hb ha h)
def updI (f : Nat → Nat → Int) (k j : Nat) (x : Int) : Nat → Nat → Int := fun a b => if a = k ∧ b = j then x else f a b
theorem updI_twice (f : Nat → Nat → Int) (k j : Nat) (x y : Int) : updI (updI f k j x) k j y = updI f k j y := by
  funext a b
  unfold updI
  split <;> rfl
theorem upd2_int (f : Nat → Nat → Int) (k j : Nat) (x : Int) : upd2 (fun a b => Value.int .i64 (f a b)) k j (.int .i64 x) = fun a b => Value.int .i64 (updI f k j x a b) := by
  funext a b
  unfold upd2 updI
  split <;> rfl
/-- the rows of a moment -/
def fL (F : Nat → Nat → Int) (p : Nat → Int) (i : Nat) (L : List Int) (a b : Nat) : Int := stF F p i (ix L a) b
def kL (F : Nat → Nat → Int) (i : Nat) (L : List Int) (a : Nat) : Bool := kn F (ix L a) i

structure Sat (m : Nat) (f : Nat → Nat → Int) (kf : Nat → Bool) (A9 A10 : Option Addr) (c9 c10 : Nat) (w2 wc : World) : Prop where
  own : wc.ownsRow w2.heap.size 42 4 (.slice A9 m c9) m (rowF m 4 (fun a b => .int .i64 (f a b)))
  know : wc.ownsRow w2.heap.size 4 1 (.slice A10 m c10) m (tabV m (fun k => .bool (kf k)))
  bel : Below w2.heap.size w2 wc
section
variable {m : Nat} {f f' : Nat → Nat → Int} {kf kf' : Nat → Bool} {A9 A10 : Option Addr} {c9 c10 : Nat} {w2 wc : World}
theorem Sat.setF {g k j : Nat} (h : Sat m f kf (some ⟨g, 0, none⟩) A10 c9 c10 w2 wc) (hj : j < 4) (hg : w2.heap.size ≤ g) (x : Int) : Sat m (updI f k j x) kf (some ⟨g, 0, none⟩) A10 c9 c10 w2 (wc.setCell ⟨g, k * 4 + j, none⟩ (.int .i64 x)) :=
  ⟨by rw [← upd2_int]; exact own_storeF h.own k hj _, own_far h.know h.own (by decide) _ _, h.bel.setCell (p := ⟨g, k * 4 + j, none⟩) hg _⟩
theorem Sat.setK {g k : Nat} (h : Sat m f kf A9 (some ⟨g, 0, none⟩) c9 c10 w2 wc) (hg : w2.heap.size ≤ g) (x : Bool) : Sat m f (upd kf k x) A9 (some ⟨g, 0, none⟩) c9 c10 w2 (wc.setCell ⟨g, k, none⟩ (.bool x)) := by
  refine ⟨own_far h.own h.know (by decide) _ _, ?_, h.bel.setCell (p := ⟨g, k, none⟩) hg _⟩
  have e : (fun a => Value.bool (upd kf k x a)) = upd (fun a => Value.bool (kf a)) k (.bool x) := by
    funext a
    unfold upd
    split <;> rfl
  rw [e]
  exact own_store h.know k _
theorem Sat.alloc (h : Sat m f kf A9 A10 c9 c10 w2 wc) (o : Obj) : Sat m f kf A9 A10 c9 c10 w2 (wc.alloc o) := ⟨h.own.alloc o, h.know.alloc o, h.bel.alloc h.bel.size o⟩
theorem Sat.drewN (h : Sat m f kf A9 A10 c9 c10 w2 wc) (n : Nat) : Sat m f kf A9 A10 c9 c10 w2 (wc.drewN n) := ⟨h.own, h.know, below_drewN h.bel n⟩
theorem Sat.below {w' : World} (h : Sat m f kf A9 A10 c9 c10 w2 wc) (hb : Below wc.heap.size wc w') : Sat m f kf A9 A10 c9 c10 w2 w' := ⟨own_below h.own hb, own_below h.know hb, h.bel.trans (hb.mono h.bel.size)⟩
theorem Sat.congr (h : Sat m f kf A9 A10 c9 c10 w2 wc) (hf : ∀ a b, a < m → b < 4 → f a b = f' a b) (hk : ∀ a, a < m → kf a = kf' a) : Sat m f' kf' A9 A10 c9 c10 w2 wc :=
  ⟨by
    have e : rowF m 4 (fun a b => Value.int .i64 (f a b)) = rowF m 4 (fun a b => Value.int .i64 (f' a b)) := rowF_congr (fun a b ha hb => by rw [hf a b ha hb])
    rw [← e]; exact h.own, by
    have e : tabV m (fun a => Value.bool (kf a)) = tabV m (fun a => Value.bool (kf' a)) := tabV_congr (fun a ha => by rw [hk a ha])
    rw [← e]; exact h.know, h.bel⟩
end

section
variable {F : Nat → Nat → Int} {p : Nat → Int} {i kk : Nat} {L : List Int}
theorem round_by (hnd : L.Nodup) (hk : kk < L.length) (hz : ix L kk = F i 0) (h2 : F i 1 = 2) : ∀ a b, a < L.length → b < 4 →
    updI (updI (fL F p i L) kk 2 (fL F p i L kk 2 + pt (F i 5) (p i))) kk 3 (fL F p i L kk 3 + pt (F i 6) (p i)) a b = fL F p (i + 1) L a b := by
  intro a b ha hb
  have hne : a ≠ kk → F i 0 ≠ ix L a := fun h e => by
    rw [← hz, ix_eq hk, ix_eq ha] at e
    exact h (nodup_inj hnd hk ha e).symm
  unfold updI fL
  by_cases hak : a = kk
  · subst hak
    match b, hb with
    | 0, _ => simp [stF]
    | 1, _ => simp [stF, sn, h2]
    | 2, _ => simp [stF, xA, hz, h2]
    | 3, _ => simp [stF, xA, hz, h2]
  · have h1 := hne hak
    match b, hb with
    | 0, _ => simp [stF]
    | 1, _ => simp [stF, sn, h1]
    | 2, _ => simp [stF, xA, hak, h1]
    | 3, _ => simp [stF, xA, hak, h1]
theorem round_by_k (h2 : F i 1 = 2) : ∀ a, a < L.length → kL F i L a = kL F (i + 1) L a := by
  intro a _
  simp [kL, kn, h2]
theorem round_seen (hnd : L.Nodup) (hk : kk < L.length) (hz : ix L kk = F i 0) (h2 : F i 1 ≠ 2) : ∀ a b, a < L.length → b < 4 → updI (fL F p i L) kk 1 (sn F p (F i 0) (i + 1)) a b = fL F p (i + 1) L a b := by
  intro a b ha hb
  have hne : a ≠ kk → F i 0 ≠ ix L a := fun h e => by
    rw [← hz, ix_eq hk, ix_eq ha] at e
    exact h (nodup_inj hnd hk ha e).symm
  unfold updI fL
  by_cases hak : a = kk
  · subst hak
    match b, hb with
    | 0, _ => simp [stF]
    | 1, _ => simp [stF, hz]
    | 2, _ => simp [stF, xA, h2]
    | 3, _ => simp [stF, xA, h2]
  · have h1 := hne hak
    match b, hb with
    | 0, _ => simp [stF]
    | 1, _ => simp [stF, sn, h1, hak]
    | 2, _ => simp [stF, xA, h1]
    | 3, _ => simp [stF, xA, h1]
theorem round_seen_k (hnd : L.Nodup) (hk : kk < L.length) (hz : ix L kk = F i 0) (h2 : F i 1 ≠ 2) : ∀ a, a < L.length → upd (kL F i L) kk true a = kL F (i + 1) L a := by
  intro a ha
  unfold upd kL
  by_cases hak : a = kk
  · subst hak
    simp [kn, hz, h2]
  · rw [if_neg hak]
    have h1 : F i 0 ≠ ix L a := fun e => by
      rw [← hz, ix_eq hk, ix_eq ha] at e
      exact hak (nodup_inj hnd hk ha e).symm
    simp [kn, h1]
theorem updI_self (f : Nat → Nat → Int) (k j : Nat) : updI f k j (f k j) = f := by
  funext a b
  unfold updI
  split
  · rename_i h; rw [h.1, h.2]
  · rfl
theorem seen_done {A9 A10 : Option Addr} {c9 c10 : Nat} {w2 wc : World} {v : Int} (hnd : L.Nodup) (hk : kk < L.length) (hz : ix L kk = F i 0) (h2 : F i 1 ≠ 2) (h : Sat L.length (updI (fL F p i L) kk 1 v) (upd (kL F i L) kk true) A9 A10 c9 c10 w2 wc) (hv : v = sn F p (F i 0) (i + 1)) :
    Sat L.length (fL F p (i + 1) L) (kL F (i + 1) L) A9 A10 c9 c10 w2 wc := by
  subst hv
  exact h.congr (round_seen hnd hk hz h2) (round_seen_k hnd hk hz h2)
theorem row_fresh (h : F i 0 ∉ D F i) : rowF (D F i).length 4 (fun a b => .int .i64 (fL F p i (D F i) a b)) ++ [.int .i64 (F i 0), .int .i64 1000, .int .i64 0, .int .i64 0] = rowF (D F (i + 1)).length 4 (fun a b => .int .i64 (fL F p i (D F (i + 1)) a b)) := by
  have e : D F (i + 1) = D F i ++ [F i 0] := by rw [D_succ, if_neg h]
  obtain ⟨_, h2, h3⟩ := fresh (p := p) i h
  rw [e, List.length_append, List.length_singleton, rowF_succ]
  congr 1
  · refine rowF_congr (fun a b ha hb => ?_)
    unfold fL
    rw [ix_append_left ha]
  · have e2 : ix (D F i ++ [F i 0]) (D F i).length = F i 0 := by rw [ix_append_right (Nat.le_refl _), Nat.sub_self]; rfl
    simp [List.range_succ, fL, e2, stF, h2, h3]
theorem know_fresh (h : F i 0 ∉ D F i) : tabV (D F i).length (fun k => .bool (kL F i (D F i) k)) ++ [.bool false] = tabV (D F (i + 1)).length (fun k => .bool (kL F i (D F (i + 1)) k)) := by
  have e : D F (i + 1) = D F i ++ [F i 0] := by rw [D_succ, if_neg h]
  obtain ⟨h1, _, _⟩ := fresh (p := fun _ => 0) i h
  rw [e, List.length_append, List.length_singleton, tabV_succ]
  congr 1
  · refine tabV_congr (fun a ha => ?_)
    unfold kL
    rw [ix_append_left ha]
  · have e2 : ix (D F i ++ [F i 0]) (D F i).length = F i 0 := by rw [ix_append_right (Nat.le_refl _), Nat.sub_self]; rfl
    simp [kL, e2, h1]
end
end Go.Proofs.Ytlipdhoeklgdoaa.Tl
