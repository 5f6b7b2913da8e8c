/- PROVED HERE: whatever the text is, chancerykeep3.BreaksKeepClusters returns true, and its argument reads behind the call as before, where the listed table of package metric holds what the row lists. No condition beside those of the given row. -/
import Derived.Test.YtdhhkcboejhoaaaDoorRows
import Derived.Test.YtdhhkcboejhoaaaDoorCards
import Derived.Test.YtdhhkcboejhoaaaDoorTie
import Derived.Test.YtdhhkcboejhoaaaDoorMetricTabs
import Derived.Test.YtdhhkcboejhoaaaDoorChars
import Derived.Test.YtdhhkcboejhoaaaDoorBreaksFind
import Derived.Test.YtdhhkcboejhoaaaDoorBreaksClusters
import Derived.SevenTiedAt
namespace Go.Proofs.YtdhhkcboejhoaaaDoor.BreaksKeepClustersDone
open Go.RowKit Go.Frm Go.ChangeShapes Go.WideShapes Go.ChangeAt Mtr Wi Cha Bre
attribute [local go_sem] Oper.semAt_some

theorem bool_info : (Tryd.prog.info? 4).map (fun i => (i.zero, i.size, i.bytes)) = some (some (.bool false), 1, 1) := by kernel_rfl
set_option maxRecDepth 100000 in
set_option maxHeartbeats 1000000 in
theorem clusters_ok (A : Option Addr) (n c : Nat) (w : World) :
    Calls Tryd.prog 16 #[.slice A n c] w fun e w' => e = .returned (.func (.func 34) #[] #[.pointer (some ⟨w.heap.size, 0, none⟩)]) ∧ w' = w.alloc (.cells #[.slice A n c] 22) := by
  go_enter Tryd.func16, Tryd.ntmps16
  go_wp2_with fail
  go_ret
  exact ⟨rfl, rfl⟩

/-- blocks of cells stay where a block turns that is none -/
theorem blk_own {W W' : World} {row : Option Nat} {g : Nat} {t : TypeId} {cs : Array Value} (h : Blk W g t cs) (hg : W.grownBy W' row) (hr : ∀ r, row = some r → ∃ o : Obj, W.heap[r]? = some o ∧ o.isCells = false) : Blk W' g t cs := by
  refine h.grown hg (fun e => ?_)
  obtain ⟨o, ho, hc⟩ := hr g e.symm
  unfold Blk at h
  rw [h] at ho
  cases ho
  cases hc
theorem row_own {W W' : World} {row : Option Nat} {base : Nat} {e : TypeId} {size n : Nat} {v : Value} {xs : List Value} (h : W.ownsRow base e size v n xs) (hg : W.grownBy W' row) (hr : ∀ r, row = some r → ∃ o : Obj, W.heap[r]? = some o ∧ o.isCells = false) : W'.ownsRow base e size v n xs := by
  refine ⟨h.1, ?_⟩
  rcases h.2 with h2 | ⟨g1, cap, cur, h1, h2, h3, h4⟩
  · exact .inl h2
  · refine .inr ⟨g1, cap, cur, h1, h2, ?_, h4⟩
    rw [hg.block g1 (Array.getElem?_eq_some_iff.1 h3).1 (fun ee => ?_)]
    · exact h3
    · obtain ⟨o, ho, hc⟩ := hr g1 ee.symm
      rw [h3] at ho
      cases ho
      cases hc

/-- what the loop over the clusters holds: the boxes of the text, of the result, of the end, of the beginnings; the row of the beginnings; the iterator's box; the text -/
structure Mem (w : World) (b3 b4 T1 : Nat) (A : Option Addr) (zs : List Int) (c : Nat) (a : Nat) (pre : List (Nat × Nat)) (W : World) : Prop where
  bT : Blk W w.heap.size 22 #[.slice A zs.length c]
  bR : Blk W (w.heap.size + 1) 4 #[.bool false]
  bA : Blk W b3 3 #[.int .i64 (a : Int)]
  own : W.ownsRow (b3 + 1) 4 1 (.slice (some ⟨b3 + 1, 0, none⟩) (zs.length + 1) (zs.length + 1)) (zs.length + 1) (tabV (zs.length + 1) (fun j => .bool (bgs pre j)))
  bG : Blk W b4 43 #[.slice (some ⟨b3 + 1, 0, none⟩) (zs.length + 1) (zs.length + 1)]
  bX : Blk W (b4 + 1) 22 #[.slice A zs.length c]
  txt : W.ownsRow T1 3 1 (.slice A zs.length c) zs.length (zs.map (Value.int .i64))
  low : ∀ k, (Value.slice A zs.length c).ownBlock = some k → k < b3
  bel : Below w.heap.size w W
  num : w.heap.size + 2 ≤ T1 ∧ T1 ≤ b3 ∧ b3 + 2 ≤ b4
section
variable {b3 b4 T1 : Nat} {w : World} {A : Option Addr} {zs : List Int} {c a : Nat} {pre : List (Nat × Nat)} {W W' : World}
theorem Mem.own_ {row : Option Nat} {B : Nat} (h : Mem w b3 b4 T1 A zs c a pre W) (hB : w.heap.size ≤ B) (hg : W.grownBy W' row) (hr : ∀ r, row = some r → B ≤ r ∧ ∃ o : Obj, W.heap[r]? = some o ∧ o.isCells = false) : Mem w b3 b4 T1 A zs c a pre W' :=
  ⟨blk_own h.bT hg (fun r e => (hr r e).2), blk_own h.bR hg (fun r e => (hr r e).2), blk_own h.bA hg (fun r e => (hr r e).2), row_own h.own hg (fun r e => (hr r e).2), blk_own h.bG hg (fun r e => (hr r e).2), blk_own h.bX hg (fun r e => (hr r e).2),
    row_own h.txt hg (fun r e => (hr r e).2), h.low, h.bel.grown hg h.bel.size (fun k e => Nat.le_trans hB (hr k e).1), h.num⟩
theorem Mem.txt_ (h : Mem w b3 b4 T1 A zs c a pre W) (ht : TabM w) : Txt (b4 + 1) A zs c W := ⟨h.bX.cell 0, RdI.of_own h.txt, ht.below h.bel⟩
theorem Mem.end_ (h : Mem w b3 b4 T1 A zs c a pre W) (x : Nat) : Mem w b3 b4 T1 A zs c x pre (W.setCell ⟨b3, 0, none⟩ (.int .i64 (x : Int))) := by
  have hn := h.num
  exact ⟨h.bT.far (p := ⟨b3, 0, none⟩) (by show w.heap.size ≠ b3; omega) _, h.bR.far (p := ⟨b3, 0, none⟩) (by show w.heap.size + 1 ≠ b3; omega) _, h.bA.set_ 0 _, ownsRow_setCell_other h.own (a := ⟨b3, 0, none⟩) (fun hh => by simp [Value.ownBlock] at hh) _,
    h.bG.far (p := ⟨b3, 0, none⟩) (by show b4 ≠ b3; omega) _, h.bX.far (p := ⟨b3, 0, none⟩) (by show b4 + 1 ≠ b3; omega) _, ownsRow_setCell_other h.txt (a := ⟨b3, 0, none⟩) (fun hh => by have := h.low b3 (by simpa using hh); omega) _, h.low,
    h.bel.setCell (p := ⟨b3, 0, none⟩) (by show w.heap.size ≤ b3; omega) _, hn⟩
theorem Mem.beg_ (h : Mem w b3 b4 T1 A zs c a pre W) (x : Nat × Nat) : Mem w b3 b4 T1 A zs c a (pre ++ [x]) (W.setCell ⟨b3 + 1, x.1, none⟩ (.bool true)) := by
  have hn := h.num
  refine ⟨h.bT.far (p := ⟨b3 + 1, x.1, none⟩) (by show w.heap.size ≠ b3 + 1; omega) _, h.bR.far (p := ⟨b3 + 1, x.1, none⟩) (by show w.heap.size + 1 ≠ b3 + 1; omega) _, h.bA.far (p := ⟨b3 + 1, x.1, none⟩) (by show b3 ≠ b3 + 1; omega) _, ?_,
    h.bG.far (p := ⟨b3 + 1, x.1, none⟩) (by show b4 ≠ b3 + 1; omega) _, h.bX.far (p := ⟨b3 + 1, x.1, none⟩) (by show b4 + 1 ≠ b3 + 1; omega) _, ownsRow_setCell_other h.txt (a := ⟨b3 + 1, x.1, none⟩) (fun hh => by have := h.low (b3 + 1) (by simpa using hh); omega) _, h.low,
    h.bel.setCell (p := ⟨b3 + 1, x.1, none⟩) (by show w.heap.size ≤ b3 + 1; omega) _, hn⟩
  have h2 := own_store h.own x.1 (.bool true)
  have he : tabV (zs.length + 1) (upd (fun j => Value.bool (bgs pre j)) x.1 (.bool true)) = tabV (zs.length + 1) (fun j => .bool (bgs (pre ++ [x]) j)) := tabV_congr fun j _ => by
    rw [bgs_snoc]
    unfold upd
    split <;> rfl
  rw [he] at h2
  exact h2
end
/-- what holds between two rounds -/
def Inv (w : World) (b3 b4 T1 : Nat) (A : Option Addr) (zs : List Int) (c : Nat) (pre : List (Nat × Nat)) (W : World) : Prop := ∃ a, chk zs.length pre = some a ∧ Mem w b3 b4 T1 A zs c a pre W
def Left (zs : List Int) (_ : Code) (pre : List (Nat × Nat)) (_ : World) : Prop := chk zs.length pre = none

set_option maxRecDepth 100000 in
set_option maxHeartbeats 4000000 in
theorem walk (B : Option Addr) (cb : Nat) (xs : List Int) (w : World) (ht : TabM w) (hr : RdI w B xs) (hl : xs.length ≤ 9223372036854775807) (hwf : ∀ j, j < xs.length → (Lit.int .i64 (ix xs j)).wf = true) :
    Calls Tryd.prog 5 #[.slice B xs.length cb] w fun e w' => e = .returned (.bool true) ∧ Below w.heap.size w w' := by
  have Hch := hide (fun wx hrx => chars_ok B cb xs 100 wx hrx hl (by omega) hwf)
  have Ht := hide ht
  clear ht hwf
  refine (callsIn_wide (n := 6)).1 ?_
  refine callsIn_of_wp_marks Tryd.func5 rfl trivial ?_ rfl
  simp only [Tryd.ntmps5, List.size_toArray, List.length_cons, List.length_nil, Nat.reduceAdd, Nat.reduceSub, Array.replicate_succ, Array.replicate_zero, List.push_toArray, List.append_toArray, List.nil_append, List.cons_append]
  refine wpIn_wide.2 ?_
  go_wp2_with fail
  have n1 := (Blk.new w 22 #[.slice B xs.length cb]).alloc (.cells #[.bool false] 4)
  have n2 := Blk.new (w.alloc (.cells #[.slice B xs.length cb] 22)) 4 #[.bool false]
  have nb := ((Below.refl w.heap.size w).alloc (Nat.le_refl _) (.cells #[.slice B xs.length cb] 22)).alloc (by simp) (.cells #[.bool false] 4)
  rw [World.size_alloc] at n2
  have nsz : ((w.alloc (.cells #[.slice B xs.length cb] 22)).alloc (.cells #[.bool false] 4)).heap.size = w.heap.size + 2 := by simp
  generalize (w.alloc (.cells #[.slice B xs.length cb] 22)).alloc (.cells #[.bool false] 4) = w0 at *
  refine (placed_ok w0 (Ht.out.below nb)).mono ?_
  rintro e w1 ⟨rfl, hb1⟩
  have b1T := n1.below hb1 n1.lt
  have b1R := n2.below hb1 n2.lt
  have bel1 := nb.trans (hb1.mono nb.size)
  have sz1 := hb1.size
  have k1 : w1.cell? ⟨w.heap.size, 0, none⟩ = some (.slice B xs.length cb) := b1T.cell 0
  clear n1 n2 nb hb1
  go_wp2_with fail
  refine (Hch.out w1 (hr.below bel1)).mono ?_
  rintro e w2 ⟨A, c, rfl, hown, hb2⟩
  have hN : min xs.length 100 ≤ 100 := by omega
  generalize min xs.length 100 = N at *
  rw [tabV_ints] at hown
  have hlen := tab_length N (chv xs)
  have hv : ∀ j, j < N → 0 ≤ ix (tab N (chv xs)) j ∧ ix (tab N (chv xs)) j ≤ 1114111 := fun j hj => by
    rw [tab_ix _ hj]
    exact chv_bd xs j
  generalize tab N (chv xs) = zs at *
  subst hlen
  have b2T := b1T.below hb2 b1T.lt
  have b2R := b1R.below hb2 b1R.lt
  have bel2 := bel1.trans (hb2.mono bel1.size)
  have sz2 := hb2.size
  have k2 : w2.cell? ⟨w.heap.size, 0, none⟩ = some (.slice B xs.length cb) := b2T.cell 0
  have z2 : w2.frozen? ⟨w.heap.size, 0, none⟩ = false := b2T.frozen 0
  have hlow : ∀ k, (Value.slice A zs.length c).ownBlock = some k → k < w2.heap.size := fun k hk => (hown.lt k hk).2
  clear b1T b1R bel1 hb2 k1 Hch
  have Hv := hide hv
  have Hlow := hide hlow
  clear hv hlow
  go_upto_region 5 with fail
  have c2T : Blk ((w2.setCell ⟨w.heap.size, 0, none⟩ (.slice A zs.length c)).alloc (.cells #[.int .i64 0] 3)) w.heap.size 22 #[.slice A zs.length c] := (b2T.set_ 0 (.slice A zs.length c)).alloc _
  have c2R := (b2R.far (p := ⟨w.heap.size, 0, none⟩) (by simp) (.slice A zs.length c)).alloc (.cells #[.int .i64 0] 3)
  have c2b := (bel2.setCell (p := ⟨w.heap.size, 0, none⟩) (Nat.le_refl _) (.slice A zs.length c)).alloc (by simp [World.setCell]; omega) (.cells #[.int .i64 0] 3)
  have c2o := (own_setCell_low hown (a := ⟨w.heap.size, 0, none⟩) (by show w.heap.size < w1.heap.size; omega) (.slice A zs.length c)).alloc (.cells #[.int .i64 0] 3)
  have c2A : Blk ((w2.setCell ⟨w.heap.size, 0, none⟩ (.slice A zs.length c)).alloc (.cells #[.int .i64 0] 3)) w2.heap.size 3 #[.int .i64 0] := by
    have := Blk.new (w2.setCell ⟨w.heap.size, 0, none⟩ (.slice A zs.length c)) 3 #[.int .i64 0]
    rwa [show (w2.setCell ⟨w.heap.size, 0, none⟩ (.slice A zs.length c)).heap.size = w2.heap.size by simp [World.setCell]] at this
  have c2s : ((w2.setCell ⟨w.heap.size, 0, none⟩ (.slice A zs.length c)).alloc (.cells #[.int .i64 0] 3)).heap.size = w2.heap.size + 1 := by simp [World.setCell]
  clear b2T b2R bel2 k2 z2 hown
  generalize (w2.setCell ⟨w.heap.size, 0, none⟩ (.slice A zs.length c)).alloc (.cells #[.int .i64 0] 3) = w3 at *
  obtain ⟨T1, hT1⟩ : ∃ t, t = w1.heap.size := ⟨_, rfl⟩
  obtain ⟨b3, hb3⟩ : ∃ t, t = w2.heap.size := ⟨_, rfl⟩
  rw [← hT1] at c2o sz1 sz2
  rw [← hb3] at Hlow c2A c2s sz2
  rw [← hb3]
  clear hT1 hb3
  have k3 : w3.cell? ⟨w.heap.size, 0, none⟩ = some (.slice A zs.length c) := c2T.cell 0
  go_upto_region 6 with (at_make; refine wpL_make1 (n := zs.length + 1) (base := b3 + 1) rfl rfl Tryd.underlying43 bool_info rfl rfl rfl (by simp) (by simp) (by omega) (by omega) (by omega) ?_; intro w4 hown4 hgrow4)
  have sz4 := hgrow4.size
  have d4T := c2T.grown hgrow4 (by simp)
  have d4R := c2R.grown hgrow4 (by simp)
  have d4A := c2A.grown hgrow4 (by simp)
  have d4o := row_own c2o hgrow4 (fun r e => by cases e)
  have d4b := below_made c2b (by omega) hgrow4
  rw [c2s] at hown4
  have hg4 := (hown4.lt (b3 + 1) rfl).2
  clear c2T c2R c2A c2o c2b k3
  obtain ⟨b4, hb4⟩ : ∃ t, t = w4.heap.size := ⟨_, rfl⟩
  have e5T := d4T.alloc (.cells #[.slice (some ⟨b3 + 1, 0, none⟩) (zs.length + 1) (zs.length + 1)] 43)
  have e5R := d4R.alloc (.cells #[.slice (some ⟨b3 + 1, 0, none⟩) (zs.length + 1) (zs.length + 1)] 43)
  have e5A := d4A.alloc (.cells #[.slice (some ⟨b3 + 1, 0, none⟩) (zs.length + 1) (zs.length + 1)] 43)
  have e5o := d4o.alloc (.cells #[.slice (some ⟨b3 + 1, 0, none⟩) (zs.length + 1) (zs.length + 1)] 43)
  have e5b := d4b.alloc d4b.size (.cells #[.slice (some ⟨b3 + 1, 0, none⟩) (zs.length + 1) (zs.length + 1)] 43)
  have e5w := hown4.alloc (.cells #[.slice (some ⟨b3 + 1, 0, none⟩) (zs.length + 1) (zs.length + 1)] 43)
  have e5G := Blk.new w4 43 #[.slice (some ⟨b3 + 1, 0, none⟩) (zs.length + 1) (zs.length + 1)]
  have e5s : (w4.alloc (.cells #[.slice (some ⟨b3 + 1, 0, none⟩) (zs.length + 1) (zs.length + 1)] 43)).heap.size = w4.heap.size + 1 := by simp
  clear d4T d4R d4A d4o d4b hown4 hgrow4
  generalize w4.alloc (.cells #[.slice (some ⟨b3 + 1, 0, none⟩) (zs.length + 1) (zs.length + 1)] 43) = w5 at *
  rw [← hb4] at e5G e5s sz4 hg4
  rw [← hb4]
  clear hb4
  have k5 : w5.cell? ⟨w.heap.size, 0, none⟩ = some (.slice A zs.length c) := e5T.cell 0
  go_wp2_with fail
  refine (clusters_ok A zs.length c w5).mono ?_
  rintro e w6 ⟨rfl, rfl⟩
  try rw [e5s]
  have hmem : Mem w b3 b4 T1 A zs c 0 [] (w5.alloc (.cells #[.slice A zs.length c] 22)) :=
    ⟨e5T.alloc _, e5R.alloc _, e5A.alloc _, e5w.alloc _, e5G.alloc _, by have := Blk.new w5 22 #[.slice A zs.length c]; rwa [e5s] at this, e5o.alloc _, Hlow.out, e5b.alloc e5b.size _, by omega⟩
  have e6s : (w5.alloc (.cells #[.slice A zs.length c] 22)).heap.size = b4 + 2 := by simp [e5s]
  clear e5T e5R e5A e5w e5G e5o e5b k5
  generalize w5.alloc (.cells #[.slice A zs.length c] 22) = w6 at *
  have num := hmem.num
  go_wp2_with fail
  refine (wpIn_wide (n := 6)).1 ?_
  apply wpIn_rangeFunc_ownF (n := 6) rfl (by decide) (gf := 34) (lb := #[.pointer (some ⟨b4 + 1, 0, none⟩)]) rfl trivial (Go.Proofs.enters_of Tryd.func34 (by kernel_rfl) rfl) (clusters_stops class_ok _ (b4 + 1) A zs c (by omega) w6 (hmem.txt_ Ht.out))
    (fun h k => kpT_t h k) (fun W l o o' _ h ho _ => kpT_b W l o o' h ho) (Below.refl _ _) (fun _ => rfl) (Inv w b3 b4 T1 A zs c) (Left zs)
  case hI => exact fun pre W W' row hs hg hr => hs.elim fun a h => ⟨a, h.1, h.2.own_ (by omega) hg hr⟩
  case hIx => exact fun c pre W W' row hs _ _ => hs
  case h0 => exact ⟨0, rfl, hmem⟩
  case hassign =>
    intro l x W K hK
    gi_wp2
    exact hK
  case hbody =>
    rintro l pre ⟨f, t⟩ W ⟨a, hchk, hm⟩ _
    have kA : W.cell? ⟨b3, 0, none⟩ = some (.int .i64 (a : Int)) := hm.bA.cell 0
    have kT : W.cell? ⟨w.heap.size, 0, none⟩ = some (.slice A zs.length c) := hm.bT.cell 0
    have kG : W.cell? ⟨b4, 0, none⟩ = some (.slice (some ⟨b3 + 1, 0, none⟩) (zs.length + 1) (zs.length + 1)) := hm.bG.cell 0
    have kR : W.cell? ⟨w.heap.size + 1, 0, none⟩ = some (.bool false) := hm.bR.cell 0
    have zR : W.frozen? ⟨w.heap.size + 1, 0, none⟩ = false := hm.bR.frozen 0
    have zA : W.frozen? ⟨b3, 0, none⟩ = false := hm.bA.frozen 0
    have hsn := chk_snoc zs.length pre (f, t)
    rw [hchk] at hsn
    have hsn2 : chk zs.length (pre ++ [(f, t)]) = if f = a ∧ a < t ∧ t ≤ zs.length then some t else none := hsn
    clear hsn
    by_cases h1 : f = a
    · subst h1
      have d1 : ((f : Int) != (f : Int)) = false := by simp
      by_cases h2 : f < t
      · have d2 : decide ((t : Int) ≤ (f : Int)) = false := by simp; omega
        by_cases h3 : t ≤ zs.length
        · have d3 : decide ((t : Int) > (zs.length : Int)) = false := by simp; omega
          rw [if_pos ⟨rfl, h2, h3⟩] at hsn2
          have kB := own_cell hm.own (show f < zs.length + 1 by omega)
          have zB := World.ownsRow.frozenAt hm.own f
          have hf1 : f < zs.length + 1 := by omega
          have hm2 := (hm.beg_ (f, t)).end_ t
          have Hm2 := hide hm2
          have Hsn := hide hsn2
          clear hm2 hsn2 hm hchk
          gi_wp2
          exact ⟨(KeepsOthers.setCell _ _ _).trans (KeepsOthers.setCell _ _ _), fun _ => Hm2.out.txt_ Ht.out, t, Hsn.out, Hm2.out⟩
        · have d3 : decide ((t : Int) > (zs.length : Int)) = true := by simp; omega
          rw [if_neg (fun h => h3 h.2.2)] at hsn2
          have Hsn := hide hsn2
          clear hsn2 hm hchk
          gi_wp2
          exact ⟨KeepsOthers.setCell _ _ _, Hsn.out⟩
      · have d2 : decide ((t : Int) ≤ (f : Int)) = true := by simp; omega
        rw [if_neg (fun h => h2 h.2.1)] at hsn2
        have Hsn := hide hsn2
        clear hsn2 hm hchk
        gi_wp2
        exact ⟨KeepsOthers.setCell _ _ _, Hsn.out⟩
    · have d1 : ((f : Int) != (a : Int)) = true := by simp; omega
      rw [if_neg (fun h => h1 h.1)] at hsn2
      have Hsn := hide hsn2
      clear hsn2 hm hchk
      gi_wp2
      exact ⟨KeepsOthers.setCell _ _ _, Hsn.out⟩
  case hdone =>
    intro D ys W hD hS hI hK
    subst hS
    obtain ⟨a, hchk, hm⟩ := hI
    rw [chk_clus _ _ _ (Nat.le_refl _), frm_all] at hchk
    obtain rfl : zs.length = a := Option.some.inj hchk
    clear hchk hmem
    have hDl : D < W.heap.size := (Array.getElem?_eq_some_iff.1 hK).1
    have Hpl := hide (places_ok A c zs W (Ht.out.below hm.bel) (RdI.of_own hm.txt) (by omega) Hv.out)
    have Hbe := hide (fun (q : Int × Int) hq => places_begin (ix zs) zs.length (p := q) hq)
    have Hin := hide (plcs_inc (ix zs) zs.length)
    have hpn := plcs_len (ix zs) zs.length
    unfold PlacesPost at Hpl
    generalize plcs (ix zs) zs.length = L at *
    have kT : W.cell? ⟨w.heap.size, 0, none⟩ = some (.slice A zs.length c) := hm.bT.cell 0
    go_wp2_with fail
    refine Hpl.out.mono ?_
    rintro e w8 ⟨P, cP, rfl, hownP, hb8⟩
    rw [flat_rowF] at hownP
    have hrP := RdF.of_own hownP
    have f8T := hm.bT.below hb8 hm.bT.lt
    have f8R := hm.bR.below hb8 hm.bR.lt
    have f8A := hm.bA.below hb8 hm.bA.lt
    have f8G := hm.bG.below hb8 hm.bG.lt
    have f8o := own_below hm.own hb8
    have f8t := RdI.of_own (own_below hm.txt hb8)
    have f8b := hm.bel.trans (hb8.mono hm.bel.size)
    have f8K := (hb8.block D hDl).trans hK
    have f8s := hb8.size
    clear kT hm hownP hb8 Hpl hK
    generalize bgs (clus (ix zs) zs.length zs.length) = F at *
    have kT : w8.cell? ⟨w.heap.size, 0, none⟩ = some (.slice A zs.length c) := f8T.cell 0
    have kA : w8.cell? ⟨b3, 0, none⟩ = some (.int .i64 (zs.length : Int)) := f8A.cell 0
    generalize hLn : L.length = n at *
    go_wp2_with fail
    clear kT kA
    go_loopw [9, 57] (fun a b wr => ∃ t : Nat, t ≤ n ∧ b = .int .i64 t ∧ a = .int .i64 (pv L t) ∧ Below w8.heap.size w8 wr) (fun _ b _ => n - (intOf b).toNat)
    case atStart => exact ⟨0, by omega, rfl, rfl, Below.refl _ _⟩
    case round =>
      obtain ⟨t, htn, rfl, rfl, hb⟩ := hrel
      have g9T := f8T.below hb f8T.lt
      have g9G := f8G.below hb f8G.lt
      have g9o := own_below f8o hb
      have g9t := f8t.below hb
      by_cases hlt : t < n
      · obtain ⟨bP, oP, rfl, hcP⟩ := (hrP.below hb).at_ hlt
        have kp0 := hcP 0 (by omega)
        have kp1 := hcP 1 (by omega)
        have hin := Hin.out t (by omega)
        have hmemb : L.getD t (0, 0) ∈ L := by
          rw [List.getD_eq_getElem?_getD, List.getElem?_eq_getElem (by omega)]
          exact List.getElem_mem _
        obtain ⟨i, hi1, hi0, hiN, hcase⟩ := Hbe.out _ hmemb
        have e0 : fl L t 0 = .int .i64 (i : Int) := by unfold fl; rw [if_pos rfl, hi1]
        have e1 : fl L t 1 = .int .i64 (L.getD t (0, 0)).2 := rfl
        have epv : pv L (t + 1) = (i : Int) := hi1
        rw [e0] at kp0
        rw [e1] at kp1
        rw [hi1] at hin
        generalize (L.getD t (0, 0)).2 = kd at *
        generalize pv L t = q at *
        clear hcP hmemb hi1 e0 e1
        rw [Nat.add_zero] at kp0
        obtain ⟨bT', oT', rfl, kt⟩ := g9t.at_ (show i - 1 < zs.length by omega)
        have kb := own_cell g9o (show i < zs.length + 1 by omega)
        have kT : wr.cell? ⟨w.heap.size, 0, none⟩ = some (.slice (some ⟨bT', oT', none⟩) zs.length c) := g9T.cell 0
        have kG : wr.cell? ⟨b4, 0, none⟩ = some (.slice (some ⟨b3 + 1, 0, none⟩) (zs.length + 1) (zs.length + 1)) := g9G.cell 0
        go_upto_region 20 with fail
        have bx := Blk.new wr 41 #[.int .i64 (i : Int), .int .i64 kd]
        have hbx := hb.alloc hb.size (.cells #[.int .i64 (i : Int), .int .i64 kd] 41)
        have kt' := World.cell?_alloc_lt wr (.cells #[.int .i64 (i : Int), .int .i64 kd] 41) _ (World.block_lt_of_cell? wr _ kt)
        have kb' := World.cell?_alloc_lt wr (.cells #[.int .i64 (i : Int), .int .i64 kd] 41) _ (World.block_lt_of_cell? wr _ kb)
        have kT' := World.cell?_alloc_lt wr (.cells #[.int .i64 (i : Int), .int .i64 kd] 41) _ (World.block_lt_of_cell? wr _ kT)
        have kG' := World.cell?_alloc_lt wr (.cells #[.int .i64 (i : Int), .int .i64 kd] 41) _ (World.block_lt_of_cell? wr _ kG)
        rw [kt] at kt'
        rw [kb] at kb'
        rw [kT] at kT'
        rw [kG] at kG'
        clear kp0 kp1 kt kb kT kG
        generalize wr.alloc (.cells #[.int .i64 (i : Int), .int .i64 kd] 41) = w9 at *
        have q0 : w9.cell? ⟨wr.heap.size, 0, none⟩ = some (.int .i64 (i : Int)) := bx.cell 0
        have s1 : IntKind.i64.wrap ((i : Int) - 1) = (i : Int) - 1 := IntWalk.i64_in _ (by omega)
        have s2 : (0 : Int) ≤ (i : Int) - 1 := by omega
        have s3 : ((i : Int) - 1).toNat = i - 1 := by omega
        have s4 : (i : Int) - 1 < (zs.length : Int) := by omega
        have d1 : decide ((i : Int) ≤ q) = false := by simp; omega
        have d2 : decide ((i : Int) ≥ (zs.length : Int)) = false := by simp; omega
        have i1 : i < zs.length + 1 := by omega
        have Hb := hide hbx
        have Hpv := hide epv
        clear epv hbx bx
        by_cases hF : F i = true
        · rw [hF] at kb'
          clear hcase
          go_wp2_with fail
          exact ⟨⟨t + 1, by omega, by simp, by rw [Hpv.out], Hb.out⟩, by simp only [intOf]; omega⟩
        · have hF' : F i = false := by simpa using hF
          have h10 : ix zs (i - 1) = 10 := hcase.resolve_left hF
          rw [hF'] at kb'
          have d3 : (ix zs (i - 1) != 10) = false := by simp [h10]
          clear hcase h10 hF hF'
          go_wp2_with fail
          exact ⟨⟨t + 1, by omega, by simp, by rw [Hpv.out], Hb.out⟩, by simp only [intOf]; omega⟩
      · have htn' : n = t := by omega
        subst htn'
        have g9R := f8R.below hb f8R.lt
        have kR : wr.cell? ⟨w.heap.size + 1, 0, none⟩ = some (.bool false) := g9R.cell 0
        have zR : wr.frozen? ⟨w.heap.size + 1, 0, none⟩ = false := g9R.frozen 0
        have g9b := f8b.trans (hb.mono f8b.size)
        have hKr := (hb.block D (by omega)).trans f8K
        have hR2 := g9R.set_ 0 (.bool true)
        have hB2 := g9b.setCell (p := ⟨w.heap.size + 1, 0, none⟩) (by show w.heap.size ≤ w.heap.size + 1; omega) (.bool true)
        have hK2 := (KeepsOthers.setCell wr ⟨w.heap.size + 1, 0, none⟩ (.bool true)).same D _ hKr rfl
        have HR2 := hide hR2
        have HB2 := hide hB2
        have HK2 := hide hK2
        clear hR2 hB2 hK2 hKr g9b g9R
        go_wp2_with fail
        refine ⟨by simp, .inl ⟨_, _, rfl, run_takeDeferred HK2.out, ?_⟩⟩
        have kres := cell_kept (HR2.out.cell 0) (grownBy_putObj' _ D (.deferred none)) (fun r e => by cases e; exact ⟨_, HK2.out, rfl⟩)
        have hbz := HB2.out.trans (belowK_b (w := w) (Nat.le_refl _) _ D _ (.deferred none) (by omega) HK2.out rfl rfl)
        clear HR2 HB2 HK2 kR zR
        exact ⟨.bool true, by simp [results, Tryd.results5, go_sem, kres], rfl, hbz⟩
  case hstop =>
    intro D cc pre W hD hS hI hK
    exfalso
    obtain ⟨t, ht⟩ := hS
    have h1 := chk_none _ _ hI t
    rw [ht, chk_clus _ _ _ (Nat.le_refl _)] at h1
    cases h1

theorem walked : WalkedL Tryd.checked.prog 5 Tryd.f5 [("chancery/metric.marks", Rows.laid_chancery_metric_marks)] := by
  intro H enc W args ds ps hval hA hL
  have ht : TabM W := tabM_of ⟨_, _, rfl, rfl⟩ (by kernel_rfl) hL
  rw [Tryd.params5] at hA hval
  obtain ⟨v0, l0, d0, m0, p0, q0, e0, _, h0, k0⟩ := Frm.trodAll_cons hA
  obtain rfl := Frm.trodAll_nil k0
  obtain rfl : args = #[v0] := by cases args; simp_all
  obtain ⟨A, c, zs, rfl, hr, hl, hwf⟩ := ints_arg Tryd.underlying22 Tryd.underlying3 (by kernel_rfl) (hval 0 _ _ rfl rfl) h0
  exact walk A c zs W ht hr hl hwf

def laidL : List (String × DataW Unit) := [("chancery/metric.marks", Rows.laid_chancery_metric_marks)]
theorem door_met (os : Os) (args : Array Value) : laidMetH Tryd.prog laidL ((World.doorLaid Tryd.prog 400 os).forCall (fun _ _ => 0) ⟨#[], args, []⟩).memory :=
  laidMetH_of_parts3 (fuel := 8) (laidMet_of_run' 8 (by kernel_rfl) (by kernel_rfl)) (by kernel_rfl) (by kernel_rfl)

set_option maxRecDepth 100000 in
theorem lifted (os : Os) (started : os.Started) (H : Type) (enc : TypeId × Value → H) :
    ReturnsInHanded {} Tryd.checked os 5 .any (fun w args => (Rows.breaksKeepClustersSpec.pre enc Tryd.prog Tryd.f5 [] false w args ∧ laidMetH Tryd.prog laidL w) ∧ sizedMet enc Tryd.prog Tryd.f5 (OpenSpec.ofChange Rows.breaksKeepClustersSpec) false w args) (Rows.breaksKeepClustersSpec.post enc Tryd.prog Tryd.f5 false true false false) :=
  law_lift_laid (C := Tryd.checked) (tb := 4) (laid := laidL) (by kernel_rfl) started (by kernel_rfl) Tryd.func5 rfl
    (fun ds h => match ds, h with | [_], _ => rfl) rfl Tryd.underlying4 (by kernel_rfl) (by kernel_rfl)
    (ChangeSpec.witness_shaped (enc := enc) (C := Tryd.checked) (os := os) (X := fun w _ => laidMetH Tryd.prog laidL w) false (World.doorLaid Tryd.prog 400 os) #[.slice none 0 0] 8 rfl (World.shaped_of_RefB (by kernel_rfl) (by kernel_rfl)) (by kernel_rfl) (by kernel_rfl) (by kernel_rfl) (door_met os _))
    walked

theorem said : Rows.BreaksKeepClustersSaid :=
  OpenClaim.holds_of_wide 5 Tryd.f5 rfl rfl rfl rfl rfl rfl rfl ⟨rfl, rfl, rfl, rfl, rfl⟩ rfl rfl rfl rfl rfl (by kernel_rfl) Tryd.func5 (by kernel_rfl)
    (of_decide_eq_true (by kernel_rfl)) (by unfold Func.isWrapper; first | (rw [if_pos (by decide +kernel)]; kernel_rfl) | (rw [if_neg (by decide +kernel)]; exact ⟨rfl, rfl⟩))
    (fun os started H enc _ => lifted os started H enc)

/-- THE STATEMENT: the tied card -/
theorem proved : Rows.BreaksKeepClustersCardSaid :=
  Claim7.holds_tied_plain_at .later [] [.widerDeep] true (true, "615198ff36b7c7e435cabbe38a7256887dfbc5d265756060a0dddb598d2df81c") false
    said (fun _ h => by cases h) (by kernel_rfl) (fun _ h => by cases h) breaksKeepClusters_row_tie rfl ⟨rfl, rfl⟩ (by kernel_rfl) rfl
    (fun f fn hf hfn => by
      obtain rfl : f = 5 := Option.some.inj ((show Tryd.prog.funcNamed "chancery/chancerykeep3.BreaksKeepClusters" = some 5 by kernel_rfl).symm.trans hf) |>.symm
      obtain rfl : fn = Tryd.f5 := (Option.some.inj (Tryd.func5.symm.trans hfn)).symm
      exact ⟨by kernel_rfl, fun j t ht => by
        have hm : t ∈ Tryd.f5.params.toList := by simpa using Array.mem_of_getElem? ht
        have hall : (Tryd.f5.params.toList.all fun u => !Tryd.prog.wantsStandIn u) = true := by kernel_rfl
        exact (show Tryd.prog.wantsStandIn t = false by simpa using List.all_eq_true.1 hall t hm)⟩)
    (by kernel_rfl)
#print axioms proved
end Go.Proofs.YtdhhkcboejhoaaaDoor.BreaksKeepClustersDone
