/- PROVED HERE: whatever the two texts are, chancerykeep3.BreaksWords returns true, and its arguments read behind the call as before, where the listed table of package metric holds what the row lists. No condition beside those of the given row. -/
import Derived.Test.YtdhhkcboejhoaaaDoorRows
import Derived.Test.YtdhhkcboejhoaaaDoorCards
import Derived.Test.YtdhhkcboejhoaaaDoorTie
import Derived.Test.YtdhhkcboejhoaaaDoorMetricTabs
import Derived.Test.YtdhhkcboejhoaaaDoorChars
import Derived.Test.YtdhhkcboejhoaaaDoorBreaksWordsIter
import Derived.Test.YtdhhkcboejhoaaaDoorConcat
import Derived.Test.YtdhhkcboejhoaaaDoorSpanEqual
import Derived.SevenTiedAt
namespace Go.Proofs.YtdhhkcboejhoaaaDoor.BreaksWordsDone
open Go.RowKit Go.Frm Go.ChangeShapes Go.WideShapes Go.ChangeAt Mtr Wi Cha Bre Cat
attribute [local go_sem] Oper.semAt_some

theorem span_info : (Tryd.prog.info? 30).map (fun i => (i.zero, i.size, i.bytes)) = some (some (.agg #[.int .i64 0, .int .i64 0]), 2, 16) := by kernel_rfl
set_option maxRecDepth 100000 in
set_option maxHeartbeats 1000000 in
theorem words_ok (A : Option Addr) (n c : Nat) (w : World) :
    Calls Tryd.prog 8 #[.slice A n c] w fun e w' => e = .returned (.func (.func 25) #[] #[.pointer (some ⟨w.heap.size, 0, none⟩)]) ∧ w' = w.alloc (.cells #[.slice A n c] 22) := by
  go_enter Tryd.func8, Tryd.ntmps8
  go_wp2_with fail
  go_ret
  exact ⟨rfl, rfl⟩

/-- blocks of cells stay where a block turns that is none -/
theorem blk_own {W W' : World} {row : Option Nat} {g : Nat} {t : TypeId} {cs : Array Value} (h : Blk W g t cs) (hg : W.grownBy W' row) (hr : ∀ r, row = some r → ∃ o : Obj, W.heap[r]? = some o ∧ o.isCells = false) : Blk W' g t cs := by
  refine h.grown hg (fun e => ?_)
  obtain ⟨o, ho, hc⟩ := hr g e.symm
  unfold Blk at h
  rw [h] at ho
  cases ho
  cases hc
theorem row_own {W W' : World} {row : Option Nat} {base : Nat} {e : TypeId} {size n : Nat} {v : Value} {xs : List Value} (h : W.ownsRow base e size v n xs) (hg : W.grownBy W' row) (hr : ∀ r, row = some r → ∃ o : Obj, W.heap[r]? = some o ∧ o.isCells = false) : W'.ownsRow base e size v n xs := by
  refine ⟨h.1, ?_⟩
  rcases h.2 with h2 | ⟨g1, cap, cur, h1, h2, h3, h4⟩
  · exact .inl h2
  · refine .inr ⟨g1, cap, cur, h1, h2, ?_, h4⟩
    rw [hg.block g1 (Array.getElem?_eq_some_iff.1 h3).1 (fun ee => ?_)]
    · exact h3
    · obtain ⟨o, ho, hc⟩ := hr g1 ee.symm
      rw [h3] at ho
      cases ho
      cases hc
theorem rdI_near {a w : World} {G base : Nat} {A : Option Addr} {zs : List Int} (h : RdI a A zs) (hn : Near G base a w) (hA : ∀ ad, A = some ad → ad.block < base ∧ ad.block ≠ G) : RdI w A zs := by
  rcases h with h | ⟨b, off, rfl, hc⟩
  · exact .inl h
  · obtain ⟨h1, h2⟩ := hA _ rfl
    refine .inr ⟨b, off, rfl, fun j hj => ?_⟩
    rw [World.cell?_of_block (hn.block b h1 h2)]
    exact hc j hj

/-- the first loop: a blank between two words -/
def lit5 : List Int := [97, 39, 98, 32, 49]
theorem wrd5 : wrd (ix lit5) 5 = [(0, 3), (4, 5)] := by decide +kernel
def chk1 : List (Nat × Nat) → Bool
  | [] => true
  | [x] => x == (0, 3)
  | x :: y :: _ => x == (0, 3) && y == (4, 5)
theorem chk1_pre (pre : List (Nat × Nat)) (h : pre <+: [(0, 3), (4, 5)]) : chk1 pre = true := by
  obtain ⟨t, ht⟩ := h
  match pre, ht with
  | [], _ => rfl
  | [x], ht => simp at ht; simp [chk1, ht.1]
  | x :: y :: l, ht => simp at ht; simp [chk1, ht.1, ht.2.1]
theorem txt_near {W0 W : World} {G base Bt c : Nat} {A : Option Addr} {zs : List Int} (h : Txt Bt A zs c W0) (ht : TabM W) (hn : Near G base W0 W) (h1 : Bt < base) (h2 : Bt ≠ G) (hA : ∀ ad, A = some ad → ad.block < base ∧ ad.block ≠ G) : Txt Bt A zs c W :=
  ⟨by rw [World.cell?_of_block (hn.block Bt h1 h2)]; exact h.1, rdI_near h.2.1 hn hA, ht⟩
theorem near_own {W0 W W' : World} {G base : Nat} {row : Option Nat} {B : Nat} (h : Near G base W0 W) (hb : base ≤ W0.heap.size) (hB : base ≤ B) (hg : W.grownBy W' row) (hr : ∀ r, row = some r → B ≤ r ∧ ∃ o : Obj, W.heap[r]? = some o ∧ o.isCells = false) : Near G base W0 W' :=
  h.grown hg (Nat.le_trans hb h.size) (fun k e => Nat.le_trans hB (hr k e).1)
/-- what holds in it -/
def I1 (b5 base : Nat) (W0 : World) (pre : List (Nat × Nat)) (W : World) : Prop := chk1 pre = true ∧ Near b5 base W0 W ∧ Blk W b5 3 #[.int .i64 (pre.length : Int)]
def L1 (_ : Code) (pre : List (Nat × Nat)) (_ : World) : Prop := chk1 pre = false

/-- the cells of spans -/
def spl (l : List (Nat × Nat)) : List Value := l.flatMap fun x => [.int .i64 (x.1 : Int), .int .i64 (x.2 : Int)]
theorem spl_snoc (l : List (Nat × Nat)) (x : Nat × Nat) : spl (l ++ [x]) = spl l ++ [.int .i64 (x.1 : Int), .int .i64 (x.2 : Int)] := by simp [spl]
/-- the same, moved -/
def spw (n : Nat) (l : List (Nat × Nat)) : List Value := l.flatMap fun x => [.int .i64 (wrap64 ((n : Int) + 1 + (x.1 : Int))), .int .i64 (wrap64 ((n : Int) + 1 + (x.2 : Int)))]
theorem spw_snoc (n : Nat) (l : List (Nat × Nat)) (x : Nat × Nat) : spw n (l ++ [x]) = spw n l ++ [.int .i64 (wrap64 ((n : Int) + 1 + (x.1 : Int))), .int .i64 (wrap64 ((n : Int) + 1 + (x.2 : Int)))] := by simp [spw]
theorem spl_rowF (L : List (Nat × Nat)) : spl L = rowF L.length 2 (spF fun i => L.getD i (0, 0)) := by
  obtain ⟨F, hF⟩ : ∃ F : Nat → Nat × Nat, F = fun i => L.getD i (0, 0) := ⟨_, rfl⟩
  have h : L = (List.range L.length).map F := by
    apply List.ext_getElem
    · simp
    · intro i h1 h2
      simp [hF, List.getD, h1]
  rw [← hF]
  have e : ∀ i, (List.range 2).map (spF F i) = [.int .i64 ((F i).1 : Int), .int .i64 ((F i).2 : Int)] := fun i => by
    show (List.range 2).map (spF F i) = [spF F i 0, spF F i 1]
    rfl
  unfold rowF
  have h2 : spl L = spl ((List.range L.length).map F) := congrArg spl h
  rw [h2]
  unfold spl
  rw [List.flatMap_map]
  exact congrArg (fun g => (List.range L.length).flatMap g) (funext fun i => (e i).symm)
theorem wrap_sh (n x : Nat) (hn : n ≤ 1000) (hx : x ≤ 1000) : wrap64 ((n : Int) + 1 + (x : Int)) = ((n + 1 + x : Nat) : Int) := by
  rw [show ((n + 1 + x : Nat) : Int) = (n : Int) + 1 + (x : Int) by omega]
  exact IntWalk.wrap64_in _ ⟨by omega, by omega⟩
theorem spw_shf (n : Nat) (hn : n ≤ 1000) (l : List (Nat × Nat)) : (∀ x ∈ l, x.1 ≤ 1000 ∧ x.2 ≤ 1000) → spw n l = spl (shf (n + 1) l) := by
  induction l with
  | nil => intro _; unfold spw spl shf; rw [List.map_nil, List.flatMap_nil, List.flatMap_nil]
  | cons x l ih =>
    intro h
    have h1 := h x (by simp)
    have e0 : spw n (x :: l) = [.int .i64 (wrap64 ((n : Int) + 1 + (x.1 : Int))), .int .i64 (wrap64 ((n : Int) + 1 + (x.2 : Int)))] ++ spw n l := by unfold spw; rw [List.flatMap_cons]
    have e1 : spl (shf (n + 1) (x :: l)) = [.int .i64 ((n + 1 + x.1 : Nat) : Int), .int .i64 ((n + 1 + x.2 : Nat) : Int)] ++ spl (shf (n + 1) l) := by unfold spl shf; rw [List.map_cons, List.flatMap_cons]
    have e2 := wrap_sh n x.1 hn h1.1
    have e3 := wrap_sh n x.2 hn h1.2
    generalize wrap64 ((n : Int) + 1 + (x.1 : Int)) = g1 at *
    generalize wrap64 ((n : Int) + 1 + (x.2 : Int)) = g2 at *
    rw [e0, e1, e2, e3, ih (fun y hy => h y (by simp [hy]))]
theorem wls_bd (C : Nat → Int) (N : Nat) : ∀ i, ∀ x ∈ wls C N i, x.1 ≤ i ∧ x.2 ≤ i
  | 0, x, h => by cases h
  | i + 1, x, h => by
    have ih := wls_bd C N i x
    cases hw : wst C N i with
    | none =>
      cases hb : beg C i with
      | true => rw [(wst_none_yes hw hb).2] at h; have := ih h; omega
      | false => rw [(wst_none_no hw hb).2] at h; have := ih h; omega
    | some g =>
      have hg := wst_lt hw
      cases hc : con C N i with
      | true => rw [(wst_some_yes hw hc).2] at h; have := ih h; omega
      | false =>
        rw [(wst_some_no hw hc).2] at h
        rcases List.mem_append.1 h with h | h
        · have := ih h; omega
        · simp at h; subst h; simp; omega
theorem wrd_bd (C : Nat → Int) (N : Nat) : ∀ x ∈ wrd C N, x.1 ≤ N ∧ x.2 ≤ N := fun x h => by
  unfold wrd at h
  rcases List.mem_append.1 h with h | h
  · exact wls_bd C N N x h
  · cases hw : wst C N N with
    | none => rw [hw] at h; cases h
    | some f =>
      have := wst_lt hw
      rw [hw] at h
      simp [wfl] at h
      subst h
      simp; omega
theorem wrd_len (C : Nat → Int) (N : Nat) : (wrd C N).length ≤ N + 1 := by
  have := wls_len C N N
  unfold wrd
  cases wst C N N with
  | none => simp [wfl]; omega
  | some f => simp [wfl]; omega
/-- what holds where spans are collected -/
def I2 (G base Bt : Nat) (cs : Array Value) (W0 : World) (n0 : Nat) (xs0 : List Value) (g : List (Nat × Nat) → List Value) (pre : List (Nat × Nat)) (W : World) : Prop :=
  ∃ v, Blk W G 28 #[v] ∧ W.ownsRow base 30 2 v (n0 + pre.length) (xs0 ++ g pre) ∧ Near G base W0 W ∧ Blk W Bt 22 cs
theorem i2_own {G base Bt : Nat} {cs : Array Value} {W0 : World} {n0 : Nat} {xs0 : List Value} {g : List (Nat × Nat) → List Value} {B : Nat} (h1 : base ≤ W0.heap.size) (h2 : base ≤ B) : OwnFrom B (I2 G base Bt cs W0 n0 xs0 g) :=
  fun _ _ _ _ hs hg hr => hs.elim fun v h => ⟨v, blk_own h.1 hg (fun r e => (hr r e).2), row_own h.2.1 hg (fun r e => (hr r e).2), near_own h.2.2.1 h1 h2 hg hr, blk_own h.2.2.2 hg (fun r e => (hr r e).2)⟩
theorem blk_row_ne {W : World} {g : Nat} {t e : TypeId} {cs : Array Value} {base size n : Nat} {v : Value} {xs : List Value} (h : Blk W g t cs) (ho : W.ownsRow base e size v n xs) (hne : e ≠ t) (hh : some g = v.ownBlock) : False := by
  rcases ho.2 with ⟨rfl, _⟩ | ⟨g1, cap, cur, rfl, _, h1, _⟩
  · cases hh
  · have hg : g = g1 := by simpa [Value.ownBlock] using hh
    subst hg
    unfold Blk at h
    rw [h] at h1
    injection h1 with h1
    injection h1 with _ h2
    exact hne h2.symm
theorem row_cells {W : World} {e : TypeId} {base size n j : Nat} {v : Value} {xs : List Value} {o : Obj} (ho : W.ownsRow base e size v n xs) (hj : v.ownBlock = some j) (h : W.heap[j]? = some o) : o.isCells = true := by
  rcases ho.2 with ⟨rfl, _⟩ | ⟨g1, cap, cur, rfl, _, h1, _⟩
  · cases hj
  · have hg : g1 = j := by simpa [Value.ownBlock] using hj
    subst hg
    rw [h1] at h
    cases h
    rfl
theorem ownBlock_ad {A : Option Addr} {n c k : Nat} (h : ∀ j, (Value.slice A n c).ownBlock = some j → j < k) : ∀ ad, A = some ad → ad.block < k := fun ad he => by
  subst he
  exact h ad.block (by simp [Value.ownBlock])

/-- what holds in the last loop -/
def I4 (G base Bt N : Nat) (cs : Array Value) (W0 : World) (pre : List (Nat × Nat)) (W : World) : Prop :=
  ∃ v e, chw N pre = some e ∧ Blk W G 28 #[v] ∧ W.ownsRow base 30 2 v pre.length (spl pre) ∧ Near G base W0 W ∧ Blk W base 3 #[.int .i64 ((e : Int) - 1)] ∧ Blk W Bt 22 cs
theorem i4_own {G base Bt N : Nat} {cs : Array Value} {W0 : World} {B : Nat} (h1 : base ≤ W0.heap.size) (h2 : base ≤ B) : OwnFrom B (I4 G base Bt N cs W0) :=
  fun _ _ _ _ hs hg hr => hs.elim fun v h => h.elim fun e h => ⟨v, e, h.1, blk_own h.2.1 hg (fun r e => (hr r e).2), row_own h.2.2.1 hg (fun r e => (hr r e).2), near_own h.2.2.2.1 h1 h2 hg hr, blk_own h.2.2.2.2.1 hg (fun r e => (hr r e).2), blk_own h.2.2.2.2.2 hg (fun r e => (hr r e).2)⟩

theorem fin_step {w u : World} {r : Addr} {x : Value} {D : Nat} (hc : u.cell? r = some x) (hb : Below w.heap.size w u) (hD : w.heap.size ≤ D) (hk : u.heap[D]? = some (.deferred (some []))) :
    (u.putObj D (.deferred none)).cell? r = some x ∧ Below w.heap.size w (u.putObj D (.deferred none)) ∧ ∀ E, E ≠ D → u.heap[E]? = some (.deferred (some [])) → (u.putObj D (.deferred none)).heap[E]? = some (.deferred (some [])) :=
  ⟨cell_kept hc (grownBy_putObj' _ D (.deferred none)) (fun r e => by cases e; exact ⟨_, hk, rfl⟩), hb.trans (belowK_b (w := w) (Nat.le_refl _) _ D _ (.deferred none) hD hk rfl rfl),
    fun E hne h => ((grownBy_putObj' u D (.deferred none)).block E (Array.getElem?_eq_some_iff.1 h).1 (fun e => hne (Option.some.inj e))).trans h⟩

set_option maxRecDepth 100000 in
set_option maxHeartbeats 4000000 in
theorem walk (B0 B1 : Option Addr) (cb0 cb1 : Nat) (xs ys : List Int) (w : World) (ht : TabM w) (hr0 : RdI w B0 xs) (hr1 : RdI w B1 ys) (hl0 : xs.length ≤ 9223372036854775807) (hl1 : ys.length ≤ 9223372036854775807)
    (hw0 : ∀ j, j < xs.length → (Lit.int .i64 (ix xs j)).wf = true) (hw1 : ∀ j, j < ys.length → (Lit.int .i64 (ix ys j)).wf = true) :
    Calls Tryd.prog 3 #[.slice B0 xs.length cb0, .slice B1 ys.length cb1] w fun e w' => e = .returned (.bool true) ∧ Below w.heap.size w w' := by
  have Hc0 := hide (fun wx hrx => chars_ok B0 cb0 xs 40 wx hrx hl0 (by omega) hw0)
  have Hc1 := hide (fun wx hrx => chars_ok B1 cb1 ys 40 wx hrx hl1 (by omega) hw1)
  have Ht := hide ht
  clear ht hw0 hw1
  refine (callsIn_wide (n := 6)).1 ?_
  refine callsIn_of_wp_marks Tryd.func3 rfl trivial ?_ rfl
  simp only [Tryd.ntmps3, List.size_toArray, List.length_cons, List.length_nil, Nat.reduceAdd, Nat.reduceSub, Array.replicate_succ, Array.replicate_zero, List.push_toArray, List.append_toArray, List.nil_append, List.cons_append]
  refine wpIn_wide.2 ?_
  go_upto_region 2 with fail
  have n1 := ((Blk.new w 22 #[.slice B0 xs.length cb0]).alloc (.cells #[.bool false] 4)).alloc (.cells #[.int .i64 0] 3)
  have n2 := (Blk.new (w.alloc (.cells #[.slice B0 xs.length cb0] 22)) 4 #[.bool false]).alloc (.cells #[.int .i64 0] 3)
  have n5 := Blk.new ((w.alloc (.cells #[.slice B0 xs.length cb0] 22)).alloc (.cells #[.bool false] 4)) 3 #[.int .i64 0]
  have nb := (((Below.refl w.heap.size w).alloc (Nat.le_refl _) (.cells #[.slice B0 xs.length cb0] 22)).alloc (by simp) (.cells #[.bool false] 4)).alloc (by simp; omega) (.cells #[.int .i64 0] 3)
  rw [World.size_alloc] at n2
  rw [World.size_alloc, World.size_alloc] at n5
  have nsz : (((w.alloc (.cells #[.slice B0 xs.length cb0] 22)).alloc (.cells #[.bool false] 4)).alloc (.cells #[.int .i64 0] 3)).heap.size = w.heap.size + 3 := by simp
  generalize ((w.alloc (.cells #[.slice B0 xs.length cb0] 22)).alloc (.cells #[.bool false] 4)).alloc (.cells #[.int .i64 0] 3) = w0 at *
  go_wp2_with fail
  have hlit : RdI (w0.alloc (.cells #[.int .i64 97, .int .i64 39, .int .i64 98, .int .i64 32, .int .i64 49] 3)) (some ⟨w0.heap.size, 0, none⟩) lit5 := rdI_lit w0 3 w0.heap.size lit5 rfl (by decide)
  have m1 := n1.alloc (.cells #[.int .i64 97, .int .i64 39, .int .i64 98, .int .i64 32, .int .i64 49] 3)
  have m2 := n2.alloc (.cells #[.int .i64 97, .int .i64 39, .int .i64 98, .int .i64 32, .int .i64 49] 3)
  have m5 := n5.alloc (.cells #[.int .i64 97, .int .i64 39, .int .i64 98, .int .i64 32, .int .i64 49] 3)
  have mb := nb.alloc nb.size (.cells #[.int .i64 97, .int .i64 39, .int .i64 98, .int .i64 32, .int .i64 49] 3)
  have msz : (w0.alloc (.cells #[.int .i64 97, .int .i64 39, .int .i64 98, .int .i64 32, .int .i64 49] 3)).heap.size = w.heap.size + 4 := by simp [nsz]
  rw [nsz] at hlit
  clear n1 n2 n5 nb
  generalize w0.alloc (.cells #[.int .i64 97, .int .i64 39, .int .i64 98, .int .i64 32, .int .i64 49] 3) = w1 at *
  try rw [nsz]
  refine (words_ok _ 5 5 w1).mono ?_
  rintro e w2 ⟨rfl, rfl⟩
  try rw [msz]
  have hT : Txt (w.heap.size + 4) (some ⟨w.heap.size + 3, 0, none⟩) lit5 5 (w1.alloc (.cells #[.slice (some ⟨w.heap.size + 3, 0, none⟩) 5 5] 22)) := by
    refine ⟨?_, hlit.alloc _, (Ht.out.below mb).alloc _⟩
    have := (Blk.new w1 22 #[.slice (some ⟨w.heap.size + 3, 0, none⟩) 5 5]).cell 0
    rwa [msz] at this
  have q1 := m1.alloc (.cells #[.slice (some ⟨w.heap.size + 3, 0, none⟩) 5 5] 22)
  have q2 := m2.alloc (.cells #[.slice (some ⟨w.heap.size + 3, 0, none⟩) 5 5] 22)
  have q5 := m5.alloc (.cells #[.slice (some ⟨w.heap.size + 3, 0, none⟩) 5 5] 22)
  have qb := mb.alloc mb.size (.cells #[.slice (some ⟨w.heap.size + 3, 0, none⟩) 5 5] 22)
  have qsz : (w1.alloc (.cells #[.slice (some ⟨w.heap.size + 3, 0, none⟩) 5 5] 22)).heap.size = w.heap.size + 5 := by simp [msz]
  clear m1 m2 m5 mb hlit
  generalize w1.alloc (.cells #[.slice (some ⟨w.heap.size + 3, 0, none⟩) 5 5] 22) = w2 at *
  have Htx : Hid (∀ W, Near (w.heap.size + 1 + 1) w2.heap.size w2 W → Txt (w.heap.size + 4) (some ⟨w.heap.size + 3, 0, none⟩) lit5 5 W) := fun W hN =>
    txt_near hT (Ht.out.below (qb.trans (hN.below (by omega) (by omega)))) hN (by omega) (by omega) (fun ad h => by cases h; exact ⟨by show w.heap.size + 3 < _; omega, by show w.heap.size + 3 ≠ _; omega⟩)
  go_wp2_with fail
  refine (wpIn_wide (n := 6)).1 ?_
  apply wpIn_rangeFunc_ownF (n := 6) rfl (by decide) (gf := 25) (lb := #[.pointer (some ⟨w.heap.size + 4, 0, none⟩)]) rfl trivial (Go.Proofs.enters_of Tryd.func25 (by kernel_rfl) rfl) (words_stops _ (w.heap.size + 4) _ lit5 5 (by decide) w2 hT)
    (fun h k => kpT_t h k) (fun W l o o' _ h ho _ => kpT_b W l o o' h ho) (Below.refl _ _) (fun _ => rfl) (I1 (w.heap.size + 1 + 1) w2.heap.size w2) L1
  case hI => exact fun pre W W' row hs hg hr => ⟨hs.1, near_own hs.2.1 (Nat.le_refl _) (Nat.le_refl _) hg hr, blk_own hs.2.2 hg (fun r e => (hr r e).2)⟩
  case hIx => exact fun c pre W W' row hs _ _ => hs
  case h0 => exact ⟨rfl, Near.refl _ _ _, q5⟩
  case hassign =>
    intro l x W K hK
    gi_wp2
    exact hK
  case hbody =>
    rintro l pre ⟨f, t⟩ W ⟨hch, hN, hC⟩ hlen
    have kC : W.cell? ⟨w.heap.size + 1 + 1, 0, none⟩ = some (.int .i64 (pre.length : Int)) := hC.cell 0
    have zC : W.frozen? ⟨w.heap.size + 1 + 1, 0, none⟩ = false := hC.frozen 0
    have hR := hN.blk q2 (by omega) (by omega)
    have kR : W.cell? ⟨w.heap.size + 1, 0, none⟩ = some (.bool false) := hR.cell 0
    have zR : W.frozen? ⟨w.heap.size + 1, 0, none⟩ = false := hR.frozen 0
    clear hR
    rcases pre with _ | ⟨x, _ | ⟨y, r⟩⟩
    · clear hch
      replace kC : W.cell? ⟨w.heap.size + 1 + 1, 0, none⟩ = some (.int .i64 0) := kC
      by_cases hf : f = 0
      · subst hf
        by_cases ht : t = 3
        · subst ht
          have f0 : (((0 : Nat) : Int) != 0) = false := by simp; try omega
          have f1 : (((3 : Nat) : Int) != 3) = false := by simp; try omega
          have Hk := hide (show chk1 ([] ++ [(0, 3)]) = true by simp [chk1])
          gi_wp2
          exact ⟨KeepsOthers.setCell _ _ _, fun _ => Htx.out _ (hN.setCell (p := ⟨w.heap.size + 1 + 1, 0, none⟩) (.inl rfl) _), Hk.out, hN.setCell (p := ⟨w.heap.size + 1 + 1, 0, none⟩) (.inl rfl) _, hC.set_ 0 (.int .i64 1)⟩
        · have g0 : (((0 : Nat) : Int) != 0) = false := by simp
          have g1 : ((t : Int) != 3) = true := by simp; omega
          have Hk := hide (show chk1 ([] ++ [(0, t)]) = false by simp [chk1, ht])
          gi_wp2
          exact ⟨(KeepsOthers.setCell _ _ _).trans (KeepsOthers.setCell _ _ _), Hk.out⟩
      · have g0 : ((f : Int) != 0) = true := by simp; omega
        have Hk := hide (show chk1 ([] ++ [(f, t)]) = false by simp [chk1, hf])
        gi_wp2
        exact ⟨(KeepsOthers.setCell _ _ _).trans (KeepsOthers.setCell _ _ _), Hk.out⟩
    · skip
      replace kC : W.cell? ⟨w.heap.size + 1 + 1, 0, none⟩ = some (.int .i64 1) := kC
      by_cases hf : f = 4
      · subst hf
        by_cases ht : t = 5
        · subst ht
          have f0 : (((4 : Nat) : Int) != 4) = false := by simp; try omega
          have f1 : (((5 : Nat) : Int) != 5) = false := by simp; try omega
          have Hk := hide (show chk1 ([x] ++ [(4, 5)]) = true by simpa [chk1] using hch)
          gi_wp2
          exact ⟨KeepsOthers.setCell _ _ _, fun _ => Htx.out _ (hN.setCell (p := ⟨w.heap.size + 1 + 1, 0, none⟩) (.inl rfl) _), Hk.out, hN.setCell (p := ⟨w.heap.size + 1 + 1, 0, none⟩) (.inl rfl) _, hC.set_ 0 (.int .i64 2)⟩
        · have g0 : (((4 : Nat) : Int) != 4) = false := by simp
          have g1 : ((t : Int) != 5) = true := by simp; omega
          have Hk := hide (show chk1 ([x] ++ [(4, t)]) = false by simp [chk1, ht])
          gi_wp2
          exact ⟨(KeepsOthers.setCell _ _ _).trans (KeepsOthers.setCell _ _ _), Hk.out⟩
      · have g0 : ((f : Int) != 4) = true := by simp; omega
        have Hk := hide (show chk1 ([x] ++ [(f, t)]) = false by simp [chk1, hf])
        gi_wp2
        exact ⟨(KeepsOthers.setCell _ _ _).trans (KeepsOthers.setCell _ _ _), Hk.out⟩
    · skip
      obtain ⟨q, hq⟩ : ∃ q : Nat, q = (x :: y :: r).length := ⟨_, rfl⟩
      have hq2 : 2 ≤ q := by rw [hq]; simp
      have hq5 : q < 6 := by rw [hq]; exact hlen
      rw [← hq] at kC
      have d1 : ((q : Int) + 1 == 1) = false := by simp; omega
      have d2 : ((q : Int) + 1 == 2) = false := by simp; omega
      have Hk := hide (show chk1 ((x :: y :: r) ++ [(f, t)]) = true by simpa [chk1] using hch)
      have hC2 := hC.set_ 0 (.int .i64 ((q : Int) + 1))
      have hl2 : (((x :: y :: r) ++ [(f, t)]).length : Int) = (q : Int) + 1 := by rw [hq, List.length_append]; rfl
      have HC2 := hide (And.intro hC2 hl2)
      clear hch hq hlen hC hC2 hl2
      gi_wp2
      exact ⟨KeepsOthers.setCell _ _ _, fun _ => Htx.out _ (hN.setCell (p := ⟨w.heap.size + 1 + 1, 0, none⟩) (.inl rfl) _), Hk.out, hN.setCell (p := ⟨w.heap.size + 1 + 1, 0, none⟩) (.inl rfl) _, by
        rw [HC2.out.2]; exact HC2.out.1⟩
  case hdone =>
    intro D1 zs0 W hD1 hS hI hK1
    have hz0 : zs0 = [(0, 3), (4, 5)] := hS.trans wrd5
    subst hz0
    obtain ⟨_, hN, hC⟩ := hI
    have belW := qb.trans (hN.below (by omega) (by omega))
    have r1 := hN.blk q1 (by omega) (by omega)
    have r2 := hN.blk q2 (by omega) (by omega)
    have szW := hN.size
    have kC : W.cell? ⟨w.heap.size + 1 + 1, 0, none⟩ = some (.int .i64 2) := hC.cell 0
    have kT : W.cell? ⟨w.heap.size, 0, none⟩ = some (.slice B0 xs.length cb0) := r1.cell 0
    have hDl1 : D1 < W.heap.size := (Array.getElem?_eq_some_iff.1 hK1).1
    clear Htx hT hN hC q1 q2 q5 qb hS
    go_wp2_with fail
    refine (Hc0.out W (hr0.below belW)).mono ?_
    rintro e w3 ⟨Aa, ca, rfl, howna, hb3⟩
    have bel3 := belW.trans (hb3.mono belW.size)
    have r31 := r1.below hb3 r1.lt
    have r32 := r2.below hb3 r2.lt
    have hK13 := (hb3.block D1 hDl1).trans hK1
    have sz3 := hb3.size
    clear r1 r2 hK1 kC kT hb3
    go_wp2_with fail
    refine (Hc1.out w3 (hr1.below bel3)).mono ?_
    rintro e w4 ⟨Ab, cb, rfl, hownb, hb4⟩
    have bel4 := bel3.trans (hb4.mono bel3.size)
    have r41 := r31.below hb4 r31.lt
    have r42 := r32.below hb4 r32.lt
    have hK14 := (hb4.block D1 (by omega)).trans hK13
    have howna4 := own_below howna hb4
    have sz4 := hb4.size
    have hlowa : ∀ k, (Value.slice Aa (min xs.length 40) ca).ownBlock = some k → k < w3.heap.size := fun k hk => (howna.lt k hk).2
    have hlowb : ∀ k, (Value.slice Ab (min ys.length 40) cb).ownBlock = some k → k < w4.heap.size := fun k hk => (hownb.lt k hk).2
    clear r31 r32 hK13 howna hb4 Hc0 Hc1 hr0 hr1
    rw [tabV_ints] at howna4 hownb
    have hN0 : min xs.length 40 ≤ 40 := by omega
    have hN1 : min ys.length 40 ≤ 40 := by omega
    generalize min xs.length 40 = na at *
    generalize min ys.length 40 = nc at *
    have hlena := tab_length na (chv xs)
    have hlenb := tab_length nc (chv ys)
    generalize tab na (chv xs) = za at *
    generalize tab nc (chv ys) = zb at *
    subst hlena hlenb
    have k4 : w4.cell? ⟨w.heap.size, 0, none⟩ = some (.slice B0 xs.length cb0) := r41.cell 0
    have z4 : w4.frozen? ⟨w.heap.size, 0, none⟩ = false := r41.frozen 0
    go_upto_region 11 with fail
    have s1 : Blk (w4.setCell ⟨w.heap.size, 0, none⟩ (.slice Aa za.length ca)) w.heap.size 22 #[.slice Aa za.length ca] := r41.set_ 0 (.slice Aa za.length ca)
    have s2 := r42.far (p := ⟨w.heap.size, 0, none⟩) (by simp) (.slice Aa za.length ca)
    have sb := bel4.setCell (p := ⟨w.heap.size, 0, none⟩) (Nat.le_refl _) (.slice Aa za.length ca)
    have soa := own_setCell_low howna4 (a := ⟨w.heap.size, 0, none⟩) (by show w.heap.size < W.heap.size; omega) (.slice Aa za.length ca)
    have sob := own_setCell_low hownb (a := ⟨w.heap.size, 0, none⟩) (by show w.heap.size < w3.heap.size; omega) (.slice Aa za.length ca)
    have sK : (w4.setCell ⟨w.heap.size, 0, none⟩ (.slice Aa za.length ca)).heap[D1]? = some (.deferred (some [])) := (Below.heap_setCell w4 ⟨w.heap.size, 0, none⟩ _ D1 (by show D1 ≠ w.heap.size; omega)).trans hK14
    have ssz : (w4.setCell ⟨w.heap.size, 0, none⟩ (.slice Aa za.length ca)).heap.size = w4.heap.size := by simp [World.setCell]
    clear r41 r42 bel4 howna4 hownb hK14 k4 z4
    generalize w4.setCell ⟨w.heap.size, 0, none⟩ (.slice Aa za.length ca) = w5 at *
    have k5 : w5.cell? ⟨w.heap.size, 0, none⟩ = some (.slice Aa za.length ca) := s1.cell 0
    have Hss := hide ssz
    clear ssz
    go_wp2_with fail
    have ssz := Hss.out
    have t1 := (s1.alloc (.cells #[.int .i64 32] 3)).alloc (.cells #[.slice Aa za.length ca, .slice (some ⟨w5.heap.size, 0, none⟩) 1 1, .slice Ab zb.length cb] 22)
    have t2 := (s2.alloc (.cells #[.int .i64 32] 3)).alloc (.cells #[.slice Aa za.length ca, .slice (some ⟨w5.heap.size, 0, none⟩) 1 1, .slice Ab zb.length cb] 22)
    have tb := (sb.alloc sb.size (.cells #[.int .i64 32] 3)).alloc (by have := sb.size; simp; omega) (.cells #[.slice Aa za.length ca, .slice (some ⟨w5.heap.size, 0, none⟩) 1 1, .slice Ab zb.length cb] 22)
    have toa := (soa.alloc (.cells #[.int .i64 32] 3)).alloc (.cells #[.slice Aa za.length ca, .slice (some ⟨w5.heap.size, 0, none⟩) 1 1, .slice Ab zb.length cb] 22)
    have tob := (sob.alloc (.cells #[.int .i64 32] 3)).alloc (.cells #[.slice Aa za.length ca, .slice (some ⟨w5.heap.size, 0, none⟩) 1 1, .slice Ab zb.length cb] 22)
    have tl : RdI ((w5.alloc (.cells #[.int .i64 32] 3)).alloc (.cells #[.slice Aa za.length ca, .slice (some ⟨w5.heap.size, 0, none⟩) 1 1, .slice Ab zb.length cb] 22)) (some ⟨w5.heap.size, 0, none⟩) [32] := (rdI_lit w5 3 w5.heap.size [32] rfl (by decide)).alloc _
    have tK : ((w5.alloc (.cells #[.int .i64 32] 3)).alloc (.cells #[.slice Aa za.length ca, .slice (some ⟨w5.heap.size, 0, none⟩) 1 1, .slice Ab zb.length cb] 22)).heap[D1]? = some (.deferred (some [])) :=
      (Below.heap_alloc _ _ D1 (by simp; omega)).trans ((Below.heap_alloc _ _ D1 (by omega)).trans sK)
    have t3 : Blk ((w5.alloc (.cells #[.int .i64 32] 3)).alloc (.cells #[.slice Aa za.length ca, .slice (some ⟨w5.heap.size, 0, none⟩) 1 1, .slice Ab zb.length cb] 22)) (w5.heap.size + 1) 22 #[.slice Aa za.length ca, .slice (some ⟨w5.heap.size, 0, none⟩) 1 1, .slice Ab zb.length cb] := by
      have := Blk.new (w5.alloc (.cells #[.int .i64 32] 3)) 22 #[.slice Aa za.length ca, .slice (some ⟨w5.heap.size, 0, none⟩) 1 1, .slice Ab zb.length cb]
      rwa [World.size_alloc] at this
    have tsz : ((w5.alloc (.cells #[.int .i64 32] 3)).alloc (.cells #[.slice Aa za.length ca, .slice (some ⟨w5.heap.size, 0, none⟩) 1 1, .slice Ab zb.length cb] 22)).heap.size = w5.heap.size + 2 := by simp
    clear s1 s2 sb soa sob sK k5
    generalize (w5.alloc (.cells #[.int .i64 32] 3)).alloc (.cells #[.slice Aa za.length ca, .slice (some ⟨w5.heap.size, 0, none⟩) 1 1, .slice Ab zb.length cb] 22) = w6 at *
    obtain ⟨zf, hzf⟩ : ∃ zf : Nat → List Int, zf = fun i => if i = 0 then za else if i = 1 then [32] else zb := ⟨_, rfl⟩
    have hcat : cat zf 3 = za ++ [32] ++ zb := by rw [hzf]; simp [cat]
    have hclen : (cat zf 3).length = za.length + 1 + zb.length := by rw [hcat]; simp; omega
    have hcc := concat_ok (w5.heap.size + 1) 3 3 (fun i => if i = 0 then Aa else if i = 1 then some ⟨w5.heap.size, 0, none⟩ else Ab) (fun i => if i = 0 then ca else if i = 1 then 1 else cb) zf w6 (by omega)
      (fun i hi => by
        rw [t3.cell, hzf]
        match i, hi with
        | 0, _ => rfl
        | 1, _ => rfl
        | 2, _ => rfl) (fun i hi => by
        rw [hzf]
        match i, hi with
        | 0, _ => exact RdI.of_own toa
        | 1, _ => exact tl
        | 2, _ => exact RdI.of_own tob) (by omega) (by omega)
    unfold CatPost at hcc
    rw [hcat] at hcc
    have hzt : (za ++ [32] ++ zb).length = za.length + 1 + zb.length := by simp; omega
    have hjoin : wrd (ix (za ++ [32] ++ zb)) (za.length + 1 + zb.length) = wrd (ix za) za.length ++ shf (za.length + 1) (wrd (ix zb) zb.length) := by
      refine words_join (fun i hi => ?_) ?_ (fun i hi => ?_)
      · rw [List.append_assoc, ix_append_left hi]
      · rw [List.append_assoc, ix_append_right (Nat.le_refl _), Nat.sub_self]
        first | done | rfl
      · rw [ix_append_right (by simp)]
        have hl3 : (za ++ [(32 : Int)]).length = za.length + 1 := by simp
        rw [hl3, show za.length + 1 + i - (za.length + 1) = i by omega]
    generalize za ++ [32] ++ zb = zt at *
    have Hjoin := hide hjoin
    have Hzt := hide hzt
    clear hzt
    clear hjoin hcat hclen hzf t3 tl
    have Hcc := hide hcc
    clear hcc
    refine Hcc.out.mono ?_
    rintro e w7 ⟨At, ct, rfl, hownt, hb7⟩
    clear Hcc
    have u1 := t1.below hb7 t1.lt
    have u2 := t2.below hb7 t2.lt
    have ub := tb.trans (hb7.mono tb.size)
    have uoa := own_below toa hb7
    have uob := own_below tob hb7
    have uK := (hb7.block D1 (by omega)).trans tK
    have usz := hb7.size
    have hlowt : ∀ k, (Value.slice At zt.length ct).ownBlock = some k → k < w7.heap.size := fun k hk => (hownt.lt k hk).2
    clear t1 t2 tb toa tob tK hb7
    have Hla := hide hlowa
    have Hlb := hide hlowb
    have Hlt := hide hlowt
    clear hlowa hlowb hlowt
    go_upto_region 13 with fail
    obtain ⟨b8, hb8⟩ : ∃ b, b = w7.heap.size := ⟨_, rfl⟩
    have v1 := ((u1.alloc (.cells #[.slice At zt.length ct] 22)).alloc (.cells #[.slice none 0 0] 28)).alloc (.cells #[.slice none 0 0] 28)
    have v2 := ((u2.alloc (.cells #[.slice At zt.length ct] 22)).alloc (.cells #[.slice none 0 0] 28)).alloc (.cells #[.slice none 0 0] 28)
    have v8 := ((Blk.new w7 22 #[.slice At zt.length ct]).alloc (.cells #[.slice none 0 0] 28)).alloc (.cells #[.slice none 0 0] 28)
    have v9 := (Blk.new (w7.alloc (.cells #[.slice At zt.length ct] 22)) 28 #[.slice none 0 0]).alloc (.cells #[.slice none 0 0] 28)
    have v10 := Blk.new ((w7.alloc (.cells #[.slice At zt.length ct] 22)).alloc (.cells #[.slice none 0 0] 28)) 28 #[.slice none 0 0]
    rw [World.size_alloc] at v9 v10
    rw [World.size_alloc] at v10
    have vb := ((ub.alloc ub.size (.cells #[.slice At zt.length ct] 22)).alloc (by have := ub.size; simp; omega) (.cells #[.slice none 0 0] 28)).alloc (by have := ub.size; simp; omega) (.cells #[.slice none 0 0] 28)
    have vra := (((RdI.of_own uoa).alloc (.cells #[.slice At zt.length ct] 22)).alloc (.cells #[.slice none 0 0] 28)).alloc (.cells #[.slice none 0 0] 28)
    have vrb := (((RdI.of_own uob).alloc (.cells #[.slice At zt.length ct] 22)).alloc (.cells #[.slice none 0 0] 28)).alloc (.cells #[.slice none 0 0] 28)
    have vrt := (((RdI.of_own hownt).alloc (.cells #[.slice At zt.length ct] 22)).alloc (.cells #[.slice none 0 0] 28)).alloc (.cells #[.slice none 0 0] 28)
    have vK : (((w7.alloc (.cells #[.slice At zt.length ct] 22)).alloc (.cells #[.slice none 0 0] 28)).alloc (.cells #[.slice none 0 0] 28)).heap[D1]? = some (.deferred (some [])) :=
      (Below.heap_alloc _ _ D1 (by simp; omega)).trans ((Below.heap_alloc _ _ D1 (by simp; omega)).trans ((Below.heap_alloc _ _ D1 (by omega)).trans uK))
    have vsz : (((w7.alloc (.cells #[.slice At zt.length ct] 22)).alloc (.cells #[.slice none 0 0] 28)).alloc (.cells #[.slice none 0 0] 28)).heap.size = w7.heap.size + 3 := by simp
    clear u1 u2 ub uoa uob uK hownt
    generalize ((w7.alloc (.cells #[.slice At zt.length ct] 22)).alloc (.cells #[.slice none 0 0] 28)).alloc (.cells #[.slice none 0 0] 28) = w8 at *
    have hla := ownBlock_ad (k := b8) (fun j hj => by have := Hla.out j hj; omega)
    have hlb := ownBlock_ad (k := b8) (fun j hj => by have := Hlb.out j hj; omega)
    have hlt := ownBlock_ad (k := b8) (fun j hj => by have := Hlt.out j hj; omega)
    have hDb : D1 < b8 := by omega
    have hDw : w.heap.size ≤ D1 := by omega
    have hwb : w.heap.size + 5 ≤ b8 := by omega
    rw [← hb8] at v8 v9 v10 vsz
    try rw [← hb8]
    clear Hla Hlb Hlt hb8 usz sz4 sz3 szW tsz ssz Hss hDl1 hD1
    have k8 : w8.cell? ⟨w.heap.size, 0, none⟩ = some (.slice Aa za.length ca) := v1.cell 0
    have Hvsz := hide vsz
    clear vsz
    go_wp2_with fail
    refine (words_ok Aa za.length ca w8).mono ?_
    rintro e w9 ⟨rfl, rfl⟩
    have vsz := Hvsz.out
    clear k8
    have x1 := v1.alloc (.cells #[.slice Aa za.length ca] 22)
    have x2 := v2.alloc (.cells #[.slice Aa za.length ca] 22)
    have x8 := v8.alloc (.cells #[.slice Aa za.length ca] 22)
    have x9 := v9.alloc (.cells #[.slice Aa za.length ca] 22)
    have x10 := v10.alloc (.cells #[.slice Aa za.length ca] 22)
    have xX := Blk.new w8 22 #[.slice Aa za.length ca]
    have xb := vb.alloc vb.size (.cells #[.slice Aa za.length ca] 22)
    have xra := vra.alloc (.cells #[.slice Aa za.length ca] 22)
    have xrb := vrb.alloc (.cells #[.slice Aa za.length ca] 22)
    have xrt := vrt.alloc (.cells #[.slice Aa za.length ca] 22)
    have xK : (w8.alloc (.cells #[.slice Aa za.length ca] 22)).heap[D1]? = some (.deferred (some [])) := (Below.heap_alloc _ _ D1 (by omega)).trans vK
    have xsz : (w8.alloc (.cells #[.slice Aa za.length ca] 22)).heap.size = b8 + 4 := by simp [vsz]
    rw [vsz] at xX
    try rw [vsz]
    clear v1 v2 v8 v9 v10 vb vra vrb vrt vK
    generalize w8.alloc (.cells #[.slice Aa za.length ca] 22) = w9 at *
    have Hta : Hid (∀ W, Near (b8 + 1) (b8 + 3) w9 W → TabM W ∧ RdI W Aa za ∧ RdI W Ab zb ∧ RdI W At zt ∧ Below w.heap.size w W) := fun W hN =>
      have hb := xb.trans (hN.below (by omega) (by omega))
      ⟨Ht.out.below hb, rdI_near xra hN (fun ad h => by have := hla ad h; omega), rdI_near xrb hN (fun ad h => by have := hlb ad h; omega), rdI_near xrt hN (fun ad h => by have := hlt ad h; omega), hb⟩
    obtain ⟨isp, hi, hz0, hz1, hz2⟩ := info_parts span_info
    have hNr := Near.refl (b8 + 1) (b8 + 3) w9
    go_wp2_with fail
    refine (wpIn_wide (n := 6)).1 ?_
    apply wpIn_rangeFunc_ownF (n := 6) rfl (by decide) (gf := 25) (lb := #[.pointer (some ⟨b8 + 3, 0, none⟩)]) rfl trivial (Go.Proofs.enters_of Tryd.func25 (by kernel_rfl) rfl) (words_stops _ (b8 + 3) Aa za ca (by omega) w9 ⟨xX.cell 0, (Hta.out w9 hNr).2.1, (Hta.out w9 hNr).1⟩)
      (fun h k => kpT_t h k) (fun W l o o' _ h ho _ => kpT_b W l o o' h ho) (Below.refl _ _) (fun _ => rfl) (I2 (b8 + 1) (b8 + 3) (b8 + 3) #[.slice Aa za.length ca] w9 0 [] spl) (fun _ _ _ => False)
    case hI => exact i2_own (by omega) (by omega)
    case hIx => exact fun c pre W W' row hs _ _ => hs
    case h0 => exact ⟨_, x9, World.ownsRow_nil _ _ _ _, hNr, xX⟩
    case hassign =>
      intro l x W K hK
      gi_wp2
      exact hK
    case hbody =>
      rintro l pre ⟨f, t⟩ W ⟨v, hG, hrow, hN, hX⟩ hlen
      simp only [Nat.zero_add, List.nil_append] at hrow
      have kG : W.cell? ⟨b8 + 1, 0, none⟩ = some v := hG.cell 0
      have hsz := hN.size
      gi_wp2_with (gi_at_builtin; refine wpListIn_append_own _ rfl _ _ 28 rfl (b8 + 3) 30 isp _ 2 16 Tryd.underlying28 hi hz0 hz1 hz2 rfl (by decide) _ _ _ rfl (hrow.alloc _) ⟨W.heap.size, 0, none⟩ 1 1 [.int .i64 (f : Int), .int .i64 (t : Int)] rfl rfl (news_at _ _ _ _ rfl) (by simp [Value.oneCell']) (by unfold maxLen; omega) (by omega) (by simp; omega) ?_; intro v' w' hown' hgrow _; obtain ⟨Av, cv, rfl⟩ := own_form hown'; have hG' := (hG.alloc (.cells #[.int .i64 (f : Int), .int .i64 (t : Int)] 30)).app (hrow.alloc (.cells #[.int .i64 (f : Int), .int .i64 (t : Int)] 30)) (by omega) hgrow; have hc1 := hG'.cell 0; have hf1 := hG'.frozen 0)
      have hX' := (hX.alloc (.cells #[.int .i64 (f : Int), .int .i64 (t : Int)] 30)).grown hgrow (fun hh => blk_row_ne (hX.alloc (.cells #[.int .i64 (f : Int), .int .i64 (t : Int)] 30)) (hrow.alloc (.cells #[.int .i64 (f : Int), .int .i64 (t : Int)] 30)) (by decide) hh)
      have hN' := ((hN.alloc (by omega) (.cells #[.int .i64 (f : Int), .int .i64 (t : Int)] 30)).grown hgrow (by simp; omega) (fun k hk => ((hrow.alloc (.cells #[.int .i64 (f : Int), .int .i64 (t : Int)] 30)).lt k hk).1)).setCell (p := ⟨b8 + 1, 0, none⟩) (.inl rfl) (.slice Av (pre.length + 1) cv)
      have hX2 := hX'.far (p := ⟨b8 + 1, 0, none⟩) (by show b8 + 3 ≠ b8 + 1; omega) (.slice Av (pre.length + 1) cv)
      have hr2 := ownsRow_setCell_other hown' (a := ⟨b8 + 1, 0, none⟩) (fun hh => by have := (hown'.lt (b8 + 1) (by simpa using hh)).1; omega) (.slice Av (pre.length + 1) cv)
      refine ⟨((KeepsOthers.alloc W _).trans (KeepsOthers.of_grownBy hgrow (fun j o hj ho => row_cells (hrow.alloc (.cells #[.int .i64 (f : Int), .int .i64 (t : Int)] 30)) hj ho))).trans (KeepsOthers.setCell _ _ _), fun _ => ⟨hX2.cell 0, (Hta.out _ hN').2.1, (Hta.out _ hN').1⟩, _, hG'.set_ 0 _, ?_, hN', hX2⟩
      rw [spl_snoc, List.length_append, List.length_singleton, Nat.zero_add, List.nil_append]
      exact hr2
    case hdone =>
      intro D2 zs2 W hD2 hS hI hK2
      have hz2' : zs2 = wrd (ix za) za.length := hS
      subst hz2'
      obtain ⟨v, hG, hrow, hN, hX⟩ := hI
      simp only [Nat.zero_add, List.nil_append] at hrow
      have hwl := wrd_len (ix za) za.length
      have hszW := hN.size
      have hDl2 : D2 < W.heap.size := (Array.getElem?_eq_some_iff.1 hK2).1
      clear hS hX
      generalize hwa : wrd (ix za) za.length = wa at *
      go_wp2_with fail
      refine (words_ok Ab zb.length cb W).mono ?_
      rintro e w10 ⟨rfl, rfl⟩
      have yG := hG.alloc (.cells #[.slice Ab zb.length cb] 22)
      have yrow := hrow.alloc (.cells #[.slice Ab zb.length cb] 22)
      have yN := hN.alloc (by omega) (.cells #[.slice Ab zb.length cb] 22)
      have yX := Blk.new W 22 #[.slice Ab zb.length cb]
      have yK := (Below.heap_alloc W (.cells #[.slice Ab zb.length cb] 22) D2 hDl2).trans hK2
      have ysz : (W.alloc (.cells #[.slice Ab zb.length cb] 22)).heap.size = W.heap.size + 1 := by simp
      obtain ⟨b3, hb3⟩ : ∃ b, b = W.heap.size := ⟨_, rfl⟩
      rw [← hb3] at yX ysz
      try rw [← hb3]
      rw [← hb3] at hszW hDl2
      clear hG hrow hN hK2 hb3
      generalize W.alloc (.cells #[.slice Ab zb.length cb] 22) = w10 at *
      go_wp2_with fail
      refine (wpIn_wide (n := 6)).1 ?_
      apply wpIn_rangeFunc_ownF (n := 6) rfl (by decide) (gf := 25) (lb := #[.pointer (some ⟨b3, 0, none⟩)]) rfl trivial (Go.Proofs.enters_of Tryd.func25 (by kernel_rfl) rfl) (words_stops _ b3 Ab zb cb (by omega) w10 ⟨yX.cell 0, (Hta.out w10 yN).2.2.1, (Hta.out w10 yN).1⟩)
        (fun h k => kpT_t h k) (fun W l o o' _ h ho _ => kpT_b W l o o' h ho) (Below.refl _ _) (fun _ => rfl) (fun pre W => I2 (b8 + 1) (b8 + 3) b3 #[.slice Ab zb.length cb] w9 wa.length (spl wa) (spw za.length) pre W ∧ W.heap[D2]? = some (.deferred (some []))) (fun _ _ _ => False)
      case hI => exact OwnFrom.and (i2_own (by omega) (by omega)) (fun _ X Y row hs hg hr => (hg.block D2 (Array.getElem?_eq_some_iff.1 hs).1 (fun e => by have := (hr D2 e.symm).1; omega)).trans hs)
      case hIx => exact fun c pre W W' row hs _ _ => hs
      case h0 => exact ⟨⟨v, yG, by simpa [spw] using yrow, yN, yX⟩, yK⟩
      case hassign =>
        intro l x W K hK
        gi_wp2
        exact hK
      case hbody =>
        rintro l pre ⟨f, t⟩ W ⟨⟨v, hG, hrow, hN, hX⟩, hK2⟩ hlen
        have kG : W.cell? ⟨b8 + 1, 0, none⟩ = some v := hG.cell 0
        have hT1 := hN.blk x1 (by omega) (by omega)
        have kT : W.cell? ⟨w.heap.size, 0, none⟩ = some (.slice Aa za.length ca) := hT1.cell 0
        have hsz := hN.size
        clear hT1
        gi_wp2_with (gi_at_builtin; refine wpListIn_append_own _ rfl _ _ 28 rfl (b8 + 3) 30 isp _ 2 16 Tryd.underlying28 hi hz0 hz1 hz2 rfl (by decide) _ _ _ rfl (hrow.alloc _) ⟨W.heap.size, 0, none⟩ 1 1 [.int .i64 (wrap64 ((za.length : Int) + 1 + (f : Int))), .int .i64 (wrap64 ((za.length : Int) + 1 + (t : Int)))] rfl rfl (news_at _ _ _ _ rfl) (by simp [Value.oneCell']) (by unfold maxLen; omega) (by omega) (by simp; omega) ?_; intro v' w' hown' hgrow _; obtain ⟨Av, cv, rfl⟩ := own_form hown'; have hG' := (hG.alloc (.cells #[.int .i64 (wrap64 ((za.length : Int) + 1 + (f : Int))), .int .i64 (wrap64 ((za.length : Int) + 1 + (t : Int)))] 30)).app (hrow.alloc (.cells #[.int .i64 (wrap64 ((za.length : Int) + 1 + (f : Int))), .int .i64 (wrap64 ((za.length : Int) + 1 + (t : Int)))] 30)) (by omega) hgrow; have hc1 := hG'.cell 0; have hf1 := hG'.frozen 0)
        have hX' := (hX.alloc (.cells #[.int .i64 (wrap64 ((za.length : Int) + 1 + (f : Int))), .int .i64 (wrap64 ((za.length : Int) + 1 + (t : Int)))] 30)).grown hgrow (fun hh => blk_row_ne (hX.alloc (.cells #[.int .i64 (wrap64 ((za.length : Int) + 1 + (f : Int))), .int .i64 (wrap64 ((za.length : Int) + 1 + (t : Int)))] 30)) (hrow.alloc (.cells #[.int .i64 (wrap64 ((za.length : Int) + 1 + (f : Int))), .int .i64 (wrap64 ((za.length : Int) + 1 + (t : Int)))] 30)) (by decide) hh)
        have hN' := ((hN.alloc (by omega) (.cells #[.int .i64 (wrap64 ((za.length : Int) + 1 + (f : Int))), .int .i64 (wrap64 ((za.length : Int) + 1 + (t : Int)))] 30)).grown hgrow (by simp; omega) (fun k hk => ((hrow.alloc (.cells #[.int .i64 (wrap64 ((za.length : Int) + 1 + (f : Int))), .int .i64 (wrap64 ((za.length : Int) + 1 + (t : Int)))] 30)).lt k hk).1)).setCell (p := ⟨b8 + 1, 0, none⟩) (.inl rfl) (.slice Av (wa.length + pre.length + 1) cv)
        have hX2 := hX'.far (p := ⟨b8 + 1, 0, none⟩) (by show b3 ≠ b8 + 1; omega) (.slice Av (wa.length + pre.length + 1) cv)
        have hr2 := ownsRow_setCell_other hown' (a := ⟨b8 + 1, 0, none⟩) (fun hh => by have := (hown'.lt (b8 + 1) (by simpa using hh)).1; omega) (.slice Av (wa.length + pre.length + 1) cv)
        have hKO := ((KeepsOthers.alloc W (.cells #[.int .i64 (wrap64 ((za.length : Int) + 1 + (f : Int))), .int .i64 (wrap64 ((za.length : Int) + 1 + (t : Int)))] 30)).trans (KeepsOthers.of_grownBy hgrow (fun j o hj ho => row_cells (hrow.alloc (.cells #[.int .i64 (wrap64 ((za.length : Int) + 1 + (f : Int))), .int .i64 (wrap64 ((za.length : Int) + 1 + (t : Int)))] 30)) hj ho))).trans (KeepsOthers.setCell _ ⟨b8 + 1, 0, none⟩ (.slice Av (wa.length + pre.length + 1) cv))
        refine ⟨hKO, fun _ => ⟨hX2.cell 0, (Hta.out _ hN').2.2.1, (Hta.out _ hN').1⟩, ⟨_, hG'.set_ 0 _, ?_, hN', hX2⟩, hKO.same D2 _ hK2 rfl⟩
        rw [spw_snoc, List.length_append, List.length_singleton, ← Nat.add_assoc, ← List.append_assoc]
        exact hr2
      case hdone =>
        intro D3 zs3 W hD3 hS hI hK3
        have hz3 : zs3 = wrd (ix zb) zb.length := hS
        subst hz3
        obtain ⟨⟨v, hG, hrow, hN, hX⟩, hK2⟩ := hI
        obtain ⟨LL, hLL⟩ : ∃ LL, LL = wrd (ix zt) zt.length := ⟨_, rfl⟩
        have hcut : LL = wa ++ shf (za.length + 1) (wrd (ix zb) zb.length) := by rw [hLL, Hzt.out]; exact Hjoin.out
        have hrow2 : W.ownsRow (b8 + 3) 30 2 v LL.length (spl LL) := by
          rw [hcut, List.length_append]
          have e1 : (shf (za.length + 1) (wrd (ix zb) zb.length)).length = (wrd (ix zb) zb.length).length := by simp [shf]
          have e2 : spl (wa ++ shf (za.length + 1) (wrd (ix zb) zb.length)) = spl wa ++ spw za.length (wrd (ix zb) zb.length) := by
            rw [spw_shf za.length (by omega) _ (fun x hx => by have := wrd_bd _ _ x hx; omega)]
            simp [spl]
          rw [e1, e2]
          exact hrow
        have hzt3 : zt.length ≤ 81 := by rw [Hzt.out]; omega
        have hszW2 := hN.size
        have hxs := hN.blk x10 (by omega) (by omega)
        have hx1 := hN.blk x1 (by omega) (by omega)
        have hx2 := hN.blk x2 (by omega) (by omega)
        have hx8 := hN.blk x8 (by omega) (by omega)
        have hall := Hta.out W hN
        have hK1 := (hN.block D1 (by omega) (by omega)).trans xK
        have nD : ∀ D : Nat, W.heap[D]? = some (.deferred (some [])) → D < W.heap.size ∧ D ≠ b8 + 2 := fun D h => ⟨(Array.getElem?_eq_some_iff.1 h).1, fun e => by
          subst e
          unfold Blk at hxs
          rw [hxs] at h
          cases h⟩
        have nD1 := nD D1 hK1
        have nD2 := nD D2 hK2
        have nD3 := nD D3 hK3
        clear hrow hX hN hwl hwa hS nD Hjoin Hzt hcut Hta
        have k8 : W.cell? ⟨b8, 0, none⟩ = some (.slice At zt.length ct) := hx8.cell 0
        go_upto_region 22 with fail
        obtain ⟨b4, hb4⟩ : ∃ b, b = W.heap.size := ⟨_, rfl⟩
        have y1 := hx1.alloc (.cells #[.int .i64 (-1)] 3)
        have y2 := hx2.alloc (.cells #[.int .i64 (-1)] 3)
        have y8 := hx8.alloc (.cells #[.int .i64 (-1)] 3)
        have yW := hG.alloc (.cells #[.int .i64 (-1)] 3)
        have yS := hxs.alloc (.cells #[.int .i64 (-1)] 3)
        have yL := Blk.new W 3 #[.int .i64 (-1)]
        have yR := hrow2.alloc (.cells #[.int .i64 (-1)] 3)
        have yb := hall.2.2.2.2.alloc hall.2.2.2.2.size (.cells #[.int .i64 (-1)] 3)
        have yt := hall.2.2.2.1.alloc (.cells #[.int .i64 (-1)] 3)
        have yK1 := (Below.heap_alloc W (.cells #[.int .i64 (-1)] 3) D1 nD1.1).trans hK1
        have yK2 := (Below.heap_alloc W (.cells #[.int .i64 (-1)] 3) D2 nD2.1).trans hK2
        have yK3 := (Below.heap_alloc W (.cells #[.int .i64 (-1)] 3) D3 nD3.1).trans hK3
        have ysz : (W.alloc (.cells #[.int .i64 (-1)] 3)).heap.size = W.heap.size + 1 := by simp
        have hrl := hrow2.lt
        rw [← hb4] at yL ysz nD1 nD2 nD3 hszW2 hrl
        try rw [← hb4]
        clear hb4 hG hx1 hx2 hx8 hxs hrow2 hall hK1 hK2 hK3 k8
        clear x1 x2 x8 x9 x10 xX xb xra xrb xrt xK
        generalize W.alloc (.cells #[.int .i64 (-1)] 3) = w11 at *
        have k8 : w11.cell? ⟨b8, 0, none⟩ = some (.slice At zt.length ct) := y8.cell 0
        have Hysz := hide ysz
        clear ysz
        go_wp2_with fail
        refine (words_ok At zt.length ct w11).mono ?_
        rintro e w12 ⟨rfl, rfl⟩
        have ysz := Hysz.out
        clear k8
        have z1 := y1.alloc (.cells #[.slice At zt.length ct] 22)
        have z2 := y2.alloc (.cells #[.slice At zt.length ct] 22)
        have z8 := y8.alloc (.cells #[.slice At zt.length ct] 22)
        have zW := yW.alloc (.cells #[.slice At zt.length ct] 22)
        have zS := yS.alloc (.cells #[.slice At zt.length ct] 22)
        have zL := yL.alloc (.cells #[.slice At zt.length ct] 22)
        have zR := yR.alloc (.cells #[.slice At zt.length ct] 22)
        have zX := Blk.new w11 22 #[.slice At zt.length ct]
        have zb' := yb.alloc yb.size (.cells #[.slice At zt.length ct] 22)
        have zt' := yt.alloc (.cells #[.slice At zt.length ct] 22)
        have zK1 := (Below.heap_alloc w11 (.cells #[.slice At zt.length ct] 22) D1 (by omega)).trans yK1
        have zK2 := (Below.heap_alloc w11 (.cells #[.slice At zt.length ct] 22) D2 (by omega)).trans yK2
        have zK3 := (Below.heap_alloc w11 (.cells #[.slice At zt.length ct] 22) D3 (by omega)).trans yK3
        have zsz : (w11.alloc (.cells #[.slice At zt.length ct] 22)).heap.size = b4 + 2 := by simp [ysz]
        rw [ysz] at zX
        try rw [ysz]
        clear y1 y2 y8 yW yS yL yR yb yt yK1 yK2 yK3
        generalize w11.alloc (.cells #[.slice At zt.length ct] 22) = w12 at *
        have Htb : Hid (∀ W', Near (b8 + 2) b4 w12 W' → TabM W' ∧ RdI W' At zt ∧ Below w.heap.size w W') := fun W' hN =>
          have hb := zb'.trans (hN.below (by omega) (by omega))
          ⟨Ht.out.below hb, rdI_near zt' hN (fun ad h => by have := hlt ad h; omega), hb⟩
        have hNr4 := Near.refl (b8 + 2) b4 w12
        have Hzsz := hide zsz
        have Hysz2 := hide ysz
        clear zsz ysz hla hlb
        go_wp2_with fail
        refine (wpIn_wide (n := 6)).1 ?_
        apply wpIn_rangeFunc_ownF (n := 6) rfl (by decide) (gf := 25) (lb := #[.pointer (some ⟨b4 + 1, 0, none⟩)]) rfl trivial (Go.Proofs.enters_of Tryd.func25 (by kernel_rfl) rfl) (words_stops _ (b4 + 1) At zt ct (by omega) w12 ⟨zX.cell 0, (Htb.out w12 hNr4).2.1, (Htb.out w12 hNr4).1⟩)
          (fun h k => kpT_t h k) (fun W l o o' _ h ho _ => kpT_b W l o o' h ho) (Below.refl _ _) (fun _ => rfl) (I4 (b8 + 2) b4 (b4 + 1) zt.length #[.slice At zt.length ct] w12) (fun _ pre _ => chw zt.length pre = none)
        case hI => exact i4_own (by have := Hzsz.out; omega) (by have := Hzsz.out; omega)
        case hIx => exact fun c pre W W' row hs _ _ => hs
        case h0 => exact ⟨_, 0, rfl, zS, World.ownsRow_nil _ _ _ _, hNr4, zL, zX⟩
        case hassign =>
          intro l x W K hK
          gi_wp2
          exact hK
        case hbody =>
          rintro l pre ⟨f, t⟩ W ⟨v, e, hch, hG, hrow, hN, hL, hX⟩ hlen
          have kG : W.cell? ⟨b8 + 2, 0, none⟩ = some v := hG.cell 0
          have kL : W.cell? ⟨b4, 0, none⟩ = some (.int .i64 ((e : Int) - 1)) := hL.cell 0
          have zLf : W.frozen? ⟨b4, 0, none⟩ = false := hL.frozen 0
          have hR := hN.blk z2 (by omega) (by omega)
          have hT := hN.blk z8 (by omega) (by omega)
          have kT : W.cell? ⟨b8, 0, none⟩ = some (.slice At zt.length ct) := hT.cell 0
          have kR : W.cell? ⟨w.heap.size + 1, 0, none⟩ = some (.bool false) := hR.cell 0
          have zRf : W.frozen? ⟨w.heap.size + 1, 0, none⟩ = false := hR.frozen 0
          have hlt5 := hlen
          have hsz := hN.size
          obtain ⟨q, hq⟩ : ∃ q : Int, q = (e : Int) - 1 := ⟨_, rfl⟩
          rw [← hq] at kL hL
          have hsn := chw_snoc zt.length pre (f, t)
          rw [hch] at hsn
          by_cases hA : e ≤ f
          · have d1 : decide ((f : Int) ≤ q) = false := by simp; omega
            by_cases hB : f < t
            · have d2 : decide ((t : Int) ≤ (f : Int)) = false := by simp; omega
              by_cases hC : t ≤ zt.length
              · have d3 : decide ((t : Int) > (zt.length : Int)) = false := by simp; omega
                have hsn2 : chw zt.length (pre ++ [(f, t)]) = some t := by rw [hsn]; simp [hA, hB, hC]
                have Hsn := hide hsn2
                have Hq := hide hq
                clear hsn hsn2 hq hch hT hR kR zRf
                have sT : IntKind.i64.wrap ((t : Int) - 1) = (t : Int) - 1 := IntWalk.i64_in _ (by omega)
                gi_wp2_with (gi_at_builtin; refine wpListIn_append_own _ rfl _ _ 28 rfl b4 30 isp _ 2 16 Tryd.underlying28 hi hz0 hz1 hz2 rfl (by decide) _ _ _ rfl (hrow.alloc _) ⟨W.heap.size, 0, none⟩ 1 1 [.int .i64 (f : Int), .int .i64 (t : Int)] rfl rfl (news_at _ _ _ _ rfl) (by simp [Value.oneCell']) (by unfold maxLen; omega) (by have := Hzsz.out; omega) (by simp; have := Hzsz.out; omega) ?_; intro v' w' hown' hgrow _; obtain ⟨Av, cv, rfl⟩ := own_form hown'; have hG' := (hG.alloc (.cells #[.int .i64 (f : Int), .int .i64 (t : Int)] 30)).app (hrow.alloc (.cells #[.int .i64 (f : Int), .int .i64 (t : Int)] 30)) (by omega) hgrow; have hL' := (hL.alloc (.cells #[.int .i64 (f : Int), .int .i64 (t : Int)] 30)).grown hgrow (fun hh => blk_row_ne (hL.alloc (.cells #[.int .i64 (f : Int), .int .i64 (t : Int)] 30)) (hrow.alloc (.cells #[.int .i64 (f : Int), .int .i64 (t : Int)] 30)) (by decide) hh); have hL2 := hL'.far (p := ⟨b8 + 1 + 1, 0, none⟩) (by show b4 ≠ b8 + 1 + 1; omega) (.slice Av (pre.length + 1) cv); have hc1 := hG'.cell 0; have hf1 := hG'.frozen 0; have hc2 := hL2.cell 0; have hf2 := hL2.frozen 0)
                have hX' := (hX.alloc (.cells #[.int .i64 (f : Int), .int .i64 (t : Int)] 30)).grown hgrow (fun hh => blk_row_ne (hX.alloc (.cells #[.int .i64 (f : Int), .int .i64 (t : Int)] 30)) (hrow.alloc (.cells #[.int .i64 (f : Int), .int .i64 (t : Int)] 30)) (by decide) hh)
                have hX2 := hX'.far (p := ⟨b8 + 1 + 1, 0, none⟩) (by show b4 + 1 ≠ b8 + 1 + 1; omega) (.slice Av (pre.length + 1) cv)
                have hX3 := hX2.far (p := ⟨b4, 0, none⟩) (by show b4 + 1 ≠ b4; omega) (.int .i64 ((t : Int) - 1))
                have hG2 := hG'.set_ 0 (.slice Av (pre.length + 1) cv)
                have hG3 := hG2.far (p := ⟨b4, 0, none⟩) (by show b8 + 1 + 1 ≠ b4; omega) (.int .i64 ((t : Int) - 1))
                have hL3 := hL2.set_ 0 (.int .i64 ((t : Int) - 1))
                have hN' := (((hN.alloc (by have := Hzsz.out; omega) (.cells #[.int .i64 (f : Int), .int .i64 (t : Int)] 30)).grown hgrow (by simp; have := Hzsz.out; omega) (fun k hk => ((hrow.alloc (.cells #[.int .i64 (f : Int), .int .i64 (t : Int)] 30)).lt k hk).1)).setCell (p := ⟨b8 + 1 + 1, 0, none⟩) (.inl rfl) (.slice Av (pre.length + 1) cv)).setCell (p := ⟨b4, 0, none⟩) (.inr (Nat.le_refl _)) (.int .i64 ((t : Int) - 1))
                have hr2 := ownsRow_setCell_other hown' (a := ⟨b8 + 1 + 1, 0, none⟩) (fun hh => by have := (hown'.lt (b8 + 1 + 1) (by simpa using hh)).1; omega) (.slice Av (pre.length + 1) cv)
                have hr3 := ownsRow_setCell_other hr2 (a := ⟨b4, 0, none⟩) (fun hh => blk_row_ne hL' hown' (by decide) (by first | exact hh | exact hh.symm)) (.int .i64 ((t : Int) - 1))
                have hKO := ((((KeepsOthers.alloc W (.cells #[.int .i64 (f : Int), .int .i64 (t : Int)] 30)).trans (KeepsOthers.of_grownBy hgrow (fun j o hj ho => row_cells (hrow.alloc (.cells #[.int .i64 (f : Int), .int .i64 (t : Int)] 30)) hj ho))).trans (KeepsOthers.setCell _ ⟨b8 + 1 + 1, 0, none⟩ (.slice Av (pre.length + 1) cv)))).trans (KeepsOthers.setCell _ ⟨b4, 0, none⟩ (.int .i64 ((t : Int) - 1)))
                refine ⟨hKO, fun _ => ⟨hX3.cell 0, (Htb.out _ hN').2.1, (Htb.out _ hN').1⟩, _, t, Hsn.out, hG3, ?_, hN', hL3, hX3⟩
                rw [spl_snoc, List.length_append, List.length_singleton]
                exact hr3
              · have d3 : decide ((t : Int) > (zt.length : Int)) = true := by simp; omega
                have Hk := hide (show chw zt.length (pre ++ [(f, t)]) = none by rw [hsn]; simp [hC])
                gi_wp2
                exact ⟨KeepsOthers.setCell _ _ _, Hk.out⟩
            · have d2 : decide ((t : Int) ≤ (f : Int)) = true := by simp; omega
              have Hk := hide (show chw zt.length (pre ++ [(f, t)]) = none by rw [hsn]; simp [hB])
              gi_wp2
              exact ⟨KeepsOthers.setCell _ _ _, Hk.out⟩
          · have d1 : decide ((f : Int) ≤ q) = true := by simp; omega
            have Hk := hide (show chw zt.length (pre ++ [(f, t)]) = none by rw [hsn]; simp [hA])
            gi_wp2
            exact ⟨KeepsOthers.setCell _ _ _, Hk.out⟩
        case hdone =>
          intro D4 zs4 W4 hD4 hS4 hI4 hK4
          have hz4 : zs4 = LL := hS4.trans hLL.symm
          subst hz4
          obtain ⟨v4, e4, _, hG4, hrow4, hN4, hL4, hX4⟩ := hI4
          have hW4 := hN4.blk zW (by omega) (by omega)
          have hR4 := hN4.blk z2 (by omega) (by omega)
          obtain ⟨Aw, cw, rfl⟩ := own_form zR
          obtain ⟨A4, c4, rfl⟩ := own_form hrow4
          have kW : W4.cell? ⟨b8 + 1, 0, none⟩ = some (.slice Aw zs4.length cw) := hW4.cell 0
          have kG : W4.cell? ⟨b8 + 2, 0, none⟩ = some (.slice A4 zs4.length c4) := hG4.cell 0
          have rW : RdF W4 Aw zs4.length 2 (spF fun i => zs4.getD i (0, 0)) := by
            rw [spl_rowF] at zR
            refine (RdF.of_own zR).near hN4 (fun ad h => ?_)
            subst h
            have := hrl ad.block (by simp [Value.ownBlock])
            omega
          have rG : RdF W4 A4 zs4.length 2 (spF fun i => zs4.getD i (0, 0)) := by
            rw [spl_rowF] at hrow4
            exact RdF.of_own hrow4
          have hwl4 := wrd_len (ix zt) zt.length
          rw [← hLL] at hwl4
          have K1 := (hN4.block D1 (by omega) (by omega)).trans zK1
          have K2 := (hN4.block D2 (by omega) (by omega)).trans zK2
          have K3 := (hN4.block D3 (by omega) (by omega)).trans zK3
          have hb4 := (Htb.out W4 hN4).2.2
          have o21 : D1 < D2 := by omega
          have o32 : D2 < D3 := by omega
          have o43 : D3 < D4 := by have := Hzsz.out; omega
          have Hk := hide (And.intro hDw (And.intro o21 (And.intro o32 o43)))
          clear hX4 hL4 hrow4 zR hG4 hW4 hN4 o21 o32 o43
          clear hLL hS4
          go_wp2_with fail
          refine (spans_ok Aw A4 zs4.length cw c4 _ W4 rW rG (by omega)).mono ?_
          rintro e w14 ⟨rfl, d, rfl⟩
          have hR5 : Blk (W4.drewN d) (w.heap.size + 1) 4 #[.bool false] := hR4
          have hb5 := below_drewN hb4 d
          have L1 : (W4.drewN d).heap[D1]? = some (.deferred (some [])) := K1
          have L2 : (W4.drewN d).heap[D2]? = some (.deferred (some [])) := K2
          have L3 : (W4.drewN d).heap[D3]? = some (.deferred (some [])) := K3
          have L4 : (W4.drewN d).heap[D4]? = some (.deferred (some [])) := hK4
          clear hR4 hb4 K1 K2 K3 hK4 rW rG kW kG
          generalize W4.drewN d = w14 at *
          have kR : w14.cell? ⟨w.heap.size + 1, 0, none⟩ = some (.bool false) := hR5.cell 0
          have zRf : w14.frozen? ⟨w.heap.size + 1, 0, none⟩ = false := hR5.frozen 0
          have HR2 := hide (hR5.set_ 0 (.bool true))
          have HB2 := hide (hb5.setCell (p := ⟨w.heap.size + 1, 0, none⟩) (by show w.heap.size ≤ w.heap.size + 1; omega) (.bool true))
          have HK1 := hide ((KeepsOthers.setCell w14 ⟨w.heap.size + 1, 0, none⟩ (.bool true)).same D1 _ L1 rfl)
          have HK2 := hide ((KeepsOthers.setCell w14 ⟨w.heap.size + 1, 0, none⟩ (.bool true)).same D2 _ L2 rfl)
          have HK3 := hide ((KeepsOthers.setCell w14 ⟨w.heap.size + 1, 0, none⟩ (.bool true)).same D3 _ L3 rfl)
          have HK4 := hide ((KeepsOthers.setCell w14 ⟨w.heap.size + 1, 0, none⟩ (.bool true)).same D4 _ L4 rfl)
          clear L1 L2 L3 L4 hR5 hb5
          go_wp2_with fail
          obtain ⟨o1, o21, o32, o43⟩ := Hk.out
          have s4 := fin_step (w := w) (HR2.out.cell 0) HB2.out (D := D4) (by omega) HK4.out
          have t3 := s4.2.2 D3 (by omega) HK3.out
          have s3 := fin_step s4.1 s4.2.1 (by omega) t3
          have t2 := s3.2.2 D2 (by omega) (s4.2.2 D2 (by omega) HK2.out)
          have s2 := fin_step s3.1 s3.2.1 (by omega) t2
          have t1 := s2.2.2 D1 (by omega) (s3.2.2 D1 (by omega) (s4.2.2 D1 (by omega) HK1.out))
          have s1 := fin_step s2.1 s2.2.1 (by omega) t1
          refine ⟨by simp, .inl ⟨_, _, rfl, run_takeDeferred HK4.out, ?_⟩⟩
          refine ⟨by simp, .inl ⟨_, _, rfl, run_takeDeferred t3, ?_⟩⟩
          refine ⟨by simp, .inl ⟨_, _, rfl, run_takeDeferred t2, ?_⟩⟩
          refine ⟨by simp, .inl ⟨_, _, rfl, run_takeDeferred t1, ?_⟩⟩
          have kres := s1.1
          have hbz := s1.2.1
          clear s1 s2 s3 s4 t1 t2 t3 HK1 HK2 HK3 HK4 HR2 HB2 kR zRf
          exact ⟨.bool true, by simp [results, Tryd.results3, go_sem, kres], rfl, hbz⟩
        case hstop =>
          intro D cc pre W4 hD hS hI hK
          exfalso
          obtain ⟨tl, htl⟩ := hS
          have h1 := chw_none _ _ hI tl
          obtain ⟨ee, h2⟩ := chw_wrd (ix zt) zt.length
          rw [htl, h2] at h1
          cases h1
      case hstop =>
        intro D cc pre W hD hS hI hK
        exact hI.elim
    case hstop =>
      intro D cc pre W hD hS hI hK
      exact hI.elim
  case hstop =>
    intro D cc pre W hD hS hI hK
    exfalso
    have h1 : pre <+: wrd (ix lit5) 5 := hS
    rw [wrd5] at h1
    have h2 := chk1_pre pre h1
    have h3 : chk1 pre = false := hI
    rw [h2] at h3
    cases h3
theorem walked : WalkedL Tryd.checked.prog 3 Tryd.f3 [("chancery/metric.marks", Rows.laid_chancery_metric_marks)] := by
  intro H enc W args ds ps hval hA hL
  have ht : TabM W := tabM_of ⟨_, _, rfl, rfl⟩ (by kernel_rfl) hL
  rw [Tryd.params3] at hA hval
  obtain ⟨v0, l0, d0, m0, p0, q0, e0, _, h0, k0⟩ := Frm.trodAll_cons hA
  obtain ⟨v1, l1, d1, m1, p1, q1, e1, _, h1, k1⟩ := Frm.trodAll_cons k0
  obtain rfl := Frm.trodAll_nil k1
  obtain rfl : args = #[v0, v1] := by cases args; simp_all
  obtain ⟨A, c, zs, rfl, hr, hl, hwf⟩ := ints_arg Tryd.underlying22 Tryd.underlying3 (by kernel_rfl) (hval 0 _ _ rfl rfl) h0
  obtain ⟨A', c', zs', rfl, hr', hl', hwf'⟩ := ints_arg Tryd.underlying22 Tryd.underlying3 (by kernel_rfl) (hval 1 _ _ rfl rfl) h1
  exact walk A A' c c' zs zs' W ht hr hr' hl hl' hwf hwf'

def laidL : List (String × DataW Unit) := [("chancery/metric.marks", Rows.laid_chancery_metric_marks)]
theorem door_met (os : Os) (args : Array Value) : laidMetH Tryd.prog laidL ((World.doorLaid Tryd.prog 400 os).forCall (fun _ _ => 0) ⟨#[], args, []⟩).memory :=
  laidMetH_of_parts3 (fuel := 8) (laidMet_of_run' 8 (by kernel_rfl) (by kernel_rfl)) (by kernel_rfl) (by kernel_rfl)

set_option maxRecDepth 100000 in
theorem lifted (os : Os) (started : os.Started) (H : Type) (enc : TypeId × Value → H) :
    ReturnsInHanded {} Tryd.checked os 3 .any (fun w args => (Rows.breaksWordsSpec.pre enc Tryd.prog Tryd.f3 [] false w args ∧ laidMetH Tryd.prog laidL w) ∧ sizedMet enc Tryd.prog Tryd.f3 (OpenSpec.ofChange Rows.breaksWordsSpec) false w args) (Rows.breaksWordsSpec.post enc Tryd.prog Tryd.f3 false true false false) :=
  law_lift_laid (C := Tryd.checked) (tb := 4) (laid := laidL) (by kernel_rfl) started (by kernel_rfl) Tryd.func3 rfl
    (fun ds h => match ds, h with | [_, _], _ => rfl) rfl Tryd.underlying4 (by kernel_rfl) (by kernel_rfl)
    (ChangeSpec.witness_shaped (enc := enc) (C := Tryd.checked) (os := os) (X := fun w _ => laidMetH Tryd.prog laidL w) false (World.doorLaid Tryd.prog 400 os) #[.slice none 0 0, .slice none 0 0] 8 rfl (World.shaped_of_RefB (by kernel_rfl) (by kernel_rfl)) (by kernel_rfl) (by kernel_rfl) (by kernel_rfl) (door_met os _))
    walked

theorem said : Rows.BreaksWordsSaid :=
  OpenClaim.holds_of_wide 3 Tryd.f3 rfl rfl rfl rfl rfl rfl rfl ⟨rfl, rfl, rfl, rfl, rfl⟩ rfl rfl rfl rfl rfl (by kernel_rfl) Tryd.func3 (by kernel_rfl)
    (of_decide_eq_true (by kernel_rfl)) (by unfold Func.isWrapper; first | (rw [if_pos (by decide +kernel)]; kernel_rfl) | (rw [if_neg (by decide +kernel)]; exact ⟨rfl, rfl⟩))
    (fun os started H enc _ => lifted os started H enc)

/-- THE STATEMENT: the tied card -/
theorem proved : Rows.BreaksWordsCardSaid :=
  Claim7.holds_tied_plain_at .later [] [.widerDeep] true (true, "615198ff36b7c7e435cabbe38a7256887dfbc5d265756060a0dddb598d2df81c") false
    said (fun _ h => by cases h) (by kernel_rfl) (fun _ h => by cases h) breaksWords_row_tie rfl ⟨rfl, rfl⟩ (by kernel_rfl) rfl
    (fun f fn hf hfn => by
      obtain rfl : f = 3 := Option.some.inj ((show Tryd.prog.funcNamed "chancery/chancerykeep3.BreaksWords" = some 3 by kernel_rfl).symm.trans hf) |>.symm
      obtain rfl : fn = Tryd.f3 := (Option.some.inj (Tryd.func3.symm.trans hfn)).symm
      exact ⟨by kernel_rfl, fun j t ht => by
        have hm : t ∈ Tryd.f3.params.toList := by simpa using Array.mem_of_getElem? ht
        have hall : (Tryd.f3.params.toList.all fun u => !Tryd.prog.wantsStandIn u) = true := by kernel_rfl
        exact (show Tryd.prog.wantsStandIn t = false by simpa using List.all_eq_true.1 hall t hm)⟩)
    (by kernel_rfl)
#print axioms proved
end Go.Proofs.YtdhhkcboejhoaaaDoor.BreaksWordsDone
