/- PROVED HERE: whatever the numbers, chancerykeep3.BidiIsolated returns true, and its arguments read behind the call as before, where the listed tables of package bidi hold what the row lists. No condition beside those of the given row. -/
import Derived.Test.YtdikfldogmbeaaaDoorRows
import Derived.Test.YtdikfldogmbeaaaDoorCards
import Derived.Test.YtdikfldogmbeaaaDoorTie
import Derived.Test.YtdikfldogmbeaaaDoorBdIsoText
import Derived.Test.YtdikfldogmbeaaaDoorBdTabs
import Derived.Test.YtdikfldogmbeaaaDoorEqual
import Derived.Deep.CutBlock
import Derived.SevenTiedAt
namespace Go.Proofs.YtdikfldogmbeaaaDoor.BidiIsolatedDone
open Go.RowKit Go.Frm Go.ChangeShapes Go.WideShapes Go.ChangeAt Bd Wi Scl Cha Cat

theorem filter_tab_succ (F : Nat → Int) (k : Nat) : (tab (k + 1) F).filter pcB = (tab k F).filter pcB ++ if pcB (F k) = true then [F k] else [] := by
  rw [tab_succ, List.filter_append]
  congr 1
  by_cases h : pcB (F k) = true
  · rw [if_pos h]; simp [h]
  · rw [if_neg h]; simp [h]
def PlainPost (w : World) (zs : List Int) (e : Ending) (w' : World) : Prop := ∃ A c, e = .returned (.slice A (plainL zs).length c) ∧ RdI w' A (plainL zs) ∧ Below w.heap.size w w'
set_option maxRecDepth 100000 in
set_option maxHeartbeats 4000000 in
theorem plain_ok (A : Option Addr) (cp : Nat) (zs : List Int) (w : World) (ht : TabC w) (hr : RdI w A zs) (hl : zs.length ≤ 9223372036854775807) (hwf : ∀ j, j < zs.length → (Lit.int .i64 (ix zs j)).wf = true) :
    Calls Tryd.prog 8 #[.slice A zs.length cp] w (PlainPost w zs) := by
  have Hch := hide (chars_ok A cp zs 20 w hr hl (by decide) hwf)
  have Ht := hide ht
  obtain ⟨N, HN⟩ : ∃ N, Hid (N = min zs.length 20) := ⟨_, rfl⟩
  have hN : N ≤ 20 := by rw [HN.out]; omega
  unfold CharsPost at Hch
  rw [← HN.out] at Hch
  have Hpl : Hid (plainL zs = (tab N (chv zs)).filter pcB) := hide (by rw [HN.out]; rfl)
  clear ht hr hl hwf
  go_enter Tryd.func8, Tryd.ntmps8
  go_wp2_with fail
  refine Hch.out.mono ?_
  rintro e9 w1 ⟨A1, c1, rfl, hown, hbl⟩
  have hr1 : RdI w1 A1 (tab N (chv zs)) := RdI.of_own (by rw [← tabV_ints]; exact hown)
  have ht1 := Ht.out.below hbl
  have hs1 := hbl.size
  clear Hch hown
  go_wp2_with fail
  go_loopw [3, 10] (fun v a wr => ∃ k : Nat, k ≤ N ∧ a = .int .i64 k ∧ wr.ownsRow w1.heap.size 3 1 v ((tab k (chv zs)).filter pcB).length (((tab k (chv zs)).filter pcB).map (Value.int .i64)) ∧ Below w1.heap.size w1 wr) (fun _ a _ => N - (intOf a).toNat)
  case atStart => exact ⟨0, Nat.zero_le _, rfl, World.ownsRow_nil _ _ _ _, Below.refl _ _⟩
  case round =>
    obtain ⟨wo, rfl⟩ : ∃ wx : World, wx = wr := ⟨_, rfl⟩
    obtain ⟨k, hk, rfl, hown, hbo⟩ := hrel
    obtain ⟨A3, c3, rfl⟩ := own_form hown
    by_cases hlt : k < N
    · obtain ⟨b, off, rfl, hc⟩ := (hr1.below hbo).at_ (k := k) (by rw [tab_length]; exact hlt)
      rw [tab_ix _ hlt] at hc
      have Hcl := hide (class_ok (chv zs k) wo (ht1.below hbo))
      have Hsu := hide (filter_tab_succ (chv zs) k)
      have hlen : ((tab k (chv zs)).filter pcB).length ≤ k := Nat.le_trans (List.length_filter_le _ _) (by rw [tab_length]; exact Nat.le_refl _)
      have Hpc : Hid (pcB (chv zs k) = (decide (clsOf (chv zs k) < 14) && (clsOf (chv zs k) != 10) && (clsOf (chv zs k) != 9))) := hide rfl
      have hso := hbo.size
      generalize (tab k (chv zs)).filter pcB = ys at *
      generalize chv zs k = x at *
      generalize clsOf x = cx at *
      go_wp2_with fail
      refine Hcl.out.mono ?_
      rintro e9 w2 ⟨rfl, hb2⟩
      have hown2 := own_below hown hb2
      have hbl2 := hbo.trans (hb2.mono hso)
      have hs2 := hbl2.size
      clear Hcl hown hb2 hbo hso
      cases hpb : pcB x with
      | false =>
        have hs : Hid ((tab (k + 1) (chv zs)).filter pcB = ys) := hide (by rw [Hsu.out, hpb]; simp)
        rw [hpb] at Hpc
        go_upto_region 6 with fail
        go_cut [25] (fun v wc => v = .bool false ∧ w2 = wc)
        case first => as_aux_lemma =>
          have hp := Hpc.out
          clear Hpc
          cases h1 : decide (cx < 14) with
          | false =>
            clear hp
            go_wp2_with fail
            go_meet
            exact ⟨rfl, rfl⟩
          | true =>
            rw [h1] at hp
            cases h2 : (cx != 10) with
            | false =>
              clear hp
              go_wp2_with fail
              go_meet
              exact ⟨rfl, rfl⟩
            | true =>
              rw [h2] at hp
              have h3 : (cx != 9) = false := by simpa using hp.symm
              clear hp
              go_wp2_with fail
              go_meet
              exact ⟨rfl, rfl⟩
        case rest =>
          obtain ⟨rfl, rfl⟩ := hcut
          go_wp2_with fail
          go_roundw
          case rel => exact ⟨k + 1, by omega, by go_num, by rw [hs.out]; exact hown2, hbl2⟩
          case measure => simp [intOf]; omega
      | true =>
        have hs : Hid ((tab (k + 1) (chv zs)).filter pcB = ys ++ [x]) := hide (by rw [Hsu.out, hpb]; simp)
        rw [hpb] at Hpc
        have hp := Hpc.out.symm
        simp only [Bool.and_eq_true] at hp
        obtain ⟨⟨h1, h2⟩, h3⟩ := hp
        clear Hpc
        go_wp2_with (at_builtin; refine wpL_append rfl rfl Tryd.underlying22 Bd.int_info rfl (by decide) rfl rfl (hown2.alloc _) (news_at _ _ _ _ (by simp)) rfl (by simp [Value.oneCell']) (by omega) (by omega) (by simp; omega) ?_; intro v7 w7 hown7 hgrow7)
        go_roundw
        case rel => exact ⟨k + 1, by omega, by go_num, by
          rw [hs.out, List.length_append, List.map_append]
          exact hown7, below_app (hbl2.alloc hs2 _) (by simp; omega) (hown2.alloc _) hgrow7⟩
        case measure => simp [intOf]; omega
    · obtain rfl : k = N := by omega
      go_wp2_with fail
      go_ret
      rw [← Hpl.out] at hown ⊢
      exact ⟨A3, c3, rfl, RdI.of_own hown, hbl.trans (hbo.mono hs1)⟩

theorem own_rd {w : World} {b : Nat} {e : TypeId} {A : Option Addr} {c : Nat} {zs : List Int} (h : w.ownsRow b e 1 (.slice A zs.length c) zs.length (zs.map (Value.int .i64))) : RdI w A zs := RdI.of_own h
def partsI (zs : List Int) (i : Nat) : List Int := if i = 0 then [97] else if i = 1 then plainL zs else [97]
theorem cat_in (zs : List Int) : cat (partsI zs) 3 = inL zs := by
  show ([] ++ partsI zs 0 ++ partsI zs 1) ++ partsI zs 2 = inL zs
  unfold partsI inL
  simp
def partsT (A : List Int) (o : Int) (I B : List Int) (i : Nat) : List Int := if i = 0 then A else if i = 1 then [o] else if i = 2 then I else if i = 3 then [8297] else B
theorem cat_tx (A : List Int) (o : Int) (I B : List Int) : cat (partsT A o I B) 5 = isoTx A o I B := by
  show ([] ++ partsT A o I B 0 ++ partsT A o I B 1 ++ partsT A o I B 2 ++ partsT A o I B 3) ++ partsT A o I B 4 = _
  unfold partsT isoTx
  simp
theorem rd_part {w wx : World} {g n s k : Nat} {F : Nat → Int} (h : BI w g n F) (hb : Below w.heap.size w wx) (hk : s + k ≤ n) : RdI wx (some ⟨g, s, none⟩) (tab k fun t => F (s + t)) := by
  refine .inr ⟨g, s, rfl, fun j hj => ?_⟩
  rw [tab_length] at hj
  rw [tab_ix _ hj]
  have h2 : BI wx g n F := h.blk.below hb h.lt
  exact h2.cell (by omega)
theorem rd_pre {w wx : World} {g n k : Nat} {F : Nat → Int} (h : BI w g n F) (hb : Below w.heap.size w wx) (hk : k ≤ n) : RdI wx (some ⟨g, 0, none⟩) (tab k F) := by
  refine .inr ⟨g, 0, rfl, fun j hj => ?_⟩
  rw [tab_length] at hj
  rw [tab_ix _ hj, Nat.zero_add]
  have h2 : BI wx g n F := h.blk.below hb h.lt
  exact h2.cell (by omega)
def ConcPost (w : World) (zs : List Int) (e : Ending) (w' : World) : Prop := ∃ A c, e = .returned (.slice A zs.length c) ∧ RdI w' A zs ∧ Below w.heap.size w w'
theorem concat3 (gL : Nat) (I : Option Addr) (x c : Nat) (zi : List Int) (w : World) (hl : RdI w (some ⟨gL, 0, none⟩) [97]) (hI : RdI w I (plainL zi)) :
    Calls Tryd.prog 11 #[.slice (some ⟨w.heap.size, 0, none⟩) 3 3] (w.alloc (.cells #[.slice (some ⟨gL, 0, none⟩) 1 x, .slice I (plainL zi).length c, .slice (some ⟨gL, 0, none⟩) 1 x] 22)) (ConcPost (w.alloc (.cells #[.slice (some ⟨gL, 0, none⟩) 1 x, .slice I (plainL zi).length c, .slice (some ⟨gL, 0, none⟩) 1 x] 22)) (inL zi)) := by
  have hb := Blk.new w 22 #[.slice (some ⟨gL, 0, none⟩) 1 x, .slice I (plainL zi).length c, .slice (some ⟨gL, 0, none⟩) 1 x]
  have hlen := inL_len zi
  have h := concat_ok w.heap.size 3 3 (fun i => if i = 1 then I else some ⟨gL, 0, none⟩) (fun i => if i = 1 then c else x) (partsI zi) _ (by decide) (fun i hi => by
      match i, hi with
      | 0, _ => exact hb.cell 0
      | 1, _ => exact hb.cell 1
      | 2, _ => exact hb.cell 2) (fun i hi => by
      match i, hi with
      | 0, _ => exact hl.alloc _
      | 1, _ => exact hI.alloc _
      | 2, _ => exact hl.alloc _) (by rw [cat_in]; omega) (by rw [cat_in]; omega)
  refine h.mono ?_
  rintro e w' ⟨A, c9, rfl, hown, hbl⟩
  rw [cat_in] at hown ⊢
  exact ⟨A, c9, rfl, own_rd hown, hbl⟩
theorem concat5 (A I B : Option Addr) (g1 g3 n1 n3 ca ci cb : Nat) (zA zI zB : List Int) (o : Int) (w : World) (hA : RdI w A zA) (h1 : RdI w (some ⟨g1, 0, none⟩) [o]) (hI : RdI w I zI) (h3 : RdI w (some ⟨g3, 0, none⟩) [8297]) (hB : RdI w B zB) (hn : (isoTx zA o zI zB).length ≤ 100000) :
    Calls Tryd.prog 11 #[.slice (some ⟨w.heap.size, 0, none⟩) 5 5] (w.alloc (.cells #[.slice A zA.length ca, .slice (some ⟨g1, 0, none⟩) 1 n1, .slice I zI.length ci, .slice (some ⟨g3, 0, none⟩) 1 n3, .slice B zB.length cb] 22)) (ConcPost (w.alloc (.cells #[.slice A zA.length ca, .slice (some ⟨g1, 0, none⟩) 1 n1, .slice I zI.length ci, .slice (some ⟨g3, 0, none⟩) 1 n3, .slice B zB.length cb] 22)) (isoTx zA o zI zB)) := by
  have hb := Blk.new w 22 #[.slice A zA.length ca, .slice (some ⟨g1, 0, none⟩) 1 n1, .slice I zI.length ci, .slice (some ⟨g3, 0, none⟩) 1 n3, .slice B zB.length cb]
  have h := concat_ok w.heap.size 5 5 (fun i => if i = 0 then A else if i = 1 then some ⟨g1, 0, none⟩ else if i = 2 then I else if i = 3 then some ⟨g3, 0, none⟩ else B) (fun i => if i = 0 then ca else if i = 1 then n1 else if i = 2 then ci else if i = 3 then n3 else cb) (partsT zA o zI zB) _ (by decide) (fun i hi => by
      match i, hi with
      | 0, _ => exact hb.cell 0
      | 1, _ => exact hb.cell 1
      | 2, _ => exact hb.cell 2
      | 3, _ => exact hb.cell 3
      | 4, _ => exact hb.cell 4) (fun i hi => by
      match i, hi with
      | 0, _ => exact hA.alloc _
      | 1, _ => exact h1.alloc _
      | 2, _ => exact hI.alloc _
      | 3, _ => exact h3.alloc _
      | 4, _ => exact hB.alloc _) (by rw [cat_tx, isoTx_len]; omega) (by rw [cat_tx]; omega)
  refine h.mono ?_
  rintro e w' ⟨A, c9, rfl, hown, hbl⟩
  rw [cat_tx] at hown ⊢
  exact ⟨A, c9, rfl, own_rd hown, hbl⟩
set_option maxRecDepth 100000 in
set_option maxHeartbeats 8000000 in
theorem walk (Aa Ab Ai Ao : Option Addr) (ca cb ci co : Nat) (za zb zi zo : List Int) (kind : Int) (w : World) (ht : TabC w) (hB : BrC w) (ha : RdI w Aa za) (hb : RdI w Ab zb) (hi : RdI w Ai zi) (ho : RdI w Ao zo)
    (la : za.length ≤ 9223372036854775807) (lb : zb.length ≤ 9223372036854775807) (li : zi.length ≤ 9223372036854775807) (lo : zo.length ≤ 9223372036854775807)
    (fa : ∀ j, j < za.length → (Lit.int .i64 (ix za j)).wf = true) (fb : ∀ j, j < zb.length → (Lit.int .i64 (ix zb j)).wf = true) (fi : ∀ j, j < zi.length → (Lit.int .i64 (ix zi j)).wf = true) (fo : ∀ j, j < zo.length → (Lit.int .i64 (ix zo j)).wf = true) (fk : (Lit.int .i64 kind).wf = true) :
    Calls Tryd.prog 3 #[.slice Aa za.length ca, .slice Ab zb.length cb, .slice Ai zi.length ci, .slice Ao zo.length co, .int .i64 kind] w fun e w' => e = .returned (.bool true) ∧ Below w.heap.size w w' := by
  have Ht := hide ht
  have HB := hide hB
  have Ha := hide (fun wx (h : Below w.heap.size w wx) => plain_ok Aa ca za wx (ht.below h) (ha.below h) la fa)
  have Hb := hide (fun wx (h : Below w.heap.size w wx) => plain_ok Ab cb zb wx (ht.below h) (hb.below h) lb fb)
  have Hi := hide (fun wx (h : Below w.heap.size w wx) => plain_ok Ai ci zi wx (ht.below h) (hi.below h) li fi)
  have Ho := hide (fun wx (h : Below w.heap.size w wx) => plain_ok Ao co zo wx (ht.below h) (ho.below h) lo fo)
  have Hk := hide (fun wx => within_any kind 0 1 wx fk (by decide) (by decide) (by decide))
  have hk01 := wi_bd kind (show (0 : Int) ≤ 1 by decide)
  have hw1 : Below w.heap.size w (w.alloc (.cells #[.int .i64 97, .int .i64 8295, .int .i64 1488, .int .i64 8297, .int .i64 98] 3)) := (Below.refl _ _).alloc (Nat.le_refl _) _
  have Hl1 := hide (levels_ok (some ⟨w.heap.size, 0, none⟩) 5 [97, 8295, 1488, 8297, 98] 0 (w.alloc (.cells #[.int .i64 97, .int .i64 8295, .int .i64 1488, .int .i64 8297, .int .i64 98] 3)) (ht.below hw1) (hB.below hw1) (rdI_lit w 3 w.heap.size [97, 8295, 1488, 8297, 98] rfl (by decide)) first_chk (by decide))
  clear ht hB ha hb hi ho la lb li lo fa fb fi fo fk
  go_enter Tryd.func3, Tryd.ntmps3
  go_wp2_with fail
  refine Hl1.out.mono ?_
  rintro e9 w2 ⟨g, rfl, hg, hbi, hb2⟩
  have hbl2 : Below w.heap.size w w2 := hw1.trans (hb2.mono (by simp))
  have he : RdI w2 (some ⟨g, 0, none⟩) [0, 0, 1, 0, 0] := by
    have h := BI.rd hbi
    rwa [show tab ([97, 8295, 1488, 8297, 98] : List Int).length (lvP [97, 8295, 1488, 8297, 98] (baseOf [97, 8295, 1488, 8297, 98] 0)).lev = [0, 0, 1, 0, 0] from first_text] at h
  have Heq := hide (equal_any (some ⟨g, 0, none⟩) (some ⟨w2.heap.size, 0, none⟩) 5 5 [0, 0, 1, 0, 0] [0, 0, 1, 0, 0] (w2.alloc (.cells #[.int .i64 0, .int .i64 0, .int .i64 1, .int .i64 0, .int .i64 0] 3)) (he.alloc _) (rdI_lit w2 3 w2.heap.size [0, 0, 1, 0, 0] rfl (by decide)) (by decide) (by decide))
  rw [decide_eq_true (rfl : ([0, 0, 1, 0, 0] : List Int) = [0, 0, 1, 0, 0])] at Heq
  have hbl3 := hbl2.alloc hbl2.size (.cells #[.int .i64 0, .int .i64 0, .int .i64 1, .int .i64 0, .int .i64 0] 3)
  clear Hl1 hw1 hb2 hbi he hg
  generalize baseOf [97, 8295, 1488, 8297, 98] 0 = b0 at *
  go_upto_region 4 with (go_at_call 7; refine Heq.out.mono ?_; rintro e9 w9 ⟨rfl, d, rfl⟩)
  have hbl4 := (below_drewN hbl3 d)
  generalize (w2.alloc (.cells #[.int .i64 0, .int .i64 0, .int .i64 1, .int .i64 0, .int .i64 0] 3)).drewN d = w3 at *
  clear Heq hbl2 hbl3
  have hlit : RdI (w3.alloc (.cells #[.int .i64 97] 3)) (some ⟨w3.heap.size, 0, none⟩) [97] := rdI_lit w3 3 w3.heap.size [97] rfl (by decide)
  have hbl5 := hbl4.alloc hbl4.size (.cells #[.int .i64 97] 3)
  obtain ⟨gL, HgL⟩ : ∃ x, Hid (x = w3.heap.size) := ⟨_, rfl⟩
  rw [← HgL.out] at hlit
  go_upto_region 6 with fail
  rw [← HgL.out]
  generalize w3.alloc (.cells #[.int .i64 97] 3) = w4 at *
  clear HgL hbl4
  go_wp2_with fail
  refine (Ha.out w4 hbl5).mono ?_
  rintro e9 w5 ⟨A5, c5, rfl, hA5, h5⟩
  have hbl6 : Below w.heap.size w w5 := hbl5.trans (h5.mono hbl5.size)
  have hlit5 := hlit.below h5
  go_wp2_with fail
  refine (Hb.out w5 hbl6).mono ?_
  rintro e9 w6 ⟨B6, c6, rfl, hB6, h6⟩
  have hbl7 : Below w.heap.size w w6 := hbl6.trans (h6.mono hbl6.size)
  have hlit6 := hlit5.below h6
  have hA6 := hA5.below h6
  go_wp2_with fail
  refine (Hi.out w6 hbl7).mono ?_
  rintro e9 w7 ⟨I7, c7, rfl, hI7, h7⟩
  have hbl8 : Below w.heap.size w w7 := hbl7.trans (h7.mono hbl7.size)
  have hlit7 := hlit6.below h7
  have hA7 := hA6.below h7
  have hB7 := hB6.below h7
  clear Ha Hb Hi hlit hlit5 hlit6 hA5 hA6 hB6 h5 h6 h7 hbl5 hbl6 hbl7
  have Hc1 := hide (concat3 gL I7 1 c7 zi w7 hlit7 hI7)
  have al7 : Below w7.heap.size w7 (w7.alloc (.cells #[.slice (some ⟨gL, 0, none⟩) 1 1, .slice I7 (plainL zi).length c7, .slice (some ⟨gL, 0, none⟩) 1 1] 22)) := (Below.refl _ _).alloc (Nat.le_refl _) _
  go_wp2_with fail
  refine Hc1.out.mono ?_
  rintro e9 w8 ⟨I8, c8, rfl, hI8, h8⟩
  have h78 := al7.trans (h8.mono al7.size)
  have hbl9 : Below w.heap.size w w8 := hbl8.trans (h78.mono hbl8.size)
  have hlit8 := hlit7.below h78
  have hA8 := hA7.below h78
  have hB8 := hB7.below h78
  clear Hc1 al7 h8 h78 hlit7 hA7 hB7 hbl8
  go_wp2_with fail
  refine (Ho.out w8 hbl9).mono ?_
  rintro e9 w9 ⟨O9, c9, rfl, hO9, h9⟩
  have hbl10 : Below w.heap.size w w9 := hbl9.trans (h9.mono hbl9.size)
  have hlit9 := hlit8.below h9
  have hA9 := hA8.below h9
  have hB9 := hB8.below h9
  have hI9 := hI8.below h9
  clear Ho hlit8 hA8 hB8 hI8 hbl9 h9
  have Hc2 := hide (concat3 gL O9 1 c9 zo w9 hlit9 hO9)
  have al9 : Below w9.heap.size w9 (w9.alloc (.cells #[.slice (some ⟨gL, 0, none⟩) 1 1, .slice O9 (plainL zo).length c9, .slice (some ⟨gL, 0, none⟩) 1 1] 22)) := (Below.refl _ _).alloc (Nat.le_refl _) _
  go_wp2_with fail
  refine Hc2.out.mono ?_
  rintro e9 w10 ⟨O10, c10, rfl, hO10, h10⟩
  have h910 := al9.trans (h10.mono al9.size)
  have hbl11 : Below w.heap.size w w10 := hbl10.trans (h910.mono hbl10.size)
  have hA10 := hA9.below h910
  have hB10 := hB9.below h910
  have hI10 := hI9.below h910
  clear Hc2 al9 h10 h910 hlit9 hA9 hB9 hI9 hbl10 hO9 hI7
  go_upto_region 7 with fail
  go_cut [16] (fun v wc => ∃ o : Int, (o = 8294 ∨ o = 8295) ∧ v = .int .i64 o ∧ Below w10.heap.size w10 wc)
  case first => as_aux_lemma =>
    have hbx := (Below.refl w10.heap.size w10).alloc (Nat.le_refl _) (.cells #[.int .i64 8294, .int .i64 8295] 3)
    rcases (show wi kind 0 1 = 0 ∨ wi kind 0 1 = 1 by omega) with hk | hk
    · rw [hk] at Hk
      go_wp2_with fail
      refine (Hk.out _).mono ?_
      rintro e9 w9 ⟨rfl, rfl⟩
      go_wp2_with fail
      go_meet
      exact ⟨8294, .inl rfl, rfl, hbx⟩
    · rw [hk] at Hk
      go_wp2_with fail
      refine (Hk.out _).mono ?_
      rintro e9 w9 ⟨rfl, rfl⟩
      go_wp2_with fail
      go_meet
      exact ⟨8295, .inr rfl, rfl, hbx⟩
  case rest =>
    obtain ⟨w11, rfl⟩ : ∃ wx : World, wx = wc := ⟨_, rfl⟩
    obtain ⟨o, ho, rfl, h11⟩ := hcut
    have hbl12 : Below w.heap.size w w11 := hbl11.trans (h11.mono hbl11.size)
    have hA11 := hA10.below h11
    have hB11 := hB10.below h11
    have hI11 := hI10.below h11
    have hO11 := hO10.below h11
    clear Hk hk01 hbl11 h11 hA10 hB10 hI10 hO10
    have hpA : PcL (plainL za) := fun c hc => plainL_mem hc
    have hpB : PcL (plainL zb) := fun c hc => plainL_mem hc
    have hpI := inL_pc zi
    have hpO := inL_pc zo
    have nA := plainL_len za
    have nB := plainL_len zb
    have nI := inL_len zi
    have nO := inL_len zo
    have lI : (isoTx (plainL za) o (inL zi) (plainL zb)).length = (plainL za).length + 1 + (inL zi).length + 1 + (plainL zb).length := isoTx_len
    have lO : (isoTx (plainL za) o (inL zo) (plainL zb)).length = (plainL za).length + 1 + (inL zo).length + 1 + (plainL zb).length := isoTx_len
    have hsame := tx_same hpA hpI hpB ho hpO (by omega) (by omega) rfl rfl
    have hc1 := isoTx_chk hpA hpI hpB ho (by rw [lI]; omega)
    have hc2 := isoTx_chk hpA hpO hpB ho (by rw [lO]; omega)
    clear hpA hpB hpI hpO
    generalize plainL za = A at *
    generalize plainL zb = B at *
    generalize inL zi = I at *
    generalize inL zo = J at *
    obtain ⟨hsb, hsA, hsB⟩ := hsame
    have HlI := hide lI
    have HlO := hide lO
    clear lI lO
    have HsA := hide hsA
    have HsB := hide hsB
    have hz1 : (w11.alloc (.cells #[.int .i64 o] 3)).heap.size = w11.heap.size + 1 := hsz_alloc _ _
    have al : Below w11.heap.size w11 ((w11.alloc (.cells #[.int .i64 o] 3)).alloc (.cells #[.int .i64 8297] 3)) := ((Below.refl _ _).alloc (Nat.le_refl _) _).alloc (by simp) _
    have hz2 : ((w11.alloc (.cells #[.int .i64 o] 3)).alloc (.cells #[.int .i64 8297] 3)).heap.size = w11.heap.size + 1 + 1 := by rw [hsz_alloc, hsz_alloc]
    have Hx1 : Hid (RdI ((w11.alloc (.cells #[.int .i64 o] 3)).alloc (.cells #[.int .i64 8297] 3)) (some ⟨w11.heap.size, 0, none⟩) [o]) := hide ((rdI_lit w11 3 w11.heap.size [o] rfl (by simp)).alloc _)
    have Hx2 : Hid (RdI ((w11.alloc (.cells #[.int .i64 o] 3)).alloc (.cells #[.int .i64 8297] 3)) (some ⟨w11.heap.size + 1, 0, none⟩) [8297]) := hide (rdI_lit (w11.alloc (.cells #[.int .i64 o] 3)) 3 (w11.heap.size + 1) [8297] hz1.symm (by decide))
    have hcc := concat5 A5 I8 B6 w11.heap.size (w11.heap.size + 1) 1 1 c5 c8 c6 A I B o _ (hA11.below al) Hx1.out (hI11.below al) Hx2.out (hB11.below al) (by rw [HlI.out]; omega)
    rw [hz2] at hcc
    have Hcc := hide hcc
    have al2 : Below w11.heap.size w11 (((w11.alloc (.cells #[.int .i64 o] 3)).alloc (.cells #[.int .i64 8297] 3)).alloc (.cells #[.slice A5 A.length c5, .slice (some ⟨w11.heap.size, 0, none⟩) 1 1, .slice I8 I.length c8, .slice (some ⟨w11.heap.size + 1, 0, none⟩) 1 1, .slice B6 B.length c6] 22)) := al.alloc al.size _
    clear hcc hz1 hz2 al Hx1 Hx2
    go_wp2_with fail
    refine Hcc.out.mono ?_
    rintro e9 w12 ⟨T12, c12, rfl, hT, hb12⟩
    have h12 := al2.trans (hb12.mono al2.size)
    have hbw12 : Below w.heap.size w w12 := hbl12.trans (h12.mono hbl12.size)
    have Hlv := hide (levels_ok T12 c12 (isoTx A o I B) (-1) w12 (Ht.out.below hbw12) (HB.out.below hbw12) hT hc1 (by decide))
    have hA12 := hA11.below h12
    have hB12 := hB11.below h12
    have hO12 := hO11.below h12
    clear Hcc al2 hb12 h12 hT hA11 hB11 hO11 hI11 hbl12 hc1
    go_wp2_with fail
    refine Hlv.out.mono ?_
    rintro e9 w13 ⟨gl, rfl, hgl, hbi, hb13⟩
    have hbw13 : Below w.heap.size w w13 := hbw12.trans (hb13.mono hbw12.size)
    have hA13 := hA12.below hb13
    have hB13 := hB12.below hb13
    have hO13 := hO12.below hb13
    clear Hlv hb13 hA12 hB12 hO12 hbw12 hgl
    have hz1 : (w13.alloc (.cells #[.int .i64 o] 3)).heap.size = w13.heap.size + 1 := hsz_alloc _ _
    have al : Below w13.heap.size w13 ((w13.alloc (.cells #[.int .i64 o] 3)).alloc (.cells #[.int .i64 8297] 3)) := ((Below.refl _ _).alloc (Nat.le_refl _) _).alloc (by simp) _
    have hz2 : ((w13.alloc (.cells #[.int .i64 o] 3)).alloc (.cells #[.int .i64 8297] 3)).heap.size = w13.heap.size + 1 + 1 := by rw [hsz_alloc, hsz_alloc]
    have Hx1 : Hid (RdI ((w13.alloc (.cells #[.int .i64 o] 3)).alloc (.cells #[.int .i64 8297] 3)) (some ⟨w13.heap.size, 0, none⟩) [o]) := hide ((rdI_lit w13 3 w13.heap.size [o] rfl (by simp)).alloc _)
    have Hx2 : Hid (RdI ((w13.alloc (.cells #[.int .i64 o] 3)).alloc (.cells #[.int .i64 8297] 3)) (some ⟨w13.heap.size + 1, 0, none⟩) [8297]) := hide (rdI_lit (w13.alloc (.cells #[.int .i64 o] 3)) 3 (w13.heap.size + 1) [8297] hz1.symm (by decide))
    have hcc := concat5 A5 O10 B6 w13.heap.size (w13.heap.size + 1) 1 1 c5 c10 c6 A J B o _ (hA13.below al) Hx1.out (hO13.below al) Hx2.out (hB13.below al) (by rw [HlO.out]; omega)
    rw [hz2] at hcc
    have Hcc := hide hcc
    have al2 : Below w13.heap.size w13 (((w13.alloc (.cells #[.int .i64 o] 3)).alloc (.cells #[.int .i64 8297] 3)).alloc (.cells #[.slice A5 A.length c5, .slice (some ⟨w13.heap.size, 0, none⟩) 1 1, .slice O10 J.length c10, .slice (some ⟨w13.heap.size + 1, 0, none⟩) 1 1, .slice B6 B.length c6] 22)) := al.alloc al.size _
    clear hcc hz1 hz2 al Hx1 Hx2
    go_wp2_with fail
    refine Hcc.out.mono ?_
    rintro e9 w14 ⟨T14, c14, rfl, hT, hb14⟩
    have h14 := al2.trans (hb14.mono al2.size)
    have hbw14 : Below w.heap.size w w14 := hbw13.trans (h14.mono hbw13.size)
    have Hlv := hide (levels_ok T14 c14 (isoTx A o J B) (-1) w14 (Ht.out.below hbw14) (HB.out.below hbw14) hT hc2 (by decide))
    have hbi14 : BI w14 gl _ _ := hbi.blk.below h14 hbi.lt
    clear Hcc al2 hb14 h14 hT hA13 hB13 hO13 hbw13 hc2 hbi
    go_wp2_with fail
    refine Hlv.out.mono ?_
    rintro e9 w15 ⟨gy, rfl, hgy, hby, hb15⟩
    have hbw15 : Below w.heap.size w w15 := hbw14.trans (hb15.mono hbw14.size)
    have hbx : BI w15 gl _ _ := hbi14.blk.below hb15 hbi14.lt
    clear Hlv hb15 hbi14 hbw14 hgy
    rw [HlI.out] at hbx
    rw [HlO.out] at hby
    rw [HlI.out, HlO.out]
    generalize (lvP (isoTx A o I B) (baseOf (isoTx A o I B) (-1))).lev = F1 at *
    generalize (lvP (isoTx A o J B) (baseOf (isoTx A o J B) (-1))).lev = F2 at *
    try rw [hsb]
    generalize baseOf (isoTx A o J B) (-1) = base at *
    clear hsb HlI HlO hsA hsB
    have Hbx := hide hbx
    have Hby := hide hby
    clear hbx hby
    generalize A.length = p at *
    generalize B.length = b at *
    generalize I.length = m at *
    generalize J.length = m2 at *
    obtain ⟨n1, hn1⟩ : ∃ n1, n1 = p + 1 + m + 1 + b := ⟨_, rfl⟩
    obtain ⟨n2, hn2⟩ : ∃ n2, n2 = p + 1 + m2 + 1 + b := ⟨_, rfl⟩
    rw [← hn1] at Hbx
    rw [← hn2] at Hby
    rw [← hn1, ← hn2]
    have Hn1 := hide hn1
    have Hn2 := hide hn2
    clear hn1 hn2
    go_upto_region 10 with fail
    go_cut [127] (fun v wc => v = .bool false ∧ w15 = wc)
    case first => as_aux_lemma =>
      have k1 : (n1 : Int) = (p : Int) + (b : Int) + (m : Int) + 2 := by have := Hn1.out; omega
      have k2 : (n2 : Int) = (p : Int) + (b : Int) + (m2 : Int) + 2 := by have := Hn2.out; omega
      have e1 : ((n1 : Int) != (p : Int) + (b : Int) + (m : Int) + 2) = false := by rw [k1]; simp
      have e2 : ((n2 : Int) != (p : Int) + (b : Int) + (m2 : Int) + 2) = false := by rw [k2]; simp
      clear k1 k2
      go_wp2_with fail
      go_meet
      exact ⟨rfl, rfl⟩
    case rest =>
      obtain ⟨rfl, rfl⟩ := hcut
      have hx := Below.refl w15.heap.size w15
      obtain ⟨p1, Hp1⟩ : ∃ x, Hid (x = p + 1) := ⟨_, rfl⟩
      obtain ⟨r1, Hr1⟩ : ∃ x, Hid (x = p1 + m) := ⟨_, rfl⟩
      obtain ⟨r2, Hr2⟩ : ∃ x, Hid (x = p1 + m2) := ⟨_, rfl⟩
      have HE1 : Hid (∀ wx, Below w15.heap.size w15 wx → Calls Tryd.prog 7 #[.slice (some ⟨gl, 0, none⟩) p1 n1, .slice (some ⟨gy, 0, none⟩) p1 n2] wx fun e w' => e = .returned (.bool true) ∧ ∃ d, w' = wx.drewN d) := hide fun wx h => by
        have hq := equal_any (some ⟨gl, 0, none⟩) (some ⟨gy, 0, none⟩) n1 n2 (tab p1 F1) (tab p1 F2) wx (rd_pre Hbx.out h (by have := Hn1.out; have := Hp1.out; omega)) (rd_pre Hby.out h (by have := Hn2.out; have := Hp1.out; omega)) (by rw [tab_length, Hp1.out]; omega) (by rw [tab_length, Hp1.out]; omega)
        rwa [tab_length, tab_length, decide_eq_true (tab_congr (fun i hi => HsA.out i (by have := Hp1.out; omega)))] at hq
      have HE2 : Hid (∀ wx, Below w15.heap.size w15 wx → Calls Tryd.prog 7 #[.slice (some ⟨gl, r1, none⟩) (b + 1) (b + 1), .slice (some ⟨gy, r2, none⟩) (b + 1) (b + 1)] wx fun e w' => e = .returned (.bool true) ∧ ∃ d, w' = wx.drewN d) := hide fun wx h => by
        have hq := equal_any (some ⟨gl, r1, none⟩) (some ⟨gy, r2, none⟩) (b + 1) (b + 1) (tab (b + 1) fun t => F1 (r1 + t)) (tab (b + 1) fun t => F2 (r2 + t)) wx (rd_part Hbx.out h (by have := Hn1.out; have := Hp1.out; have := Hr1.out; omega)) (rd_part Hby.out h (by have := Hn2.out; have := Hp1.out; have := Hr2.out; omega)) (by rw [tab_length]; omega) (by rw [tab_length]; omega)
        rwa [tab_length, tab_length, decide_eq_true (tab_congr (fun i hi => by rw [Hr1.out, Hr2.out, Hp1.out]; exact HsB.out i hi))] at hq
      have i1 : p1 ≤ n1 := by have := Hn1.out; have := Hp1.out; omega
      have i2 : p1 ≤ n2 := by have := Hn2.out; have := Hp1.out; omega
      have i3 : r1 ≤ n1 := by have := Hn1.out; have := Hp1.out; have := Hr1.out; omega
      have i4 : r2 ≤ n2 := by have := Hn2.out; have := Hp1.out; have := Hr2.out; omega
      have i5 : n1 - r1 = b + 1 := by have := Hn1.out; have := Hp1.out; have := Hr1.out; omega
      have i6 : n2 - r2 = b + 1 := by have := Hn2.out; have := Hp1.out; have := Hr2.out; omega
      have i7 : ¬ n1 = r1 := by omega
      have i8 : ¬ n2 = r2 := by omega
      have i9 : ¬ n1 = 0 := by omega
      have i10 : ¬ n2 = 0 := by omega
      have l1 : n1 ≤ 100 := by have := Hn1.out; omega
      have l2 : n2 ≤ 100 := by have := Hn2.out; omega
      have j1 : (p1 : Int) ≤ (n1 : Int) := by omega
      have j2 : (p1 : Int) ≤ (n2 : Int) := by omega
      have j3 : (r1 : Int) ≤ (n1 : Int) := by omega
      have j4 : (r2 : Int) ≤ (n2 : Int) := by omega
      have q1 : IntKind.i64.wrap ((p : Int) + 1) = (p1 : Int) := by rw [IntWalk.i64_in _ (by omega)]; have := Hp1.out; omega
      have q2 : IntKind.i64.wrap ((p1 : Int) + (m : Int)) = (r1 : Int) := by rw [IntWalk.i64_in _ (by omega)]; have := Hr1.out; omega
      have q3 : IntKind.i64.wrap ((p1 : Int) + (m2 : Int)) = (r2 : Int) := by rw [IntWalk.i64_in _ (by omega)]; have := Hr2.out; omega
      go_upto_region 12 with fail
      refine wp_region_sink (S := fun _ : World => True) 30 (by kernel_rfl) (by kernel_rfl) (by kernel_rfl) (by kernel_rfl) ?hSz (fun hHeld => ?_)
      case hSz => trivial
      simp only [List.take_succ_cons, List.take_zero]
      refine wpAnyH_take (i := 0) (v := ?vzn0) rfl (by kernel_rfl) (by kernel_rfl) (by kernel_rfl) (fun _ _ _ h => h) (Or.inl ⟨by rfl, ?hyzn0⟩) (by assumption) ?_
      case hyzn0 => (intro w hSw; (try dsimp only at hSw); go_simp; try with_reducible rfl)
      try simp only [Act.put, List.getElem_toArray, List.getElem_cons_zero, List.getElem_cons_succ, List.setIfInBounds_toArray, List.set_cons_zero, List.set_cons_succ]
      refine wpAnyH_take (i := 1) (v := ?vzn1) rfl (by kernel_rfl) (by kernel_rfl) (by kernel_rfl) (fun _ _ _ h => h) (Or.inl ⟨by rfl, ?hyzn1⟩) (by assumption) ?_
      case hyzn1 => (intro w hSw; (try dsimp only at hSw); go_simp; try with_reducible rfl)
      try simp only [Act.put, List.getElem_toArray, List.getElem_cons_zero, List.getElem_cons_succ, List.setIfInBounds_toArray, List.set_cons_zero, List.set_cons_succ]
      refine wpAnyH_take (i := 2) (v := ?vzn2) rfl (by kernel_rfl) (by kernel_rfl) (by kernel_rfl) (fun _ _ _ h => h) (Or.inl ⟨by rfl, ?hyzn2⟩) (by assumption) ?_
      case hyzn2 => (intro w hSw; (try dsimp only at hSw); go_simp; try with_reducible rfl)
      try simp only [Act.put, List.getElem_toArray, List.getElem_cons_zero, List.getElem_cons_succ, List.setIfInBounds_toArray, List.set_cons_zero, List.set_cons_succ]
      refine wpAnyH_take (i := 3) (v := ?vzn3) rfl (by kernel_rfl) (by kernel_rfl) (by kernel_rfl) (fun _ _ _ h => h) (Or.inl ⟨by rfl, ?hyzn3⟩) (by assumption) ?_
      case hyzn3 => (intro w hSw; (try dsimp only at hSw); go_simp; try with_reducible rfl)
      try simp only [Act.put, List.getElem_toArray, List.getElem_cons_zero, List.getElem_cons_succ, List.setIfInBounds_toArray, List.set_cons_zero, List.set_cons_succ]
      refine wpAnyH_take (i := 4) (v := ?vzn4) rfl (by kernel_rfl) (by kernel_rfl) (by kernel_rfl) (fun _ _ _ h => h) (Or.inl ⟨by rfl, ?hyzn4⟩) (by assumption) ?_
      case hyzn4 => (intro w hSw; (try dsimp only at hSw); go_simp; try with_reducible rfl)
      try simp only [Act.put, List.getElem_toArray, List.getElem_cons_zero, List.getElem_cons_succ, List.setIfInBounds_toArray, List.set_cons_zero, List.set_cons_succ]
      refine wpAnyH_take (i := 5) (v := ?vzn5) rfl (by kernel_rfl) (by kernel_rfl) (by kernel_rfl) (fun _ _ _ h => h) (Or.inl ⟨by rfl, ?hyzn5⟩) (by assumption) ?_
      case hyzn5 => (intro w hSw; (try dsimp only at hSw); go_simp; try with_reducible rfl)
      try simp only [Act.put, List.getElem_toArray, List.getElem_cons_zero, List.getElem_cons_succ, List.setIfInBounds_toArray, List.set_cons_zero, List.set_cons_succ]
      refine wpAnyH_take (i := 6) (v := ?vzn6) rfl (by kernel_rfl) (by kernel_rfl) (by kernel_rfl) (fun _ _ _ h => h) (Or.inl ⟨by rfl, ?hyzn6⟩) (by assumption) ?_
      case hyzn6 => (intro w hSw; (try dsimp only at hSw); go_simp; try with_reducible rfl)
      try simp only [Act.put, List.getElem_toArray, List.getElem_cons_zero, List.getElem_cons_succ, List.setIfInBounds_toArray, List.set_cons_zero, List.set_cons_succ]
      refine wpAnyH_take (i := 7) (v := ?vzn7) rfl (by kernel_rfl) (by kernel_rfl) (by kernel_rfl) (fun _ _ _ h => h) (Or.inl ⟨by rfl, ?hyzn7⟩) (by assumption) ?_
      case hyzn7 => (intro w hSw; (try dsimp only at hSw); go_simp; try with_reducible rfl)
      try simp only [Act.put, List.getElem_toArray, List.getElem_cons_zero, List.getElem_cons_succ, List.setIfInBounds_toArray, List.set_cons_zero, List.set_cons_succ]
      refine wpAnyH_take (i := 8) (v := ?vzn8) rfl (by kernel_rfl) (by kernel_rfl) (by kernel_rfl) (fun _ _ _ h => h) (Or.inl ⟨by rfl, ?hyzn8⟩) (by assumption) ?_
      case hyzn8 => (intro w hSw; (try dsimp only at hSw); go_simp; try with_reducible rfl)
      try simp only [Act.put, List.getElem_toArray, List.getElem_cons_zero, List.getElem_cons_succ, List.setIfInBounds_toArray, List.set_cons_zero, List.set_cons_succ]
      refine wpAnyH_take (i := 9) (v := ?vzn9) rfl (by kernel_rfl) (by kernel_rfl) (by kernel_rfl) (fun _ _ _ h => h) (Or.inl ⟨by rfl, ?hyzn9⟩) (by assumption) ?_
      case hyzn9 => (intro w hSw; (try dsimp only at hSw); go_simp; try with_reducible rfl)
      try simp only [Act.put, List.getElem_toArray, List.getElem_cons_zero, List.getElem_cons_succ, List.setIfInBounds_toArray, List.set_cons_zero, List.set_cons_succ]
      refine wpAnyH_ready (rs := [10]) (by kernel_rfl) (by simp) (AllReadyH.cons rfl (fun K hK => ?_) AllReadyH.nil)
      go_simp
      go_at_call 7
      refine (HE1.out _ (by first | exact below_drewN hx 1)).mono ?_
      rintro e9 w20 ⟨rfl, d1, rfl⟩
      go_wp2_with fail
      refine hK.out _ _ ?hkzn10 (fun hHeld => ?_)
      case hkzn10 => trivial
      clear hK K
      try simp only [Act.put, List.getElem_toArray, List.getElem_cons_zero, List.getElem_cons_succ, List.setIfInBounds_toArray, List.set_cons_zero, List.set_cons_succ]
      refine wpAnyH_take (i := 11) (v := ?vzn11) rfl (by kernel_rfl) (by kernel_rfl) (by kernel_rfl) (fun _ _ _ h => h) (Or.inl ⟨by rfl, ?hyzn11⟩) (by assumption) ?_
      case hyzn11 => (intro w hSw; (try dsimp only at hSw); go_simp; try with_reducible rfl)
      try simp only [Act.put, List.getElem_toArray, List.getElem_cons_zero, List.getElem_cons_succ, List.setIfInBounds_toArray, List.set_cons_zero, List.set_cons_succ]
      refine wpAnyH_take (i := 12) (v := ?vzn12) rfl (by kernel_rfl) (by kernel_rfl) (by kernel_rfl) (fun _ _ _ h => h) (Or.inl ⟨by rfl, ?hyzn12⟩) (by assumption) ?_
      case hyzn12 => (intro w hSw; (try dsimp only at hSw); go_simp; try with_reducible rfl)
      try simp only [Act.put, List.getElem_toArray, List.getElem_cons_zero, List.getElem_cons_succ, List.setIfInBounds_toArray, List.set_cons_zero, List.set_cons_succ]
      refine wpAnyH_take (i := 13) (v := ?vzn13) rfl (by kernel_rfl) (by kernel_rfl) (by kernel_rfl) (fun _ _ _ h => h) (Or.inl ⟨by rfl, ?hyzn13⟩) (by assumption) ?_
      case hyzn13 => (intro w hSw; (try dsimp only at hSw); go_simp; try with_reducible rfl)
      try simp only [Act.put, List.getElem_toArray, List.getElem_cons_zero, List.getElem_cons_succ, List.setIfInBounds_toArray, List.set_cons_zero, List.set_cons_succ]
      refine wpAnyH_take (i := 14) (v := ?vzn14) rfl (by kernel_rfl) (by kernel_rfl) (by kernel_rfl) (fun _ _ _ h => h) (Or.inl ⟨by rfl, ?hyzn14⟩) (by assumption) ?_
      case hyzn14 => (intro w hSw; (try dsimp only at hSw); go_simp; try with_reducible rfl)
      try simp only [Act.put, List.getElem_toArray, List.getElem_cons_zero, List.getElem_cons_succ, List.setIfInBounds_toArray, List.set_cons_zero, List.set_cons_succ]
      refine wpAnyH_take (i := 15) (v := ?vzn15) rfl (by kernel_rfl) (by kernel_rfl) (by kernel_rfl) (fun _ _ _ h => h) (Or.inl ⟨by rfl, ?hyzn15⟩) (by assumption) ?_
      case hyzn15 => (intro w hSw; (try dsimp only at hSw); go_simp; try with_reducible rfl)
      try simp only [Act.put, List.getElem_toArray, List.getElem_cons_zero, List.getElem_cons_succ, List.setIfInBounds_toArray, List.set_cons_zero, List.set_cons_succ]
      refine wpAnyH_take (i := 16) (v := ?vzn16) rfl (by kernel_rfl) (by kernel_rfl) (by kernel_rfl) (fun _ _ _ h => h) (Or.inl ⟨by rfl, ?hyzn16⟩) (by assumption) ?_
      case hyzn16 => (intro w hSw; (try dsimp only at hSw); go_simp; try with_reducible rfl)
      try simp only [Act.put, List.getElem_toArray, List.getElem_cons_zero, List.getElem_cons_succ, List.setIfInBounds_toArray, List.set_cons_zero, List.set_cons_succ]
      refine wpAnyH_take (i := 17) (v := ?vzn17) rfl (by kernel_rfl) (by kernel_rfl) (by kernel_rfl) (fun _ _ _ h => h) (Or.inl ⟨by rfl, ?hyzn17⟩) (by assumption) ?_
      case hyzn17 => (intro w hSw; (try dsimp only at hSw); go_simp; try with_reducible rfl)
      try simp only [Act.put, List.getElem_toArray, List.getElem_cons_zero, List.getElem_cons_succ, List.setIfInBounds_toArray, List.set_cons_zero, List.set_cons_succ]
      refine wpAnyH_take (i := 18) (v := ?vzn18) rfl (by kernel_rfl) (by kernel_rfl) (by kernel_rfl) (fun _ _ _ h => h) (Or.inl ⟨by rfl, ?hyzn18⟩) (by assumption) ?_
      case hyzn18 => (intro w hSw; (try dsimp only at hSw); go_simp; try with_reducible rfl)
      try simp only [Act.put, List.getElem_toArray, List.getElem_cons_zero, List.getElem_cons_succ, List.setIfInBounds_toArray, List.set_cons_zero, List.set_cons_succ]
      refine wpAnyH_take (i := 19) (v := ?vzn19) rfl (by kernel_rfl) (by kernel_rfl) (by kernel_rfl) (fun _ _ _ h => h) (Or.inl ⟨by rfl, ?hyzn19⟩) (by assumption) ?_
      case hyzn19 => (intro w hSw; (try dsimp only at hSw); go_simp; try with_reducible rfl)
      try simp only [Act.put, List.getElem_toArray, List.getElem_cons_zero, List.getElem_cons_succ, List.setIfInBounds_toArray, List.set_cons_zero, List.set_cons_succ]
      refine wpAnyH_take (i := 20) (v := ?vzn20) rfl (by kernel_rfl) (by kernel_rfl) (by kernel_rfl) (fun _ _ _ h => h) (Or.inl ⟨by rfl, ?hyzn20⟩) (by assumption) ?_
      case hyzn20 => (intro w hSw; (try dsimp only at hSw); go_simp; try with_reducible rfl)
      try simp only [Act.put, List.getElem_toArray, List.getElem_cons_zero, List.getElem_cons_succ, List.setIfInBounds_toArray, List.set_cons_zero, List.set_cons_succ]
      refine wpAnyH_take (i := 21) (v := ?vzn21) rfl (by kernel_rfl) (by kernel_rfl) (by kernel_rfl) (fun _ _ _ h => h) (Or.inl ⟨by rfl, ?hyzn21⟩) (by assumption) ?_
      case hyzn21 => (intro w hSw; (try dsimp only at hSw); go_simp; try with_reducible rfl)
      try simp only [Act.put, List.getElem_toArray, List.getElem_cons_zero, List.getElem_cons_succ, List.setIfInBounds_toArray, List.set_cons_zero, List.set_cons_succ]
      refine wpAnyH_take (i := 22) (v := ?vzn22) rfl (by kernel_rfl) (by kernel_rfl) (by kernel_rfl) (fun _ _ _ h => h) (Or.inl ⟨by rfl, ?hyzn22⟩) (by assumption) ?_
      case hyzn22 => (intro w hSw; (try dsimp only at hSw); go_simp; try with_reducible rfl)
      try simp only [Act.put, List.getElem_toArray, List.getElem_cons_zero, List.getElem_cons_succ, List.setIfInBounds_toArray, List.set_cons_zero, List.set_cons_succ]
      refine wpAnyH_take (i := 23) (v := ?vzn23) rfl (by kernel_rfl) (by kernel_rfl) (by kernel_rfl) (fun _ _ _ h => h) (Or.inl ⟨by rfl, ?hyzn23⟩) (by assumption) ?_
      case hyzn23 => (intro w hSw; (try dsimp only at hSw); go_simp; try with_reducible rfl)
      try simp only [Act.put, List.getElem_toArray, List.getElem_cons_zero, List.getElem_cons_succ, List.setIfInBounds_toArray, List.set_cons_zero, List.set_cons_succ]
      refine wpAnyH_take (i := 24) (v := ?vzn24) rfl (by kernel_rfl) (by kernel_rfl) (by kernel_rfl) (fun _ _ _ h => h) (Or.inl ⟨by rfl, ?hyzn24⟩) (by assumption) ?_
      case hyzn24 => (intro w hSw; (try dsimp only at hSw); go_simp; try with_reducible rfl)
      try simp only [Act.put, List.getElem_toArray, List.getElem_cons_zero, List.getElem_cons_succ, List.setIfInBounds_toArray, List.set_cons_zero, List.set_cons_succ]
      refine wpAnyH_take (i := 25) (v := ?vzn25) rfl (by kernel_rfl) (by kernel_rfl) (by kernel_rfl) (fun _ _ _ h => h) (Or.inl ⟨by rfl, ?hyzn25⟩) (by assumption) ?_
      case hyzn25 => (intro w hSw; (try dsimp only at hSw); go_simp; try with_reducible rfl)
      try simp only [Act.put, List.getElem_toArray, List.getElem_cons_zero, List.getElem_cons_succ, List.setIfInBounds_toArray, List.set_cons_zero, List.set_cons_succ]
      refine wpAnyH_take (i := 26) (v := ?vzn26) rfl (by kernel_rfl) (by kernel_rfl) (by kernel_rfl) (fun _ _ _ h => h) (Or.inl ⟨by rfl, ?hyzn26⟩) (by assumption) ?_
      case hyzn26 => (intro w hSw; (try dsimp only at hSw); go_simp; try with_reducible rfl)
      try simp only [Act.put, List.getElem_toArray, List.getElem_cons_zero, List.getElem_cons_succ, List.setIfInBounds_toArray, List.set_cons_zero, List.set_cons_succ]
      refine wpAnyH_take (i := 27) (v := ?vzn27) rfl (by kernel_rfl) (by kernel_rfl) (by kernel_rfl) (fun _ _ _ h => h) (Or.inl ⟨by rfl, ?hyzn27⟩) (by assumption) ?_
      case hyzn27 => (intro w hSw; (try dsimp only at hSw); go_simp; try with_reducible rfl)
      try simp only [Act.put, List.getElem_toArray, List.getElem_cons_zero, List.getElem_cons_succ, List.setIfInBounds_toArray, List.set_cons_zero, List.set_cons_succ]
      refine wpAnyH_ready (rs := [28]) (by kernel_rfl) (by simp) (AllReadyH.cons rfl (fun K hK => ?_) AllReadyH.nil)
      go_simp
      go_at_call 7
      refine (HE2.out _ (by first | exact below_drewN hx (1 + d1) | exact below_drewN (below_drewN hx 1) d1)).mono ?_
      rintro e9 w21 ⟨rfl, d2, rfl⟩
      go_wp2_with fail
      refine hK.out _ _ ?hkzn28 (fun hHeld => ?_)
      case hkzn28 => trivial
      clear hK K
      try simp only [Act.put, List.getElem_toArray, List.getElem_cons_zero, List.getElem_cons_succ, List.setIfInBounds_toArray, List.set_cons_zero, List.set_cons_succ]
      refine wpAnyH_take (i := 29) (v := ?vzn29) rfl (by kernel_rfl) (by kernel_rfl) (by kernel_rfl) (fun _ _ _ h => h) (Or.inl ⟨by rfl, ?hyzn29⟩) (by assumption) ?_
      case hyzn29 => (intro w hSw; (try dsimp only at hSw); go_simp; try with_reducible rfl)
      try simp only [Act.put, List.getElem_toArray, List.getElem_cons_zero, List.getElem_cons_succ, List.setIfInBounds_toArray, List.set_cons_zero, List.set_cons_succ]
      refine wpAnyH_done (by kernel_rfl) ?_ _
      refine sink_run rfl rfl ?_
      go_simp
      go_wp2_with fail
      go_ret
      exact ⟨rfl, by first | exact below_drewN hbw15 _ | exact below_drewN (below_drewN hbw15 _) _ | exact below_drewN (below_drewN (below_drewN hbw15 _) _) _⟩

theorem walked : WalkedL Tryd.checked.prog 3 Tryd.f3 [("chancery/bidi.table", Rows.laid_chancery_bidi_table), ("chancery/bidi.brackets", Rows.laid_chancery_bidi_brackets)] := by
  intro H enc W args ds ps hval hA hL
  obtain ⟨ht, hB⟩ : TabC W ∧ BrC W := tabs_of ⟨_, _, _, rfl, rfl, rfl⟩ (by kernel_rfl) hL
  rw [Tryd.params3] at hA hval
  obtain ⟨v0, v1, v2, v3, v4, d0, d1, d2, d3, d4, p0, p1, p2, p3, p4, rfl, h0, h1, h2, h3, h4⟩ := trodAll_five hA
  obtain ⟨A0, c0, z0, rfl, r0, l0, f0⟩ := ints_arg Tryd.underlying22 Tryd.underlying3 (by kernel_rfl) (hval 0 _ _ rfl rfl) h0
  obtain ⟨A1, c1, z1, rfl, r1, l1, f1⟩ := ints_arg Tryd.underlying22 Tryd.underlying3 (by kernel_rfl) (hval 1 _ _ rfl rfl) h1
  obtain ⟨A2, c2, z2, rfl, r2, l2, f2⟩ := ints_arg Tryd.underlying22 Tryd.underlying3 (by kernel_rfl) (hval 2 _ _ rfl rfl) h2
  obtain ⟨A3, c3, z3, rfl, r3, l3, f3⟩ := ints_arg Tryd.underlying22 Tryd.underlying3 (by kernel_rfl) (hval 3 _ _ rfl rfl) h3
  obtain ⟨x, rfl, _, _, wx⟩ := open_int Tryd.underlying3 (hval 4 _ _ rfl rfl) h4
  exact walk A0 A1 A2 A3 c0 c1 c2 c3 z0 z1 z2 z3 x W ht hB r0 r1 r2 r3 l0 l1 l2 l3 f0 f1 f2 f3 wx

def laidL : List (String × DataW Unit) := [("chancery/bidi.table", Rows.laid_chancery_bidi_table), ("chancery/bidi.brackets", Rows.laid_chancery_bidi_brackets)]
theorem door_met (os : Os) (args : Array Value) : laidMetH Tryd.prog laidL ((World.doorLaid Tryd.prog 400 os).forCall (fun _ _ => 0) ⟨#[], args, []⟩).memory :=
  laidMetH_of_parts3 (fuel := 8) (laidMet_of_run' 8 (by kernel_rfl) (by kernel_rfl)) (by kernel_rfl) (by kernel_rfl)

set_option maxRecDepth 100000 in
theorem lifted (os : Os) (started : os.Started) (H : Type) (enc : TypeId × Value → H) :
    ReturnsInHanded {} Tryd.checked os 3 .any (fun w args => (Rows.bidiIsolatedSpec.pre enc Tryd.prog Tryd.f3 [] false w args ∧ laidMetH Tryd.prog laidL w) ∧ sizedMet enc Tryd.prog Tryd.f3 (OpenSpec.ofChange Rows.bidiIsolatedSpec) false w args) (Rows.bidiIsolatedSpec.post enc Tryd.prog Tryd.f3 false true false false) :=
  law_lift_laid (C := Tryd.checked) (tb := 4) (laid := laidL) (by kernel_rfl) started (by kernel_rfl) Tryd.func3 rfl
    (fun ds h => match ds, h with | [_, _, _, _, _], _ => rfl) rfl Tryd.underlying4 (by kernel_rfl) (by kernel_rfl)
    (ChangeSpec.witness_shaped (enc := enc) (C := Tryd.checked) (os := os) (X := fun w _ => laidMetH Tryd.prog laidL w) false (World.doorLaid Tryd.prog 400 os) #[.slice none 0 0, .slice none 0 0, .slice none 0 0, .slice none 0 0, .int .i64 0] 8 rfl (World.shaped_of_RefB (by kernel_rfl) (by kernel_rfl)) (by kernel_rfl) (by kernel_rfl) (by kernel_rfl) (door_met os _))
    walked

theorem said : Rows.BidiIsolatedSaid :=
  OpenClaim.holds_of_wide 3 Tryd.f3 rfl rfl rfl rfl rfl rfl rfl ⟨rfl, rfl, rfl, rfl, rfl⟩ rfl rfl rfl rfl rfl (by kernel_rfl) Tryd.func3 (by kernel_rfl)
    (of_decide_eq_true (by kernel_rfl)) (by unfold Func.isWrapper; first | (rw [if_pos (by decide +kernel)]; kernel_rfl) | (rw [if_neg (by decide +kernel)]; exact ⟨rfl, rfl⟩))
    (fun os started H enc _ => lifted os started H enc)

/-- THE STATEMENT: the tied card -/
theorem proved : Rows.BidiIsolatedCardSaid :=
  Claim7.holds_tied_plain_at .later [] [.data, .widerDeep] true (true, "dc325a33d721ee8d36ed2a63bc3423150babb9981c2998a8110c55e155ad6a67") false
    said (fun _ h => by cases h) (by kernel_rfl) (fun _ h => by cases h) bidiIsolated_row_tie rfl ⟨rfl, rfl⟩ (by kernel_rfl) rfl
    (fun f fn hf hfn => by
      obtain rfl : f = 3 := Option.some.inj ((show Tryd.prog.funcNamed "chancery/chancerykeep3.BidiIsolated" = some 3 by kernel_rfl).symm.trans hf) |>.symm
      obtain rfl : fn = Tryd.f3 := (Option.some.inj (Tryd.func3.symm.trans hfn)).symm
      exact ⟨by kernel_rfl, fun j t ht => by
        have hm : t ∈ Tryd.f3.params.toList := by simpa using Array.mem_of_getElem? ht
        have hall : (Tryd.f3.params.toList.all fun u => !Tryd.prog.wantsStandIn u) = true := by kernel_rfl
        exact (show Tryd.prog.wantsStandIn t = false by simpa using List.all_eq_true.1 hall t hm)⟩)
    (by kernel_rfl)
#print axioms proved
end Go.Proofs.YtdikfldogmbeaaaDoor.BidiIsolatedDone
