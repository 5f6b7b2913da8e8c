/- The contract of master.Missing. -/
import Derived.Test.YtnmikhmbnpiadaaMsBasics
namespace Go.Proofs.Ytnmikhmbnpiadaa.Shp
open Go.RowKit Go.Frm Go.Maps Go.WideMaps Go.WideShapes Ms

theorem lawS : Keyed Try.prog 9 := string_keyed Try.underlying9
theorem lawI : Keyed Try.prog 3 := int_keyed Try.underlying3
theorem zeroI (w : World) : (zeroValue 3).run Try.prog w = .ok (.int .i64 0) w := by kernel_rfl
theorem zeroB (w : World) : (zeroValue 4).run Try.prog w = .ok (.bool false) w := by kernel_rfl
theorem str_info : (Try.prog.info? 9).map (fun i => (i.zero, i.size, i.bytes)) = some (some (.string ⟨#[]⟩), 1, 16) := by kernel_rfl

def Mis (L : List ByteArray) (w : World) (e : Ending) (w' : World) : Prop :=
  ∃ A c, e = .returned (.tuple #[.slice A L.length c, .int .i64 0]) ∧ w'.ownsRow w.heap.size 9 1 (.slice A L.length c) L.length (L.map Value.string) ∧ Below w.heap.size w w'

set_option maxRecDepth 100000 in
set_option maxHeartbeats 4000000 in
theorem missing_ok (As : Option Addr) (ns cs : Nat) (Gs : Nat → Nat → Int) (Ts : Nat → Nat → ByteArray) (Am : Option Addr) (nm cm : Nat) (Gm : Nat → Nat → Int) (Tm : Nat → Nat → ByteArray) (w : World)
    (hos : ShOk Gs ns) (hom : ShOk Gm nm) (hrs : RdF w As ns 12 (shV Gs Ts)) (hrm : RdF w Am nm 12 (shV Gm Tm)) (hcs : ns ≤ cs) (hcm : nm ≤ cm) (hls : ∀ i, i < ns → (Ts i 10).size ≤ maxLen) (hlm : ∀ i, i < nm → (Tm i 10).size ≤ maxLen) :
    Calls Try.prog 4 #[.slice As ns cs, .slice Am nm cm] w (Mis (missL roomB (usedB Gs Ts ns) Gm Tm nm) w) := by
  have hn1 := hos.few
  have hn2 := hom.few
  have Hc1 := hide (check_ok As ns cs Gs Ts w hos hrs hcs)
  have Hc2 := hide (fun wx (hx : RdF wx Am nm 12 (shV Gm Tm)) => check_ok Am nm cm Gm Tm wx hom hx hcm)
  have Hls := hide hls
  have Hlm := hide hlm
  clear hos hom hls hlm
  have hmm := @run_makeMap Try.prog
  go_enter Try.func4, Try.ntmps4
  go_wp2_with fail
  refine Hc1.out.mono ?_
  rintro e w1 ⟨rfl, hb1⟩
  have hrm1 := hrm.below hb1
  go_wp2_with fail
  refine (Hc2.out w1 hrm1).mono ?_
  rintro e w2 ⟨rfl, hb2⟩
  have hbl2 := hb1.trans (hb2.mono hb1.size)
  clear hrm1 hb1 hb2 Hc1 Hc2
  go_wp2_with fail
  have hown := World.ownsMap_made (H := Unit) w2 Try.prog 9 (plainElem Try.prog 3)
  have hbl3 := hbl2.alloc hbl2.size (.map #[] 0)
  have hB := hbl2.size
  clear hbl2 hmm
  generalize w2.alloc (.map #[] 0) = w3 at *
  generalize w2.heap.size = B at *
  go_loopw [27] (fun a wr => ∃ (k : Nat) (D : DataW Unit), k ≤ ns ∧ a = .int .i64 k ∧ Hid (SetIs D (usedB Gs Ts k)) ∧ wr.ownsMap Try.prog 9 (plainElem Try.prog 3) B k D ∧ Below w.heap.size w wr) (fun a _ => ns - (intOf a).toNat)
  case atStart => exact ⟨0, _, by omega, rfl, setIs_empty.congr (fun s => rfl), hown, hbl3⟩
  case round =>
    clear hown hbl3
    obtain ⟨k, D, hk, rfl, HS, hown, hbl⟩ := hrel
    by_cases hlt : k < ns
    · obtain ⟨b, off, rfl, k0, k1, k2, k3, k4, k5, k6, k7, k8, k9, k10, k11⟩ := cells12 (hrs.below hbl) hlt
      go_upto_region 11 with fail
      have bx : Blk (wr.alloc (.cells (shC Gs Ts k) 28)) wr.heap.size 28 (shC Gs Ts k) := Blk.new wr _ _
      have hbl1 := hbl.alloc hbl.size (.cells (shC Gs Ts k) 28)
      have hown1 := hown.alloc (.cells (shC Gs Ts k) 28)
      unfold shC at bx hbl1 hown1 
      clear k0 k1 k2 k3 k4 k5 k6 k7 k8 k9 k10 k11 hbl hown
      generalize wr.alloc (.cells #[.int .i64 (Gs k 0), .int .i64 (Gs k 1), .int .i64 (Gs k 2), .int .i64 (Gs k 3), .int .i64 (Gs k 4), .int .i64 (Gs k 5), .int .i64 (Gs k 6), .int .i64 (Gs k 7), .int .i64 (Gs k 8), .int .i64 (Gs k 9), .string (Ts k 10), .string (Ts k 11)] 28) = w0 at *
      generalize wr.heap.size = g at *
      have m0 : w0.cell? ⟨g, 0, none⟩ = some (.int .i64 (Gs k 0)) := bx.cell 0
      have m1 : w0.cell? ⟨g, 1, none⟩ = some (.int .i64 (Gs k 1)) := bx.cell 1
      have m2 : w0.cell? ⟨g, 2, none⟩ = some (.int .i64 (Gs k 2)) := bx.cell 2
      have m3 : w0.cell? ⟨g, 3, none⟩ = some (.int .i64 (Gs k 3)) := bx.cell 3
      have m4 : w0.cell? ⟨g, 4, none⟩ = some (.int .i64 (Gs k 4)) := bx.cell 4
      have m5 : w0.cell? ⟨g, 5, none⟩ = some (.int .i64 (Gs k 5)) := bx.cell 5
      have m6 : w0.cell? ⟨g, 6, none⟩ = some (.int .i64 (Gs k 6)) := bx.cell 6
      have m7 : w0.cell? ⟨g, 7, none⟩ = some (.int .i64 (Gs k 7)) := bx.cell 7
      have m8 : w0.cell? ⟨g, 8, none⟩ = some (.int .i64 (Gs k 8)) := bx.cell 8
      have m9 : w0.cell? ⟨g, 9, none⟩ = some (.int .i64 (Gs k 9)) := bx.cell 9
      have m10 : w0.cell? ⟨g, 10, none⟩ = some (.string (Ts k 10)) := bx.cell 10
      have m11 : w0.cell? ⟨g, 11, none⟩ = some (.string (Ts k 11)) := bx.cell 11
      by_cases h1 : Gs k 1 = 0
      · have d1 : (Gs k 1 == 0) = true := by simpa using h1
        have H1 := hide h1
        clear h1
        have hkey : keyOf Try.prog 9 (.string (Ts k 10)) = some (.string (Ts k 10).data.toList) := keyOf_string_mk Try.underlying9 (Hls.out k hlt)
        go_wp2_with (first | (at_mapUpdate; refine wpList_mapUpdate_own _ rfl _ _ _ 35 rfl 9 3 lawS Try.underlying35 (plainElem (H := Unit) Try.prog 3) B k D rfl hown1 (by unfold maxLen; omega) _ _ _ rfl rfl hkey _ [] (plainElem_int Try.underlying3 (by decide)) ?_; intro w4 hown4 hgrow4))
        go_roundw
        case rel => exact ⟨k + 1, _, by omega, by go_num, hide ((HS.out.put (Ts k 10)).congr fun s => by simp [usedB, H1.out]), hown4, below_stored hbl1 hbl1.size hB hgrow4⟩
        case measure => simp [intOf]; omega
      · have d1 : (Gs k 1 == 0) = false := by simpa using h1
        have H1 := hide h1
        clear h1
        go_wp2_with fail
        go_roundw
        case rel => exact ⟨k + 1, _, by omega, by go_num, hide (HS.out.congr fun s => by simp [usedB, H1.out]), hown1.mono (by omega), hbl1⟩
        case measure => simp [intOf]; omega
    · obtain rfl : k = ns := by omega
      generalize usedB Gs Ts k = u at *
      go_wp2_with fail
      clear Hls hrs hcs
      obtain ⟨wo, rfl⟩ : ∃ wo : World, wo = wr := ⟨_, rfl⟩
      go_loopw [11, 40] (fun a b w' => ∃ (i : Nat) (D' : DataW Unit), i ≤ nm ∧ b = .int .i64 i ∧ Hid (SetIs D' fun s => u s || memB (missL roomB u Gm Tm i) s) ∧ w'.ownsMap Try.prog 9 (plainElem Try.prog 3) B (k + i) D' ∧ w'.ownsRow w.heap.size 9 1 a (missL roomB u Gm Tm i).length ((missL roomB u Gm Tm i).map Value.string) ∧ Below w.heap.size w w') (fun _ b _ => nm - (intOf b).toNat)
      case atStart => exact ⟨0, D, by omega, rfl, hide (HS.out.congr fun s => by simp [missL, memB]), hown, World.ownsRow_nil _ _ _ _, hbl⟩
      case round =>
        clear hown hbl HS hlt
        obtain ⟨i, D', hi, rfl, HS, hown, hrow, hbl⟩ := hrel
        obtain ⟨A5, c5, rfl⟩ := own_form hrow
        have hL := missL_len (room := roomB) (u := u) (G := Gm) (T := Tm) i
        have Hyes := hide (missL_yes (room := roomB) (u := u) (G := Gm) (T := Tm) (k := i))
        have Hno := hide (missL_no (room := roomB) (u := u) (G := Gm) (T := Tm) (k := i))
        by_cases hlt : i < nm
        · obtain ⟨b, off, rfl, k0, k1, k2, k3, k4, k5, k6, k7, k8, k9, k10, k11⟩ := cells12 (hrm.below hbl) hlt
          generalize missL roomB u Gm Tm i = L at *
          go_upto_region 18 with fail
          have bx : Blk (wr.alloc (.cells (shC Gm Tm i) 28)) wr.heap.size 28 (shC Gm Tm i) := Blk.new wr _ _
          have hbl1 := hbl.alloc hbl.size (.cells (shC Gm Tm i) 28)
          have hown1 := hown.alloc (.cells (shC Gm Tm i) 28)
          have hrow1 := hrow.alloc (.cells (shC Gm Tm i) 28)
          unfold shC at bx hbl1 hown1 hrow1
          clear k0 k1 k2 k3 k4 k5 k6 k7 k8 k9 k10 k11 hbl hown hrow
          generalize wr.alloc (.cells #[.int .i64 (Gm i 0), .int .i64 (Gm i 1), .int .i64 (Gm i 2), .int .i64 (Gm i 3), .int .i64 (Gm i 4), .int .i64 (Gm i 5), .int .i64 (Gm i 6), .int .i64 (Gm i 7), .int .i64 (Gm i 8), .int .i64 (Gm i 9), .string (Tm i 10), .string (Tm i 11)] 28) = w0 at *
          generalize wr.heap.size = g at *
          have m0 : w0.cell? ⟨g, 0, none⟩ = some (.int .i64 (Gm i 0)) := bx.cell 0
          have m1 : w0.cell? ⟨g, 1, none⟩ = some (.int .i64 (Gm i 1)) := bx.cell 1
          have m2 : w0.cell? ⟨g, 2, none⟩ = some (.int .i64 (Gm i 2)) := bx.cell 2
          have m3 : w0.cell? ⟨g, 3, none⟩ = some (.int .i64 (Gm i 3)) := bx.cell 3
          have m4 : w0.cell? ⟨g, 4, none⟩ = some (.int .i64 (Gm i 4)) := bx.cell 4
          have m5 : w0.cell? ⟨g, 5, none⟩ = some (.int .i64 (Gm i 5)) := bx.cell 5
          have m6 : w0.cell? ⟨g, 6, none⟩ = some (.int .i64 (Gm i 6)) := bx.cell 6
          have m7 : w0.cell? ⟨g, 7, none⟩ = some (.int .i64 (Gm i 7)) := bx.cell 7
          have m8 : w0.cell? ⟨g, 8, none⟩ = some (.int .i64 (Gm i 8)) := bx.cell 8
          have m9 : w0.cell? ⟨g, 9, none⟩ = some (.int .i64 (Gm i 9)) := bx.cell 9
          have m10 : w0.cell? ⟨g, 10, none⟩ = some (.string (Tm i 10)) := bx.cell 10
          have m11 : w0.cell? ⟨g, 11, none⟩ = some (.string (Tm i 11)) := bx.cell 11
          have hL2 := hide hL
          by_cases h1 : Gm i 1 = 0
          · have d1 : (Gm i 1 == 0) = true := by simpa using h1
            have H1 := hide h1
            clear h1
            have Hrm := room_ok Gm Tm i w0
            unfold shA at Hrm
            have HRM := hide Hrm
            clear Hrm
            go_wp2_with fail
            refine HRM.out.mono ?_
            rintro e w4 ⟨rfl, hb4⟩
            have hbl4 := hbl1.trans (hb4.mono hbl1.size)
            have hown4 := map_below hown1 hb4
            have hrow4 := own_below hrow1 hb4
            have bx4 := bx.below hb4 bx.lt
            clear m0 m1 m2 m3 m4 m5 m6 m7 m8 m9 m10 m11 bx hbl1 hown1 hrow1 HRM hb4
            cases hrm : roomB (Tm i 10) with
            | false =>
              have Hrm := hide hrm
              clear hrm
              go_wp2_with fail
              go_roundw
              case rel => exact ⟨i + 1, D', by omega, by go_num, hide (by rw [Hno.out (fun h => by rw [Hrm.out] at h; simp at h)]; exact HS.out), hown4.mono (by omega), by rw [Hno.out (fun h => by rw [Hrm.out] at h; simp at h)]; exact hrow4, hbl4⟩
              case measure => simp [intOf]; omega
            | true =>
              have Hrm := hide hrm
              clear hrm
              have c10 : w4.cell? ⟨g, 10, none⟩ = some (.string (Tm i 10)) := bx4.cell 10
              have hkey : keyOf Try.prog 9 (.string (Tm i 10)) = some (.string (Tm i 10).data.toList) := keyOf_string_mk Try.underlying9 (Hlm.out i hlt)
              have hrun := HS.out.look hown4 lawS Try.underlying35 Try.underlying3 (zeroI w4) hkey
              cases hv : (u (Tm i 10) || memB L (Tm i 10)) with
              | true =>
                rw [hv] at hrun
                have Hv := hide hv
                clear hv
                go_wp2_with fail
                go_roundw
                case rel => exact ⟨i + 1, D', by omega, by go_num, hide (by rw [Hno.out (fun h => by rw [Hv.out] at h; simp at h)]; exact HS.out), hown4.mono (by omega), by rw [Hno.out (fun h => by rw [Hv.out] at h; simp at h)]; exact hrow4, hbl4⟩
                case measure => simp [intOf]; omega
              | false =>
                rw [hv] at hrun
                have Hv := hide hv
                clear hv
                go_upto_region 20 with (at_mapUpdate; refine wpList_mapUpdate_own _ rfl _ _ _ 35 rfl 9 3 lawS Try.underlying35 (plainElem (H := Unit) Try.prog 3) B (k + i) D' rfl hown4 (by unfold maxLen; omega) _ _ _ rfl rfl hkey _ [] (plainElem_int Try.underlying3 (by decide)) ?_; intro w5 hown5 hgrow5)
                have bx5 := blk_stored hown4 bx4 hgrow5
                have hrow5 := row_stored hown4 hrow4 hgrow5
                have hbl5 := below_stored hbl4 hbl4.size hB hgrow5
                clear hrun c10 bx4 hrow4 hbl4 hown4 hgrow5
                have c10 : w5.cell? ⟨g, 10, none⟩ = some (.string (Tm i 10)) := bx5.cell 10
                go_wp2_with (at_builtin; refine wpL_append rfl rfl Try.underlying23 str_info rfl (by decide) rfl rfl (hrow5.alloc _) (news_at _ _ _ _ (by simp)) rfl (by simp [Value.oneCell']) (by omega) (by omega) (by have := hbl5.size; simp; omega) ?_; intro v7 w7 hrow7 hgrow7)
                go_roundw
                case rel => exact ⟨i + 1, _, by omega, by go_num, hide (by rw [Hyes.out ⟨H1.out, Hrm.out, Hv.out⟩]; exact (HS.out.put (Tm i 10)).congr fun s => by rw [memB_snoc]; cases u s <;> cases memB L s <;> simp), (map_app (hown5.alloc _) (hrow5.alloc _) hgrow7).mono (by omega), by rw [Hyes.out ⟨H1.out, Hrm.out, Hv.out⟩]; simpa using hrow7, below_app (hbl5.alloc hbl5.size _) (by have := hbl5.size; simp; omega) (hrow5.alloc _) hgrow7⟩
                case measure => simp [intOf]; omega
          · have d1 : (Gm i 1 == 0) = false := by simpa using h1
            have H1 := hide h1
            clear h1
            go_wp2_with fail
            go_roundw
            case rel => exact ⟨i + 1, D', by omega, by go_num, hide (by rw [Hno.out (fun h => H1.out h.1)]; exact HS.out), hown1.mono (by omega), by rw [Hno.out (fun h => H1.out h.1)]; exact hrow1, hbl1⟩
            case measure => simp [intOf]; omega
        · obtain rfl : i = nm := by omega
          go_wp2_with fail
          generalize missL roomB u Gm Tm i = L at *
          go_ret2
          exact ⟨A5, c5, rfl, hrow, hbl⟩
end Go.Proofs.Ytnmikhmbnpiadaa.Shp
