/- The contract of breaks.Clusters and of the function that it hands back. -/
import Derived.RangeFuncNested
import Derived.RangeFuncBound
import Derived.RangeFuncCalls
import Derived.RangeFuncLeaves
import Derived.RangeFuncFrom
import Derived.Shelf.Abstract
import Derived.Shelf.RegionOpen
import Derived.WalkKit
import Derived.OwnWalkIn
import Derived.TacticsInMore
import Derived.LoopNIn
import Derived.LoopIn
import Derived.Test.YtdhhkcboejhoaaaDoorBreaksClusPlain
import Derived.Test.YtdhhkcboejhoaaaDoorMetric
namespace Go.Proofs.YtdhhkcboejhoaaaDoor.Bre
open Go.RowKit Go.Shelf Go.Frm Mtr
attribute [local go_sem] Oper.semAt_some

/-- the text that a function value holds in its box -/
def Txt (Bt : Nat) (A : Option Addr) (zs : List Int) (c : Nat) (W : World) : Prop := W.cell? ⟨Bt, 0, none⟩ = some (.slice A zs.length c) ∧ RdI W A zs ∧ TabM W
theorem RdI.kept {w w' : World} {A : Option Addr} {zs : List Int} (h : RdI w A zs) (hk : ∀ (p : Addr) (v : Value), w.cell? p = some v → w'.cell? p = some v) : RdI w' A zs := by
  rcases h with rfl | ⟨b, off, rfl, hc⟩
  · exact .inl rfl
  · exact .inr ⟨b, off, rfl, fun j hj => hk _ _ (hc j hj)⟩
theorem TabM.kept {w w' : World} (h : TabM w) (hk : ∀ (p : Addr) (v : Value), w.cell? p = some v → w'.cell? p = some v) : TabM w' := by
  obtain ⟨A, c, h1, h2⟩ := h.ex
  refine ⟨A, c, hk _ _ h1, ?_⟩
  rcases h2 with h2 | ⟨b, off, rfl, hc⟩
  · exact .inl h2
  · exact .inr ⟨b, off, rfl, fun i j hi hj => hk _ _ (hc i j hi hj)⟩
theorem Txt.kept {Bt : Nat} {A : Option Addr} {zs : List Int} {c : Nat} {W W' : World} (h : Txt Bt A zs c W) (hk : ∀ (p : Addr) (v : Value), W.cell? p = some v → W'.cell? p = some v) : Txt Bt A zs c W' := ⟨hk _ _ h.1, RdI.kept h.2.1 hk, TabM.kept h.2.2 hk⟩
theorem below_kept {W W' : World} (h : Below W.heap.size W W') : ∀ (p : Addr) (v : Value), W.cell? p = some v → W'.cell? p = some v := fun p v hp => by
  rw [h.cell (World.block_lt_of_cell? W p hp)]; exact hp
theorem below_grown {W W' : World} (h : Below W.heap.size W W') : W.grownBy W' none := ⟨h.os, h.tape, h.output, h.size, fun k hk _ => h.block k hk⟩
/-- what a round must keep -/
def KpT (Bt : Nat) (A : Option Addr) (zs : List Int) (c : Nat) (W W' : World) : Prop := Txt Bt A zs c W → Txt Bt A zs c W'
theorem kpT_t {Bt : Nat} {A : Option Addr} {zs : List Int} {c : Nat} {W1 W2 W3 : World} (h : KpT Bt A zs c W1 W2) (k : KpT Bt A zs c W2 W3) : KpT Bt A zs c W1 W3 := fun x => k (h x)
theorem kpT_b {Bt : Nat} {A : Option Addr} {zs : List Int} {c : Nat} (W : World) (l : Nat) (o o' : Obj) (h : W.heap[l]? = some o) (ho : o.isCells = false) : KpT Bt A zs c W (W.putObj l o') := fun x =>
  x.kept fun p v hp => cell_kept hp (grownBy_putObj' W l o') (fun r e => by cases e; exact ⟨o, h, ho⟩)

abbrev encP (x : Nat × Nat) : Array Value := #[.int .i64 (x.1 : Int), .int .i64 (x.2 : Int)]

set_option maxRecDepth 100000 in
set_option maxHeartbeats 4000000 in
theorem clusters_stops (Hcls : ∀ (c : Int) (w : World), TabM w → Calls Tryd.prog 27 #[.int .i64 c] w fun e w' => e = .returned (.int .i64 (cls c)) ∧ Below w.heap.size w w')
    (n : Nat) (Bt : Nat) (A : Option Addr) (zs : List Int) (c : Nat) (hN : zs.length ≤ 100000) (w : World) (hT : Txt Bt A zs c w) :
    SeqStopsK Fence.wide n Tryd.prog 34 #[.pointer (some ⟨Bt, 0, none⟩)] encP (KpT Bt A zs c) (fun xs => xs = clus (ix zs) zs.length zs.length) (fun pre => pre <+: clus (ix zs) zs.length zs.length) zs.length w := by
  intro l J Jx W hW hJ hJx hY h0
  have hTW := hT.kept (below_kept hW)
  clear hT hJx
  have HJ := hide hJ
  have HY := hide hY
  have Hc := hide Hcls
  clear hJ hY Hcls
  refine callsIn_of_wp Tryd.func34 rfl trivial ?_ rfl
  simp only [Tryd.ntmps34, List.size_toArray, List.length_cons, List.length_nil, Nat.reduceAdd, Nat.reduceSub, Array.replicate_succ, Array.replicate_zero, List.push_toArray, List.append_toArray, List.nil_append, List.cons_append]
  gi_wp2
  gi_loopw [3, 4] (fun p q wr => ∃ k : Nat, k ≤ zs.length ∧ q = .int .i64 ((k : Int) + 1) ∧ p = .int .i64 (frm (ix zs) zs.length k : Int) ∧ J (clus (ix zs) zs.length k) wr ∧ Txt Bt A zs c wr) (fun _ q => fun _ => zs.length + 2 - (intOf q).toNat)
  case atStart => exact ⟨0, by omega, rfl, rfl, h0, hTW⟩
  case round =>
    clear h0 hTW
    obtain ⟨k, hk, rfl, rfl, hJs, hTs⟩ := hrel
    have htx := hTs.1
    by_cases hkN : k < zs.length
    · have hlen : (clus (ix zs) zs.length k).length < zs.length := by have := clus_len (ix zs) zs.length k; omega
      obtain ⟨b, off, rfl, k0⟩ := hTs.2.1.at_ (show k < zs.length by omega)
      have s1 : IntKind.i64.wrap ((k : Int) + 1) = (k : Int) + 1 := IntWalk.i64_in _ (by omega)
      have s2 : IntKind.i64.wrap ((k : Int) + 1 - 1) = (k : Int) := by rw [show (k : Int) + 1 - 1 = k by omega]; exact IntWalk.i64_in _ (by omega)
      have s3 : ((k : Int) + 1).toNat = k + 1 := by omega
      have s4 : (0 : Int) ≤ (k : Int) + 1 := by omega
      by_cases hk1 : k + 1 < zs.length
      · obtain ⟨b', off', hA, k2⟩ := hTs.2.1.at_ (show k + 1 < zs.length by omega)
        injection hA with hA
        injection hA with hA1 hA2
        subst hA1 hA2
        have hbd : bnd (ix zs) zs.length (k + 1) = !((cls (ix zs (k + 1)) == 10 || ix zs k == 8205) && ix zs k != 10) := by
          unfold bnd
          rw [show (k + 1 == zs.length) = false by simpa using (by omega : k + 1 ≠ zs.length), Bool.false_or, Nat.add_sub_cancel]
        have Hcl := hide (Hc.out (ix zs (k + 1)) wr hTs.2.2)
        cases hm : (cls (ix zs (k + 1)) == 10) with
        | true =>
          cases hn : (ix zs k != 10) with
          | true =>
            have Hbd := hide (show bnd (ix zs) zs.length (k + 1) = false by rw [hbd, hm, hn]; rfl)
            clear hbd
            gi_wp2
            refine ⟨trivial, fun h => (by cases h), ?_⟩
            refine (callsIn_wide.2 Hcl.out).mono ?_
            rintro e w1 ⟨rfl, hb1⟩
            have hJ1 := HJ.out _ wr w1 none hJs (below_grown hb1) (fun r e => by cases e)
            have hT1 := hTs.kept (below_kept hb1)
            have htx1 := hT1.1
            have k1 := below_kept hb1 _ _ k0
            gi_wp2
            go_roundw
            case rel => exact ⟨k + 1, by omega, by go_num, by rw [(clus_no Hbd.out).2], by rw [(clus_no Hbd.out).1]; exact hJ1, hT1⟩
            case measure => simp [intOf]; omega
          | false =>
            have Hbd := hide (show bnd (ix zs) zs.length (k + 1) = true by rw [hbd, hm, hn]; rfl)
            clear hbd
            gi_wp2
            refine ⟨trivial, fun h => (by cases h), ?_⟩
            refine (callsIn_wide.2 Hcl.out).mono ?_
            rintro e w1 ⟨rfl, hb1⟩
            have hJ1 := HJ.out _ wr w1 none hJs (below_grown hb1) (fun r e => by cases e)
            have hT1 := hTs.kept (below_kept hb1)
            have htx1 := hT1.1
            have k1 := below_kept hb1 _ _ k0
            obtain ⟨fn, tmps, assign, body, hy0, hR⟩ := HY.out (clus (ix zs) zs.length k) (frm (ix zs) zs.length k, k + 1) w1 hJ1 hlen
            have hy : (Instr.yield l #[.int .i64 (frm (ix zs) zs.length k : Int), .int .i64 ((k : Int) + 1)]).run Tryd.prog w1 = .ok (.round l fn tmps assign body) w1 := hy0
            clear hy0
            gi_wp2
            refine ⟨fun h => (by cases h), ?_⟩
            refine hR.mono ?_
            rintro e W3 (⟨rfl, hJ3, hk3⟩ | ⟨rfl, hJx3⟩)
            · have hT3 := hk3 hT1
              gi_wp2
              go_roundw
              case rel => exact ⟨k + 1, by omega, by go_num, by rw [(clus_yes Hbd.out).2]; first | rfl | go_num, by rw [(clus_yes Hbd.out).1]; exact hJ3, hT3⟩
              case measure => simp [intOf]; omega
            · gi_wp2
              refine bodyPost_ret (results_none rfl _ _ _) rfl ?_
              refine ⟨⟨_, rfl⟩, .inr ⟨_, ?_, hJx3⟩⟩
              rw [← (clus_yes Hbd.out).1]
              have := clus_prefix (ix zs) zs.length (zs.length - (k + 1)) (k + 1)
              rwa [show k + 1 + (zs.length - (k + 1)) = zs.length by omega] at this
        | false =>
          cases hj : (ix zs k == 8205) with
          | true =>
            cases hn : (ix zs k != 10) with
            | true =>
              have Hbd := hide (show bnd (ix zs) zs.length (k + 1) = false by rw [hbd, hm, hj, hn]; rfl)
              clear hbd
              gi_wp2
              refine ⟨trivial, fun h => (by cases h), ?_⟩
              refine (callsIn_wide.2 Hcl.out).mono ?_
              rintro e w1 ⟨rfl, hb1⟩
              have hJ1 := HJ.out _ wr w1 none hJs (below_grown hb1) (fun r e => by cases e)
              have hT1 := hTs.kept (below_kept hb1)
              have htx1 := hT1.1
              have k1 := below_kept hb1 _ _ k0
              gi_wp2
              go_roundw
              case rel => exact ⟨k + 1, by omega, by go_num, by rw [(clus_no Hbd.out).2], by rw [(clus_no Hbd.out).1]; exact hJ1, hT1⟩
              case measure => simp [intOf]; omega
            | false =>
              have Hbd := hide (show bnd (ix zs) zs.length (k + 1) = true by rw [hbd, hm, hj, hn]; rfl)
              clear hbd
              gi_wp2
              refine ⟨trivial, fun h => (by cases h), ?_⟩
              refine (callsIn_wide.2 Hcl.out).mono ?_
              rintro e w1 ⟨rfl, hb1⟩
              have hJ1 := HJ.out _ wr w1 none hJs (below_grown hb1) (fun r e => by cases e)
              have hT1 := hTs.kept (below_kept hb1)
              have htx1 := hT1.1
              have k1 := below_kept hb1 _ _ k0
              obtain ⟨fn, tmps, assign, body, hy0, hR⟩ := HY.out (clus (ix zs) zs.length k) (frm (ix zs) zs.length k, k + 1) w1 hJ1 hlen
              have hy : (Instr.yield l #[.int .i64 (frm (ix zs) zs.length k : Int), .int .i64 ((k : Int) + 1)]).run Tryd.prog w1 = .ok (.round l fn tmps assign body) w1 := hy0
              clear hy0
              gi_wp2
              refine ⟨fun h => (by cases h), ?_⟩
              refine hR.mono ?_
              rintro e W3 (⟨rfl, hJ3, hk3⟩ | ⟨rfl, hJx3⟩)
              · have hT3 := hk3 hT1
                gi_wp2
                go_roundw
                case rel => exact ⟨k + 1, by omega, by go_num, by rw [(clus_yes Hbd.out).2]; first | rfl | go_num, by rw [(clus_yes Hbd.out).1]; exact hJ3, hT3⟩
                case measure => simp [intOf]; omega
              · gi_wp2
                refine bodyPost_ret (results_none rfl _ _ _) rfl ?_
                refine ⟨⟨_, rfl⟩, .inr ⟨_, ?_, hJx3⟩⟩
                rw [← (clus_yes Hbd.out).1]
                have := clus_prefix (ix zs) zs.length (zs.length - (k + 1)) (k + 1)
                rwa [show k + 1 + (zs.length - (k + 1)) = zs.length by omega] at this
          | false =>
            have Hbd := hide (show bnd (ix zs) zs.length (k + 1) = true by rw [hbd, hm, hj]; rfl)
            clear hbd
            gi_wp2
            refine ⟨trivial, fun h => (by cases h), ?_⟩
            refine (callsIn_wide.2 Hcl.out).mono ?_
            rintro e w1 ⟨rfl, hb1⟩
            have hJ1 := HJ.out _ wr w1 none hJs (below_grown hb1) (fun r e => by cases e)
            have hT1 := hTs.kept (below_kept hb1)
            have htx1 := hT1.1
            have k1 := below_kept hb1 _ _ k0
            obtain ⟨fn, tmps, assign, body, hy0, hR⟩ := HY.out (clus (ix zs) zs.length k) (frm (ix zs) zs.length k, k + 1) w1 hJ1 hlen
            have hy : (Instr.yield l #[.int .i64 (frm (ix zs) zs.length k : Int), .int .i64 ((k : Int) + 1)]).run Tryd.prog w1 = .ok (.round l fn tmps assign body) w1 := hy0
            clear hy0
            gi_wp2
            refine ⟨fun h => (by cases h), ?_⟩
            refine hR.mono ?_
            rintro e W3 (⟨rfl, hJ3, hk3⟩ | ⟨rfl, hJx3⟩)
            · have hT3 := hk3 hT1
              gi_wp2
              go_roundw
              case rel => exact ⟨k + 1, by omega, by go_num, by rw [(clus_yes Hbd.out).2]; first | rfl | go_num, by rw [(clus_yes Hbd.out).1]; exact hJ3, hT3⟩
              case measure => simp [intOf]; omega
            · gi_wp2
              refine bodyPost_ret (results_none rfl _ _ _) rfl ?_
              refine ⟨⟨_, rfl⟩, .inr ⟨_, ?_, hJx3⟩⟩
              rw [← (clus_yes Hbd.out).1]
              have := clus_prefix (ix zs) zs.length (zs.length - (k + 1)) (k + 1)
              rwa [show k + 1 + (zs.length - (k + 1)) = zs.length by omega] at this
      · have hkN1 : k + 1 = zs.length := by omega
        have Hbd := hide (show bnd (ix zs) zs.length (k + 1) = true by unfold bnd; rw [show (k + 1 == zs.length) = true by simpa using hkN1]; rfl)
        have d1 : decide ((k : Int) + 1 < (zs.length : Int)) = false := by simp; omega
        have hJ1 := hJs
        have hT1 := hTs
        obtain ⟨fn, tmps, assign, body, hy0, hR⟩ := HY.out (clus (ix zs) zs.length k) (frm (ix zs) zs.length k, k + 1) wr hJ1 hlen
        have hy : (Instr.yield l #[.int .i64 (frm (ix zs) zs.length k : Int), .int .i64 ((k : Int) + 1)]).run Tryd.prog wr = .ok (.round l fn tmps assign body) wr := hy0
        clear hy0
        gi_wp2
        refine ⟨trivial, ?_⟩
        gi_wp2
        refine ⟨fun h => (by cases h), ?_⟩
        refine hR.mono ?_
        rintro e W3 (⟨rfl, hJ3, hk3⟩ | ⟨rfl, hJx3⟩)
        · have hT3 := hk3 hT1
          gi_wp2
          go_roundw
          case rel => exact ⟨k + 1, by omega, by go_num, by rw [(clus_yes Hbd.out).2]; first | rfl | go_num, by rw [(clus_yes Hbd.out).1]; exact hJ3, hT3⟩
          case measure => simp [intOf]; omega
        · gi_wp2
          refine bodyPost_ret (results_none rfl _ _ _) rfl ?_
          refine ⟨⟨_, rfl⟩, .inr ⟨_, ?_, hJx3⟩⟩
          rw [← (clus_yes Hbd.out).1]
          have := clus_prefix (ix zs) zs.length (zs.length - (k + 1)) (k + 1)
          rwa [show k + 1 + (zs.length - (k + 1)) = zs.length by omega] at this
    · obtain hkz : k = zs.length := by omega
      subst hkz
      gi_wp2
      go_end0
      exact ⟨⟨_, rfl⟩, .inl ⟨_, rfl, hJs⟩⟩
end Go.Proofs.YtdhhkcboejhoaaaDoor.Bre
