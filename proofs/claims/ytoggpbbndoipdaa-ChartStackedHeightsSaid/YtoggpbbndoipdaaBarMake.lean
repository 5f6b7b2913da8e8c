/- Contracts of the methods of chart.maker: y, zero, bar. -/
import Derived.Test.YtoggpbbndoipdaaBarPlain
import Derived.Test.YtoggpbbndoipdaaChart
import Derived.Test.YtoggpbbndoipdaaScaleFind
namespace Go.Proofs.Ytoggpbbndoipdaa.Chr
open Go.RowKit Go.Frm Scl

def mkC (kind : Int) (An As : Option Addr) (n cn m cs : Nat) (lo hi st high : Int) (out : Value) : Array Value := #[.int .i64 kind, .slice An n cn, .slice As m cs, .int .i64 lo, .int .i64 hi, .int .i64 st, .int .i64 high, out]

set_option maxRecDepth 100000 in
set_option maxHeartbeats 2000000 in
theorem y_ok (M : Nat) (kind : Int) (An As : Option Addr) (n cn m cs : Nat) (lo hi st high v : Int) (out : Value) (w : World) (hb : Blk w M 56 (mkC kind An As n cn m cs lo hi st high out)) (hsc : Sc lo hi st) (h0 : 0 ≤ high) (h1 : high ≤ 100000) (v0 : lo ≤ v) (v1 : v ≤ hi) :
    Calls Try.prog 19 #[.pointer (some ⟨M, 0, none⟩), .int .i64 v] w fun e w' => e = .returned (.int .i64 (high - plc lo hi high v)) ∧ Below w.heap.size w w' := by
  have hq := plc_bd (high := high) hsc.lt h0 v0 v1
  have Hsc := hide hsc
  clear hsc
  have c3 : w.cell? ⟨M, 3, none⟩ = some (.int .i64 lo) := hb.cell 3
  have c4 : w.cell? ⟨M, 4, none⟩ = some (.int .i64 hi) := hb.cell 4
  have c5 : w.cell? ⟨M, 5, none⟩ = some (.int .i64 st) := hb.cell 5
  have c6 : w.cell? ⟨M, 6, none⟩ = some (.int .i64 high) := hb.cell 6
  have hpl := fun wx => place_ok lo hi st v high wx Hsc.out h0 h1 v0 v1
  have hbl := hb.lt
  change 0 ≤ (2 * (v - lo) * high + (hi - lo)) / (2 * (hi - lo)) ∧ (2 * (v - lo) * high + (hi - lo)) / (2 * (hi - lo)) ≤ high at hq
  have hpe : plc lo hi high v = (2 * (v - lo) * high + (hi - lo)) / (2 * (hi - lo)) := rfl
  generalize (2 * (v - lo) * high + (hi - lo)) / (2 * (hi - lo)) = q at *
  have Hpl := hide hpl
  have Hpe := hide hpe
  clear hpl hpe
  go_enter Try.func19, Try.ntmps19
  go_wp2_with fail
  go_region_held3 (fun w' => w'.cell? ⟨M, 3, none⟩ = some (.int .i64 lo) ∧ w'.cell? ⟨M, 4, none⟩ = some (.int .i64 hi) ∧ w'.cell? ⟨M, 5, none⟩ = some (.int .i64 st) ∧ w'.cell? ⟨M, 6, none⟩ = some (.int .i64 high))
    (first
      | go_keep
      | (go_split_ands
         refine ⟨?_, ?_, ?_, ?_⟩ <;> (rw [hbel8.cell (by simpa using hbl)]; assumption)))
    ((go_at_call 11; refine (Hpl.out _).mono ?_; rintro e w8 ⟨rfl, hbel8⟩))
  have c6' : w8.cell? ⟨M, 6, none⟩ = some (.int .i64 high) := by rw [hbel8.cell (by simpa using hbl)]; exact c6
  go_wp2_with fail
  go_ret
  exact ⟨ret_int (by rw [Hpe.out]), (Below.refl _ _).drew.trans hbel8⟩

set_option maxRecDepth 100000 in
set_option maxHeartbeats 2000000 in
theorem zero_ok (M : Nat) (kind : Int) (An As : Option Addr) (n cn m cs : Nat) (lo hi st high : Int) (out : Value) (w : World) (hb : Blk w M 56 (mkC kind An As n cn m cs lo hi st high out)) (hsc : lo < hi) :
    Calls Try.prog 21 #[.pointer (some ⟨M, 0, none⟩)] w fun e w' => e = .returned (.int .i64 (zer lo hi)) ∧ ∃ d, w' = w.drewN d := by
  have c3 : w.cell? ⟨M, 3, none⟩ = some (.int .i64 lo) := hb.cell 3
  have c4 : w.cell? ⟨M, 4, none⟩ = some (.int .i64 hi) := hb.cell 4
  have hz : zer lo hi = min (max 0 lo) hi := rfl
  have Hz := hide hz
  clear hz
  rcases Int.lt_trichotomy 0 lo with ha | ha | ha <;> rcases Int.lt_trichotomy 0 hi with hb | hb | hb
  all_goals first
    | (exfalso; omega)
    | (try subst ha
       try subst hb
       go_enter Try.func21, Try.ntmps21
       go_wp2_with fail
       go_region
       go_wp2_with fail
       go_ret
       exact ⟨ret_int (by rw [Hz.out]; omega), 1, rfl⟩)
end Go.Proofs.Ytoggpbbndoipdaa.Chr
