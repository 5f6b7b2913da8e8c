/- The memory of (*para).explicit. -/
import Derived.Test.YtdikfldogmbeaaaDoorBdExPlain
import Derived.Test.YtdikfldogmbeaaaDoorBdOver
namespace Go.Proofs.YtdikfldogmbeaaaDoor.Bd
open Go.RowKit Go.Frm

theorem st_info : (Tryd.prog.info? 60).map (fun i => (i.zero, i.size, i.bytes)) = some (some (.agg #[.int .i64 0, .int .i64 0, .bool false]), 3, 24) := by kernel_rfl
/-- the cells of the stack -/
def stV (sl so : Nat → Int) (si : Nat → Bool) (i j : Nat) : Value := if j = 0 then .int .i64 (sl i) else if j = 1 then .int .i64 (so i) else .bool (si i)
theorem stV_push (sl so : Nat → Int) (si : Nat → Bool) (m : Nat) (a b : Int) (c : Bool) : rowF (m + 1) 3 (stV (upd sl m a) (upd so m b) (upd si m c)) = rowF m 3 (stV sl so si) ++ [.int .i64 a, .int .i64 b, .bool c] := by
  rw [rowF_succ, rowF_congr (f := stV (upd sl m a) (upd so m b) (upd si m c)) (g := stV sl so si) (fun i j hi _ => by unfold stV; rw [upd_other _ _ (by omega), upd_other _ _ (by omega), upd_other _ _ (by omega)])]
  congr 1
  simp [stV, upd_same, List.range_succ]
theorem own_takeF {w : World} {base n c size : Nat} {e : TypeId} {A : Option Addr} {f : Nat → Nat → Value} (h : w.ownsRow base e size (.slice A n c) n (rowF n size f)) {k : Nat} (hk : k ≤ n) : w.ownsRow base e size (.slice A k c) k (rowF k size f) := by
  have hlen : ∀ k n : Nat, k ≤ n → (rowF n size f).take (k * size) = rowF k size f := by
    intro k n hkn
    induction n with
    | zero => obtain rfl : k = 0 := by omega
              simp [rowF]
    | succ n ih =>
      by_cases hkn2 : k = n + 1
      · subst hkn2
        rw [List.take_of_length_le (by rw [rowF_length]; omega)]
      · rw [rowF_succ, List.take_append_of_le_length (by rw [rowF_length]; exact Nat.mul_le_mul_right _ (by omega))]
        exact ih (by omega)
  refine ⟨rowF_length _ _ _, ?_⟩
  rcases h.2 with ⟨h1, h2⟩ | ⟨g, cap, cur, h1, h2, h3, h4, h5, h6, h7⟩
  · left
    cases h1
    obtain rfl : k = 0 := by omega
    exact ⟨rfl, rfl⟩
  · right
    injection h1 with h8 _ h9
    subst h8 h9
    refine ⟨g, c, cur, rfl, h2, h3, by omega, h5, h6, ?_⟩
    have h10 := congrArg (List.take (k * size)) h7
    rw [List.take_take, Nat.min_eq_left (Nat.mul_le_mul_right _ hk), hlen k n hk] at h10
    exact h10

/-- a slice's length -/
def slLen : Value → Nat
  | .slice _ n _ => n
  | _ => 0

structure ES (w0 wr : World) (G : Nat) (At : Option Addr) (ct n gc gl : Nat) (base : Int) (go : Nat) (mt : Value) (e : Ex) (v : Value) : Prop where
  pa : Blk wr G 44 (paC At ct n gc gl base go mt)
  cl : BI wr gc n e.C
  lv : BI wr gl n e.L
  ou : BB wr go n e.O
  st : wr.ownsRow w0.heap.size 60 3 v e.m (rowF e.m 3 (stV e.sl e.so e.si))
  chg : Chg (Is3 gc gl go) w0 wr
  low : gc < w0.heap.size ∧ gl < w0.heap.size ∧ go < w0.heap.size ∧ G < w0.heap.size
  ne : gc ≠ gl
section
variable {w0 wr : World} {G : Nat} {At : Option Addr} {ct n gc gl : Nat} {base : Int} {go : Nat} {mt : Value} {e : Ex} {v : Value}
theorem ES.drewN (h : ES w0 wr G At ct n gc gl base go mt e v) (m : Nat) : ES w0 (wr.drewN m) G At ct n gc gl base go mt e v :=
  ⟨h.pa, h.cl, h.lv, h.ou, h.st, h.chg.drewN m, h.low, h.ne⟩
theorem ES.alloc (h : ES w0 wr G At ct n gc gl base go mt e v) (o : Obj) : ES w0 (wr.alloc o) G At ct n gc gl base go mt e v :=
  ⟨h.pa.alloc o, h.cl.blk.alloc o, h.lv.blk.alloc o, h.ou.blk.alloc o, h.st.alloc o, h.chg.alloc o, h.low, h.ne⟩
theorem ES.gOut (h : ES w0 wr G At ct n gc gl base go mt e v) : G ≠ gc ∧ G ≠ gl ∧ G ≠ go ∧ go ≠ gc ∧ go ≠ gl :=
  ⟨blk_ne_type h.pa h.cl (by decide), blk_ne_type h.pa h.lv (by decide), blk_ne_type h.pa h.ou (by decide), blk_ne_type h.ou h.cl (by decide), blk_ne_type h.ou h.lv (by decide)⟩
theorem ES.setL (h : ES w0 wr G At ct n gc gl base go mt e v) (i : Nat) (x : Int) : ES w0 (wr.setCell ⟨gl, i, none⟩ (.int .i64 x)) G At ct n gc gl base go mt { e with L := upd e.L i x } v :=
  ⟨h.pa.far (p := ⟨gl, i, none⟩) h.gOut.2.1 _, h.cl.blk.far (p := ⟨gl, i, none⟩) h.ne _, h.lv.set i x, h.ou.blk.far (p := ⟨gl, i, none⟩) h.gOut.2.2.2.2 _, own_setCell_low h.st (a := ⟨gl, i, none⟩) h.low.2.1 _,
    h.chg.setCell (p := ⟨gl, i, none⟩) (.inl (.inr (.inl rfl))) _, h.low, h.ne⟩
theorem ES.setO (h : ES w0 wr G At ct n gc gl base go mt e v) (i : Nat) (x : Bool) : ES w0 (wr.setCell ⟨go, i, none⟩ (.bool x)) G At ct n gc gl base go mt { e with O := upd e.O i x } v :=
  ⟨h.pa.far (p := ⟨go, i, none⟩) h.gOut.2.2.1 _, h.cl.blk.far (p := ⟨go, i, none⟩) (fun q => h.gOut.2.2.2.1 q.symm) _, h.lv.blk.far (p := ⟨go, i, none⟩) (fun q => h.gOut.2.2.2.2 q.symm) _, h.ou.set i x, own_setCell_low h.st (a := ⟨go, i, none⟩) h.low.2.2.1 _,
    h.chg.setCell (p := ⟨go, i, none⟩) (.inl (.inr (.inr rfl))) _, h.low, h.ne⟩
/-- behind an override -/
theorem ES.over (h : ES w0 wr G At ct n gc gl base go mt e v) {w' : World} {C' : Nat → Int} (hc : BI w' gc n C') (hg : Chg (Is gc) wr w') : ES w0 w' G At ct n gc gl base go mt { e with C := C' } v :=
  ⟨blk_chg h.pa hg h.gOut.1, hc, h.lv.chg hg (fun q => h.ne q.symm), h.ou.chg hg h.gOut.2.2.2.1, own_chg h.st hg (fun k hk => by have : k = gc := hk; have := h.low.1; omega), h.chg.trans (hg.mono fun k hk => .inl hk), h.low, h.ne⟩
/-- a store outside -/
theorem ES.far (h : ES w0 wr G At ct n gc gl base go mt e v) {p : Addr} (hp : w0.heap.size ≤ p.block) (hs : some p.block ≠ v.ownBlock) (u : Value) : ES w0 (wr.setCell p u) G At ct n gc gl base go mt e v := by
  obtain ⟨l1, l2, l3, l4⟩ := h.low
  refine ⟨h.pa.far (by omega) u, h.cl.blk.far (by omega) u, h.lv.blk.far (by omega) u, h.ou.blk.far (by omega) u, ?_, h.chg.setCell (.inr hp) u, h.low, h.ne⟩
  refine ⟨h.st.1, ?_⟩
  rcases h.st.2 with h2 | ⟨g1, cap, cur, h1, h2, h3, h4⟩
  · exact .inl h2
  · refine .inr ⟨g1, cap, cur, h1, h2, (Below.heap_setCell wr p u g1 ?_).trans h3, h4⟩
    intro q
    rw [h1] at hs
    exact hs (by rw [q]; rfl)
/-- other fields of the state -/
theorem ES.to (h : ES w0 wr G At ct n gc gl base go mt e v) {e' : Ex} (h1 : e'.L = e.L) (h2 : e'.O = e.O) (h3 : e'.C = e.C) (h4 : e'.sl = e.sl) (h5 : e'.so = e.so) (h6 : e'.si = e.si) (h7 : e'.m = e.m) : ES w0 wr G At ct n gc gl base go mt e' v :=
  ⟨h.pa, by rw [h3]; exact h.cl, by rw [h1]; exact h.lv, by rw [h2]; exact h.ou, by rw [h4, h5, h6, h7]; exact h.st, h.chg, h.low, h.ne⟩
/-- behind an append -/
theorem ES.grown (h : ES w0 wr G At ct n gc gl base go mt e v) {w' : World} {e' : Ex} {v' : Value} (hg : wr.grownBy w' v.ownBlock) (ho : w'.ownsRow w0.heap.size 60 3 v' e'.m (rowF e'.m 3 (stV e'.sl e'.so e'.si)))
    (h1 : e'.L = e.L) (h2 : e'.O = e.O) (h3 : e'.C = e.C) : ES w0 w' G At ct n gc gl base go mt e' v' := by
  obtain ⟨l1, l2, l3, l4⟩ := h.low
  exact ⟨h.pa.app h.st l4 hg, by rw [h3]; exact h.cl.blk.app h.st l1 hg, by rw [h1]; exact h.lv.blk.app h.st l2 hg, by rw [h2]; exact h.ou.blk.app h.st l3 hg, ho, h.chg.grown hg (fun k hk => .inr (h.st.lt k hk).1), h.low, h.ne⟩
/-- something is taken off -/
theorem ES.take {A : Option Addr} {m c : Nat} (h : ES w0 wr G At ct n gc gl base go mt e (.slice A m c)) (hm : e.m = m) {k : Nat} (hk : k ≤ m) : ES w0 wr G At ct n gc gl base go mt { e with m := k } (.slice A k c) := by
  subst hm
  exact ⟨h.pa, h.cl, h.lv, h.ou, own_takeF h.st hk, h.chg, h.low, h.ne⟩
/-- the stack as a row -/
theorem ES.row {A : Option Addr} {m c : Nat} (h : ES w0 wr G At ct n gc gl base go mt e (.slice A m c)) (hm : m = e.m) : wr.ownsRow w0.heap.size 60 3 (.slice A m c) m (rowF m 3 (stV e.sl e.so e.si)) := by
  subst hm
  exact h.st
/-- behind an append of an entry -/
theorem ES.pushed {A : Option Addr} {m c : Nat} (h : ES w0 wr G At ct n gc gl base go mt e (.slice A m c)) (hm : m = e.m) {w' : World} {e' : Ex} {v' : Value} {x y : Int} {b : Bool} (hg : wr.grownBy w' (Value.slice A m c).ownBlock)
    (ho : w'.ownsRow w0.heap.size 60 3 v' (m + 1) (rowF m 3 (stV e.sl e.so e.si) ++ [.int .i64 x, .int .i64 y, .bool b])) (h1 : e'.L = e.L) (h2 : e'.O = e.O) (h3 : e'.C = e.C)
    (h4 : e'.sl = upd e.sl e.m x) (h5 : e'.so = upd e.so e.m y) (h6 : e'.si = upd e.si e.m b) (h7 : e'.m = e.m + 1) : ES w0 w' G At ct n gc gl base go mt e' v' := by
  subst hm
  refine h.grown hg ?_ h1 h2 h3
  rw [h4, h5, h6, h7, stV_push]
  exact ho
/-- the cells of an entry of the stack -/
theorem ES.ent {g m c : Nat} (h : ES w0 wr G At ct n gc gl base go mt e (.slice (some ⟨g, 0, none⟩) m c)) (hm : e.m = m) {j : Nat} (hj : j < m) :
    wr.cell? ⟨g, j * 3, none⟩ = some (.int .i64 (e.sl j)) ∧ wr.cell? ⟨g, j * 3 + 1, none⟩ = some (.int .i64 (e.so j)) ∧ wr.cell? ⟨g, j * 3 + 2, none⟩ = some (.bool (e.si j)) := by
  subst hm
  exact ⟨own_cellF h.st hj (j := 0) (by omega), own_cellF h.st hj (j := 1) (by omega), own_cellF h.st hj (j := 2) (by omega)⟩
theorem ES.c1 (h : ES w0 wr G At ct n gc gl base go mt e v) : wr.cell? ⟨G, 1, none⟩ = some (.slice (some ⟨gc, 0, none⟩) n n) := h.pa.cell 1
theorem ES.c2 (h : ES w0 wr G At ct n gc gl base go mt e v) : wr.cell? ⟨G, 2, none⟩ = some (.slice (some ⟨gl, 0, none⟩) n n) := h.pa.cell 2
theorem ES.c3 (h : ES w0 wr G At ct n gc gl base go mt e v) : wr.cell? ⟨G, 3, none⟩ = some (.int .i64 base) := h.pa.cell 3
theorem ES.c4 (h : ES w0 wr G At ct n gc gl base go mt e v) : wr.cell? ⟨G, 4, none⟩ = some (.slice (some ⟨go, 0, none⟩) n n) := h.pa.cell 4
end
end Go.Proofs.YtdikfldogmbeaaaDoor.Bd
