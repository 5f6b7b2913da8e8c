/- The contract of chancerykeep3.bars: a valid chart is made. -/
import Derived.Test.YtoggpbbndoipdaaChart
import Derived.Test.YtoggpbbndoipdaaWithin
import Derived.Deep.CutBlock
namespace Go.Proofs.Ytoggpbbndoipdaa.Chr
open Go.RowKit Go.Frm Wi

theorem str_info : (Try.prog.info? 9).map (fun i => (i.zero, i.size, i.bytes)) = some (some (.string ByteArray.empty), 1, 16) := by kernel_rfl
theorem ints_info : (Try.prog.info? 42).map (fun i => (i.zero, i.size, i.bytes)) = some (some (.slice none 0 0), 1, 24) := by kernel_rfl

/-- the values that a chart of a kind takes -/
def lowOf (kind : Int) : Int := if kind = 0 ∨ kind = 2 then -1000 else 0
/-- what has been made of the series -/
structure Rows_ (w : World) (B : Nat) (v : Value) (n k : Nat) (low : Int) : Prop where
  ex : ∃ (Af : Nat → Option Addr) (cf : Nat → Nat) (R : Nat → Nat → Int), w.ownsRow (B + 3) 42 1 v k (tabV k (fun i => .slice (Af i) n (cf i))) ∧
    ∀ i, i < k → w.ownsRow (B + 3) 3 1 (.slice (Af i) n (cf i)) n (tabV n (fun j => .int .i64 (R i j))) ∧ ∀ j, j < n → low ≤ R i j ∧ R i j ≤ 1000

theorem rows_push {wr w3 : World} {B n k c2 : Nat} {A2 : Option Addr} {Af : Nat → Option Addr} {cf : Nat → Nat} {RR : Nat → Nat → Int} {R : Nat → Int} {v v3 : Value} {low : Int}
    (hO : wr.ownsRow (B + 3) 42 1 v k (tabV k (fun i => .slice (Af i) n (cf i))))
    (hI : ∀ i, i < k → wr.ownsRow (B + 3) 3 1 (.slice (Af i) n (cf i)) n (tabV n (fun j => .int .i64 (RR i j))) ∧ ∀ j, j < n → low ≤ RR i j ∧ RR i j ≤ 1000)
    (hnew : wr.ownsRow (B + 3) 3 1 (.slice A2 n c2) n (tabV n (fun j => .int .i64 (R j)))) (hR : ∀ j, j < n → low ≤ R j ∧ R j ≤ 1000)
    (h3 : w3.ownsRow (B + 3) 42 1 v3 (k + 1) (tabV k (fun i => .slice (Af i) n (cf i)) ++ [.slice A2 n c2])) (hg : wr.grownBy w3 v.ownBlock) (u : Value) :
    Rows_ (w3.setCell ⟨B + 1 + 1, 2, none⟩ u) B v3 n (k + 1) low := by
  have hlow : (⟨B + 1 + 1, 2, none⟩ : Addr).block < B + 3 := by show B + 1 + 1 < B + 3; omega
  refine ⟨upd Af k A2, upd cf k c2, upd RR k R, ?_, fun i hi => ?_⟩
  · have e : tabV (k + 1) (fun i => Value.slice (upd Af k A2 i) n (upd cf k c2 i)) = tabV k (fun i => .slice (Af i) n (cf i)) ++ [.slice A2 n c2] := by
      rw [tabV_succ]
      congr 1
      · exact tabV_congr fun i hi => by rw [upd_other _ _ (by omega), upd_other _ _ (by omega)]
      · rw [upd_same, upd_same]
    rw [e]
    exact own_setCell_low h3 hlow u
  · by_cases hik : i = k
    · subst hik
      rw [upd_same, upd_same, upd_same]
      exact ⟨own_setCell_low (hnew.kept hg (own_ne hnew hO (by decide))) hlow u, hR⟩
    · rw [upd_other _ _ hik, upd_other _ _ hik, upd_other _ _ hik]
      obtain ⟨h1, h2⟩ := hI i (by omega)
      exact ⟨own_setCell_low (h1.kept hg (own_ne h1 hO (by decide))) hlow u, h2⟩

theorem rows_low {w : World} {B n k : Nat} {v : Value} {low : Int} (h : Rows_ w B v n k low) {a : Addr} (ha : a.block < B + 3) (u : Value) : Rows_ (w.setCell a u) B v n k low := by
  obtain ⟨Af, cf, R, h1, h2⟩ := h.ex
  exact ⟨Af, cf, R, own_setCell_low h1 ha u, fun i hi => ⟨own_setCell_low (h2 i hi).1 ha u, (h2 i hi).2⟩⟩
theorem rows_one {w : World} {B n m c : Nat} {A : Option Addr} {low : Int} (h : Rows_ w B (.slice A m c) n m low) (hm : 1 ≤ m) : Rows_ w B (.slice A 1 c) n 1 low := by
  obtain ⟨Af, cf, R, h1, h2⟩ := h.ex
  exact ⟨Af, cf, R, own_take h1 hm, fun i hi => h2 i (by omega)⟩
theorem rows_cap {w : World} {B n m c : Nat} {A : Option Addr} {low : Int} (h : Rows_ w B (.slice A m c) n m low) : m ≤ c ∧ c ≤ 9223372036854775807 := by
  obtain ⟨Af, cf, R, h1, h2⟩ := h.ex
  exact own_cap h1
/-- a chart is there -/
def BarsPost (w : World) (kind : Int) (e : Ending) (w' : World) : Prop := ∃ (An As : Option Addr) (n cn m cs : Nat) (rows : Nat → List Int),
  e = .returned (.agg #[.int .i64 kind, .slice An n cn, .slice As m cs]) ∧ 1 ≤ n ∧ n ≤ 6 ∧ 1 ≤ m ∧ m ≤ 4 ∧ (kind = 3 → m = 1) ∧ (∀ wx, AboveEq w.heap.size w' wx → RdM wx As m rows) ∧
  (∀ i, i < m → (rows i).length = n ∧ ∀ j, j < n → lowOf kind ≤ ix (rows i) j ∧ ix (rows i) j ≤ 1000) ∧ Below w.heap.size w w'
theorem bars_post {w w' : World} {B n m c cn : Nat} {A An : Option Addr} {kind : Int} (h : Rows_ w' B (.slice A m c) n m (lowOf kind)) (n0 : 1 ≤ n) (n1 : n ≤ 6) (m0 : 1 ≤ m) (m1 : m ≤ 4) (hk : kind = 3 → m = 1) (hB : w.heap.size ≤ B + 3) (hb : Below w.heap.size w w') :
    BarsPost w kind (.returned (.agg #[.int .i64 kind, .slice An n cn, .slice A m c])) w' := by
  obtain ⟨Af, cf, R, h1, h2⟩ := h.ex
  exact ⟨An, A, n, cn, m, c, fun i => tab n (R i), rfl, n0, n1, m0, m1, hk, fun wx ha => RdM.of_own (own_above h1 hB ha) (fun i hi => own_above (h2 i hi).1 hB ha), fun i hi => ⟨tab_length _ _, fun j hj => by rw [tab_ix _ hj]; exact (h2 i hi).2 j hj⟩, hb⟩

/-- the state in which bars works: blocks up to B+1 are as they were, block B+2 is the chart that is made -/
structure St (w0 : World) (B : Nat) (kind : Int) (v1 v2 : Value) (wr : World) : Prop where
  bel : Below (B + 1 + 1) w0 wr
  blk : Blk wr (B + 1 + 1) 25 #[.int .i64 kind, v1, v2]
theorem St.alloc {w0 : World} {B : Nat} {kind : Int} {v1 v2 : Value} {wr : World} (h : St w0 B kind v1 v2 wr) (o : Obj) : St w0 B kind v1 v2 (wr.alloc o) :=
  ⟨h.bel.alloc (by have := h.blk.lt; omega) o, h.blk.alloc o⟩
theorem St.app {w0 : World} {B : Nat} {kind : Int} {v1 v2 : Value} {wr w' : World} {e : TypeId} {size n : Nat} {v : Value} {xs : List Value} (h : St w0 B kind v1 v2 wr) (hown : wr.ownsRow (B + 3) e size v n xs) (hg : wr.grownBy w' v.ownBlock) : St w0 B kind v1 v2 w' :=
  ⟨h.bel.grown hg (by have := h.blk.lt; omega) (fun k hk => by have := (hown.lt k hk).1; omega), h.blk.app hown (by omega) hg⟩
theorem St.later {w0 : World} {B : Nat} {kind : Int} {v1 v2 : Value} {wr w' : World} (h : St w0 B kind v1 v2 wr) (hb : Below wr.heap.size wr w') : St w0 B kind v1 v2 w' :=
  ⟨h.bel.trans (hb.mono (by have := h.blk.lt; omega)), h.blk.below hb h.blk.lt⟩
theorem St.set1 {w0 : World} {B : Nat} {kind : Int} {v1 v2 : Value} {wr : World} (h : St w0 B kind v1 v2 wr) (u : Value) : St w0 B kind u v2 (wr.setCell ⟨B + 1 + 1, 1, none⟩ u) :=
  ⟨h.bel.setCell (Nat.le_refl _) u, h.blk.set_ 1 u⟩
theorem St.set2 {w0 : World} {B : Nat} {kind : Int} {v1 v2 : Value} {wr : World} (h : St w0 B kind v1 v2 wr) (u : Value) : St w0 B kind v1 u (wr.setCell ⟨B + 1 + 1, 2, none⟩ u) :=
  ⟨h.bel.setCell (Nat.le_refl _) u, h.blk.set_ 2 u⟩
theorem St.c0 {w0 : World} {B : Nat} {kind : Int} {v1 v2 : Value} {wr : World} (h : St w0 B kind v1 v2 wr) : wr.cell? ⟨B + 1 + 1, 0, none⟩ = some (.int .i64 kind) := h.blk.cell 0
theorem St.c1 {w0 : World} {B : Nat} {kind : Int} {v1 v2 : Value} {wr : World} (h : St w0 B kind v1 v2 wr) : wr.cell? ⟨B + 1 + 1, 1, none⟩ = some v1 := h.blk.cell 1
theorem St.c2 {w0 : World} {B : Nat} {kind : Int} {v1 v2 : Value} {wr : World} (h : St w0 B kind v1 v2 wr) : wr.cell? ⟨B + 1 + 1, 2, none⟩ = some v2 := h.blk.cell 2
theorem St.z {w0 : World} {B : Nat} {kind : Int} {v1 v2 : Value} {wr : World} (h : St w0 B kind v1 v2 wr) (i : Nat) : wr.frozen? ⟨B + 1 + 1, i, none⟩ = false := h.blk.frozen i

set_option maxRecDepth 100000 in
set_option maxHeartbeats 4000000 in
theorem bars_ok (k0 kind : Int) (Aa As : Option Addr) (na ca ms cs : Nat) (rows : Nat → List Int) (w : World) (hr : RdM w As ms rows) (hna : na ≤ 9223372036854775807) (hms : ms ≤ 9223372036854775807)
    (hlen : ∀ i, i < ms → (rows i).length ≤ 9223372036854775807) (hwf : ∀ i j, i < ms → j < (rows i).length → (Lit.int .i64 (ix (rows i) j)).wf = true) (q0 : 0 ≤ kind) (q1 : kind ≤ 3) :
    Calls Try.prog 6 #[.agg #[.int .i64 k0, .slice Aa na ca, .slice As ms cs], .int .i64 kind] w (BarsPost w kind) := by
  have Hlen := hide hlen
  have Hwf := hide hwf
  clear hlen hwf
  go_enter Try.func6, Try.ntmps6
  go_upto_block 0 with fail
  have hb0 : Blk (w.alloc (.cells #[.int .i64 k0, .slice Aa na ca, .slice As ms cs] 25)) w.heap.size 25 #[.int .i64 k0, .slice Aa na ca, .slice As ms cs] := Blk.new _ _ _
  have hb1 : Blk ((w.alloc (.cells #[.int .i64 k0, .slice Aa na ca, .slice As ms cs] 25)).alloc (.cells #[.int .i64 0, .slice none 0 0, .slice none 0 0] 25)) (w.heap.size + 1) 25 #[.int .i64 0, .slice none 0 0, .slice none 0 0] := by
    have := Blk.new (w.alloc (.cells #[.int .i64 k0, .slice Aa na ca, .slice As ms cs] 25)) 25 #[.int .i64 0, .slice none 0 0, .slice none 0 0]
    simpa using this
  have hb2 : Blk (((w.alloc (.cells #[.int .i64 k0, .slice Aa na ca, .slice As ms cs] 25)).alloc (.cells #[.int .i64 0, .slice none 0 0, .slice none 0 0] 25)).alloc (.cells #[.int .i64 kind, .slice none 0 0, .slice none 0 0] 25)) (w.heap.size + 1 + 1) 25 #[.int .i64 kind, .slice none 0 0, .slice none 0 0] := by
    have := Blk.new ((w.alloc (.cells #[.int .i64 k0, .slice Aa na ca, .slice As ms cs] 25)).alloc (.cells #[.int .i64 0, .slice none 0 0, .slice none 0 0] 25)) 25 #[.int .i64 kind, .slice none 0 0, .slice none 0 0]
    simpa using this
  have hb0 := (hb0.alloc (.cells #[.int .i64 0, .slice none 0 0, .slice none 0 0] 25)).alloc (.cells #[.int .i64 kind, .slice none 0 0, .slice none 0 0] 25)
  have hb1 := hb1.alloc (.cells #[.int .i64 kind, .slice none 0 0, .slice none 0 0] 25)
  have hr0 := ((hr.alloc (.cells #[.int .i64 k0, .slice Aa na ca, .slice As ms cs] 25)).alloc (.cells #[.int .i64 0, .slice none 0 0, .slice none 0 0] 25)).alloc (.cells #[.int .i64 kind, .slice none 0 0, .slice none 0 0] 25)
  have hbw : Below w.heap.size w (((w.alloc (.cells #[.int .i64 k0, .slice Aa na ca, .slice As ms cs] 25)).alloc (.cells #[.int .i64 0, .slice none 0 0, .slice none 0 0] 25)).alloc (.cells #[.int .i64 kind, .slice none 0 0, .slice none 0 0] 25)) :=
    (((Below.refl _ _).alloc (Nat.le_refl _) _).alloc (by simp) _).alloc (by simp; omega) _
  have hszw : (((w.alloc (.cells #[.int .i64 k0, .slice Aa na ca, .slice As ms cs] 25)).alloc (.cells #[.int .i64 0, .slice none 0 0, .slice none 0 0] 25)).alloc (.cells #[.int .i64 kind, .slice none 0 0, .slice none 0 0] 25)).heap.size = w.heap.size + 3 := by simp
  generalize ((w.alloc (.cells #[.int .i64 k0, .slice Aa na ca, .slice As ms cs] 25)).alloc (.cells #[.int .i64 0, .slice none 0 0, .slice none 0 0] 25)).alloc (.cells #[.int .i64 kind, .slice none 0 0, .slice none 0 0] 25) = w0 at *
  generalize hB : w.heap.size = B at *
  have HB := hide hB
  clear hB
  have hrw : ∀ wx : World, Below (B + 1 + 1) w0 wx → RdM wx As ms rows := fun wx hb => hr.below (by rw [HB.out]; exact hbw.trans (hb.mono (by omega)))
  have HrW := hide hrw
  clear hrw hr0
  have Hsz := hide hszw
  clear hszw
  have hst : St w0 B kind (.slice none 0 0) (.slice none 0 0) w0 := ⟨Below.refl _ _, hb2⟩
  clear hb2
  go_cut [6] (fun _ wc => ∃ (k : Nat) (A : Option Addr) (c : Nat), k ≤ 6 ∧ St w0 B kind (.slice A k c) (.slice none 0 0) wc)
  case first =>
    go_wp2_with fail
    go_loopw [6] (fun i wr => ∃ (k : Nat) (v : Value), k ≤ na ∧ k ≤ 6 ∧ i = .int .i64 k ∧ St w0 B kind v (.slice none 0 0) wr ∧ wr.ownsRow (B + 3) 9 1 v k (tabV k (fun _ => .string ⟨#[110]⟩))) (fun i _ => 6 - (intOf i).toNat)
    case atStart => exact ⟨0, _, by omega, by omega, rfl, hst, World.ownsRow_nil _ _ _ _⟩
    case round =>
      obtain ⟨k, v, hk1, hk2, rfl, hs, hown⟩ := hrel
      obtain ⟨A, c, rfl⟩ := own_form hown
      have d0 : wr.cell? ⟨B, 1, none⟩ = some (.slice Aa na ca) := (hb0.below hs.bel (by omega)).cell 1
      have e1 := hs.c1
      by_cases hlt : k < na ∧ k < 6
      · obtain ⟨hlt1, hlt2⟩ := hlt
        have hsz3 : B + 3 ≤ wr.heap.size := by have := hs.blk.lt; omega
        go_wp2_with (at_builtin; refine wpL_append rfl rfl Try.underlying22 str_info rfl (by decide) rfl rfl (hown.alloc _) (news_at _ _ _ _ (by simp)) rfl (by simp [Value.oneCell']) (by omega) (by omega) (by simp; omega) ?_; intro v1 w1 hown1 hgrow1; have hs1 := (hs.alloc _).app (hown.alloc _) hgrow1; have g1 := hs1.c1; have g2 := hs1.z 1; obtain ⟨A1, c1, rfl⟩ := own_form hown1)
        go_roundw
        case rel => exact ⟨k + 1, _, by omega, by omega, by go_num, hs1.set1 _, by rw [tabV_succ]; exact own_setCell_low hown1 (by show B + 1 + 1 < B + 3; omega) _⟩
        case measure => simp [intOf]; omega
      · have hlt' : ¬ k < na ∨ (k < na ∧ ¬ k < 6) := by omega
        clear hlt
        rcases hlt' with hn | ⟨hp, hn⟩
        all_goals
          go_wp2_with fail
          go_meet
          exact ⟨k, A, c, hk2, hs⟩
  case rest =>
    obtain ⟨k, A, c, hk6, hs⟩ := hcut
    have e1 := hs.c1
    have e2 := hs.c2
    go_upto_if 32 with fail
    go_cut [30] (fun _ wc => ∃ (n : Nat) (A : Option Addr) (c : Nat), 1 ≤ n ∧ n ≤ 6 ∧ St w0 B kind (.slice A n c) (.slice none 0 0) wc)
    case first =>
      by_cases hk0 : k = 0
      · subst hk0
        have hs1 := hs.alloc (.cells #[.string ⟨#[110]⟩] 9)
        have g1 := hs1.c1
        have g2 := hs1.z 1
        go_wp2_with fail
        go_meet
        exact ⟨1, _, _, by omega, by omega, hs1.set1 _⟩
      · have hq : ((k : Int) == 0) = false := by simp; omega
        go_wp2_with fail
        go_meet
        exact ⟨k, A, c, by omega, hk6, hs⟩
    case rest =>
      clear hs e1 e2 hk6
      obtain ⟨n, An, cn, hn1, hn6, hs⟩ := hcut
      go_upto_block 2 with fail
      go_cut [7] (fun _ wc => ∃ (m : Nat) (A : Option Addr) (c : Nat), m ≤ 4 ∧ St w0 B kind (.slice An n cn) (.slice A m c) wc ∧ Rows_ wc B (.slice A m c) n m (lowOf kind))
      case first =>
        go_wp2_with fail
        go_loopw [7] (fun i wr => ∃ (k : Nat) (A : Option Addr) (c : Nat), k ≤ ms ∧ k ≤ 4 ∧ i = .int .i64 k ∧ St w0 B kind (.slice An n cn) (.slice A k c) wr ∧ Rows_ wr B (.slice A k c) n k (lowOf kind)) (fun i _ => 4 - (intOf i).toNat)
        case atStart => exact ⟨0, none, 0, by omega, by omega, rfl, hs, ⟨fun _ => none, fun _ => 0, fun _ _ => 0, World.ownsRow_nil _ _ _ _, fun i hi => by omega⟩⟩
        case round =>
          clear hs
          obtain ⟨k, A, c, hk1, hk2, rfl, hs, hrows⟩ := hrel
          have d1 : wr.cell? ⟨B, 2, none⟩ = some (.slice As ms cs) := (hb0.below hs.bel (by omega)).cell 2
          by_cases hlt : k < ms ∧ k < 4
          · obtain ⟨hlt1, hlt2⟩ := hlt
            have e1 := hs.c1
            have e2 := hs.c2
            have hd4 : decide ((k : Int) < 4) = true := by simp; omega
            go_wp2_with fail
            have hsz := hs.blk.lt
            obtain ⟨wo, rfl⟩ : ∃ wo : World, wo = wr := ⟨_, rfl⟩
            go_loopw [8, 49] (fun v i wx => ∃ (t : Nat) (R : Nat → Int), t ≤ n ∧ i = .int .i64 t ∧ wx.ownsRow wo.heap.size 3 1 v t (tabV t (fun j => .int .i64 (R j))) ∧ (∀ j, j < t → lowOf kind ≤ R j ∧ R j ≤ 1000) ∧ Below wo.heap.size wo wx) (fun _ i _ => n - (intOf i).toNat)
            case atStart => exact ⟨0, fun _ => 0, by omega, rfl, World.ownsRow_nil _ _ _ _, fun j hj => by omega, Below.refl _ _⟩
            case round =>
              clear d1 e1 e2
              obtain ⟨t, R, ht, rfl, hown, hR, hbel⟩ := hrel
              have HR := hide hR
              clear hR
              have hszx := hbel.size
              have hsx := hs.later hbel
              by_cases hlt3 : t < n
              · have g0 : wr.cell? ⟨B, 2, none⟩ = some (.slice As ms cs) := (hb0.below hsx.bel (by omega)).cell 2
                obtain ⟨b, off, Ak, ck, rfl, hck, hrk⟩ := (HrW.out wr hsx.bel).at_ hlt1
                have hkl := Hlen.out k hlt1
                have hkind : ((kind == 0) = true ∧ Hid (lowOf kind = -1000)) ∨ ((kind == 0) = false ∧ (kind == 2) = true ∧ Hid (lowOf kind = -1000)) ∨ ((kind == 0) = false ∧ (kind == 2) = false ∧ Hid (lowOf kind = 0)) := by
                  by_cases h0 : kind = 0
                  · subst h0; exact .inl ⟨rfl, rfl⟩
                  · by_cases h2 : kind = 2
                    · subst h2; exact .inr (.inl ⟨rfl, rfl, rfl⟩)
                    · exact .inr (.inr ⟨by simpa using h0, by simpa using h2, if_neg (by omega)⟩)
                by_cases hlt4 : t < (rows k).length
                · obtain ⟨b2, off2, rfl, hv⟩ := hrk.at_ hlt4
                  have hw := Hwf.out k t hlt1 hlt4
                  rcases hkind with ⟨x0, hlow⟩ | ⟨x0, x2, hlow⟩ | ⟨x0, x2, hlow⟩
                  all_goals
                    go_wp2_with (first
                      | (go_at_call 7; refine (within_any _ _ _ _ hw (by omega) (by omega) (by omega)).mono ?_; rintro e w2 ⟨rfl, rfl⟩)
                      | (at_builtin; refine wpL_append rfl rfl Try.underlying42 int_info rfl (by decide) rfl rfl (hown.alloc _) (news_at _ _ _ _ (by simp)) rfl (by simp [Value.oneCell']) (by omega) (by omega) (by simp; omega) ?_; intro v2 w2 hown2 hgrow2))
                    go_roundw
                    case rel => exact ⟨t + 1, upd R t _, by omega, by go_num, by rw [tab_push]; exact hown2, upd_all (P := fun x => lowOf kind ≤ x ∧ x ≤ 1000) HR.out ⟨by rw [hlow.out]; exact (wi_bd _ (by omega)).1, (wi_bd _ (by omega)).2⟩, below_app (hbel.alloc hszx _) (by simp; omega) (hown.alloc _) hgrow2⟩
                    case measure => simp [intOf]; omega
                · have hw : (Lit.int .i64 (5 * (t : Int) + k)).wf = true := WalkArith.wf_i64 (by omega)
                  rcases hkind with ⟨x0, hlow⟩ | ⟨x0, x2, hlow⟩ | ⟨x0, x2, hlow⟩
                  all_goals
                    go_wp2_with (first
                      | (go_at_call 7; refine (within_any _ _ _ _ hw (by omega) (by omega) (by omega)).mono ?_; rintro e w2 ⟨rfl, rfl⟩)
                      | (at_builtin; refine wpL_append rfl rfl Try.underlying42 int_info rfl (by decide) rfl rfl (hown.alloc _) (news_at _ _ _ _ (by simp)) rfl (by simp [Value.oneCell']) (by omega) (by omega) (by simp; omega) ?_; intro v2 w2 hown2 hgrow2))
                    go_roundw
                    case rel => exact ⟨t + 1, upd R t _, by omega, by go_num, by rw [tab_push]; exact hown2, upd_all (P := fun x => lowOf kind ≤ x ∧ x ≤ 1000) HR.out ⟨by rw [hlow.out]; exact (wi_bd _ (by omega)).1, (wi_bd _ (by omega)).2⟩, below_app (hbel.alloc hszx _) (by simp; omega) (hown.alloc _) hgrow2⟩
                    case measure => simp [intOf]; omega
              · obtain rfl : t = n := by omega
                obtain ⟨A2, c2, rfl⟩ := own_form hown
                have e2 := hsx.c2
                obtain ⟨Af, cf, RR, hO, hI⟩ := hrows.ex
                have hO1 := (own_below hO hbel).alloc (.cells #[.slice A2 t c2] 42)
                have hI1 : ∀ i, i < k → (wr.alloc (.cells #[.slice A2 t c2] 42)).ownsRow (B + 3) 3 1 (.slice (Af i) t (cf i)) t (tabV t (fun j => .int .i64 (RR i j))) ∧ ∀ j, j < t → lowOf kind ≤ RR i j ∧ RR i j ≤ 1000 := fun i hi => ⟨(own_below (hI i hi).1 hbel).alloc _, (hI i hi).2⟩
                have HI1 := hide hI1
                have hN1 := (ownsRow_less hown (b' := B + 3) (by omega)).alloc (.cells #[.slice A2 t c2] 42)
                clear hO hI hI1 hrows
                go_wp2_with (at_builtin; refine wpL_append rfl rfl Try.underlying23 ints_info rfl (by decide) rfl rfl hO1 (news_at _ _ _ _ (by simp)) rfl (by simp [Value.oneCell']) (by omega) (by omega) (by simp; omega) ?_; intro v3 w3 hown3 hgrow3; have hs3 := (hsx.alloc _).app hO1 hgrow3; have g1 := hs3.c2; have g2 := hs3.z 2; obtain ⟨A3, c3, rfl⟩ := own_form hown3)
                go_roundw
                case rel => exact ⟨k + 1, A3, c3, by omega, by omega, by go_num, hs3.set2 _, rows_push hO1 HI1.out hN1 HR.out hown3 hgrow3 _⟩
                case measure => simp [intOf]; omega
          · have hlt' : ¬ k < ms ∨ (k < ms ∧ ¬ k < 4) := by omega
            clear hlt
            rcases hlt' with hn | ⟨hp, hn⟩
            all_goals
              go_wp2_with fail
              go_meet
              exact ⟨k, A, c, hk2, hs, hrows⟩
      case rest =>
        clear hs
        obtain ⟨m, A, c, hm4, hs, hrows⟩ := hcut
        have e1 := hs.c1
        have e2 := hs.c2
        go_upto_if 98 with fail
        go_cut [97] (fun _ wc => ∃ (m : Nat) (A : Option Addr) (c : Nat), 1 ≤ m ∧ m ≤ 4 ∧ St w0 B kind (.slice An n cn) (.slice A m c) wc ∧ Rows_ wc B (.slice A m c) n m (lowOf kind))
        case first =>
          by_cases hk0 : m = 0
          · subst hk0
            have hsz := hs.blk.lt
            go_wp2_with (at_make; refine wpL_make1 (base := B + 3) rfl rfl Try.underlying42 int_info rfl rfl rfl rfl rfl (by omega) (by omega) (by omega) ?_; intro w4 hown4 hgrow4; have hs4 : St w0 B kind (.slice An n cn) (.slice A 0 c) w4 := ⟨hs.bel.grown hgrow4 (by omega) (fun k hk => by cases hk), hs.blk.grown hgrow4 (by simp)⟩; have hs5 := hs4.alloc (.cells #[.slice (some ⟨wc.heap.size, 0, none⟩) n n] 42); have g2 := hs5.z 2; have g3 := hs5.c2)
            go_meet
            refine ⟨1, _, _, by omega, by omega, hs5.set2 _, rows_low (w := w4.alloc (.cells #[.slice (some ⟨wc.heap.size, 0, none⟩) n n] 42)) ⟨fun _ => some ⟨wc.heap.size, 0, none⟩, fun _ => n, fun _ _ => 0, ?_, fun i hi => ⟨hown4.alloc _, fun j hj => by show lowOf kind ≤ 0 ∧ (0 : Int) ≤ 1000; unfold lowOf; split <;> omega⟩⟩ (by show B + 1 + 1 < B + 3; omega) _⟩
            exact World.ownsRow_lit w4 _ 1 (by have := hs4.blk.lt; omega) (by decide) rfl
          · have hq : ((m : Int) == 0) = false := by simp; omega
            go_wp2_with fail
            go_meet
            exact ⟨m, A, c, by omega, hm4, hs, hrows⟩
        case rest =>
          clear hs e1 e2 hrows hm4
          obtain ⟨m, A, c, hm1, hm4, hs, hrows⟩ := hcut
          have hc := rows_cap hrows
          have f0 : wc.cell? ⟨B + 1, 0, none⟩ = some (.int .i64 0) := (hb1.below hs.bel (by omega)).cell 0
          have f1 : wc.cell? ⟨B + 1, 1, none⟩ = some (.slice none 0 0) := (hb1.below hs.bel (by omega)).cell 1
          have f2 : wc.cell? ⟨B + 1, 2, none⟩ = some (.slice none 0 0) := (hb1.below hs.bel (by omega)).cell 2
          have f3 : wc.frozen? ⟨B + 1, 0, none⟩ = false := (hb1.below hs.bel (by omega)).frozen 0
          have f4 : wc.frozen? ⟨B + 1, 1, none⟩ = false := (hb1.below hs.bel (by omega)).frozen 1
          have f5 : wc.frozen? ⟨B + 1, 2, none⟩ = false := (hb1.below hs.bel (by omega)).frozen 2
          have e0 := hs.c0
          have e1 := hs.c1
          have e2 := hs.c2
          have e3 := hs.z 2
          have hbel : Below B w wc := hbw.trans (hs.bel.mono (by omega))
          rw [← HB.out] at hbel
          by_cases h3 : kind = 3
          · subst h3
            go_wp2_with fail
            refine bodyPost_ret (v := .agg #[.int .i64 3, .slice An n cn, .slice A 1 c]) (by simp [results, Try.results6, go_sem, f0, f1, f2]) rfl ?_
            exact bars_post (B := B) (rows_low (rows_low (rows_low (rows_low (rows_one hrows hm1) (by show B + 1 + 1 < B + 3; omega) _) (by show B + 1 < B + 3; omega) _) (by show B + 1 < B + 3; omega) _) (by show B + 1 < B + 3; omega) _) hn1 hn6 (by omega) (by omega) (fun _ => rfl) (by rw [HB.out]; omega)
              ((((hbel.setCell (by rw [HB.out]; show B ≤ B + 1 + 1; omega) _).setCell (by rw [HB.out]; show B ≤ B + 1; omega) _).setCell (by rw [HB.out]; show B ≤ B + 1; omega) _).setCell (by rw [HB.out]; show B ≤ B + 1; omega) _)
          · have hq : (kind == 3) = false := by simpa using h3
            go_wp2_with fail
            refine bodyPost_ret (v := .agg #[.int .i64 kind, .slice An n cn, .slice A m c]) (by simp [results, Try.results6, go_sem, f0, f1, f2]) rfl ?_
            exact bars_post (B := B) (rows_low (rows_low (rows_low hrows (by show B + 1 < B + 3; omega) _) (by show B + 1 < B + 3; omega) _) (by show B + 1 < B + 3; omega) _) hn1 hn6 hm1 hm4 (fun h => absurd h h3) (by rw [HB.out]; omega)
              (((hbel.setCell (by rw [HB.out]; show B ≤ B + 1; omega) _).setCell (by rw [HB.out]; show B ≤ B + 1; omega) _).setCell (by rw [HB.out]; show B ≤ B + 1; omega) _)
end Go.Proofs.Ytoggpbbndoipdaa.Chr
