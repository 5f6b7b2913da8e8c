/- The plain program of package bidi: what its functions compute, over functions of places. -/
import Derived.Test.YtdikfldogmbeaaaDoorSlices
namespace Go.Proofs.YtdikfldogmbeaaaDoor.Bd
open Go.RowKit Go.Frm

/-- the beginning of an isolate -/
def iso (k : Int) : Bool := k == 19 || k == 20 || k == 21
/-- the direction of the first letter, r places from i on, at a depth -/
def firstR (C : Nat → Int) (inner : Bool) : Nat → Nat → Nat → Int
  | 0, _, _ => 0
  | r + 1, i, d =>
    if iso (C i) then firstR C inner r (i + 1) (d + 1)
    else if C i == 22 then (if d == 0 && inner then 0 else firstR C inner r (i + 1) (d - 1))
    else if 0 < d then firstR C inner r (i + 1) d
    else if C i == 0 then 0
    else if C i == 1 || C i == 2 then 1
    else if C i == 10 then 0
    else firstR C inner r (i + 1) d
theorem firstR_01 (C : Nat → Int) (inner : Bool) : ∀ r i d, firstR C inner r i d = 0 ∨ firstR C inner r i d = 1
  | 0, _, _ => .inl rfl
  | r + 1, i, d => by
    unfold firstR
    have ih := firstR_01 C inner r (i + 1)
    repeat' split
    all_goals first | exact .inl rfl | exact .inr rfl | exact ih _

/-- the ends of isolates: what is known, and the stack of those that are open -/
structure Pr where
  M : Nat → Int
  S : Nat → Nat
  m : Nat
def prStep (C : Nat → Int) (i : Nat) (p : Pr) : Pr :=
  if iso (C i) then ⟨upd p.M i (-1), upd p.S p.m i, p.m + 1⟩
  else if C i == 22 && decide (0 < p.m) then ⟨upd (upd p.M i (-1)) (p.S (p.m - 1)) i, p.S, p.m - 1⟩
  else ⟨upd p.M i (-1), p.S, p.m⟩
def pr (C : Nat → Int) : Nat → Pr
  | 0 => ⟨fun _ => 0, fun _ => 0, 0⟩
  | i + 1 => prStep C i (pr C i)

/-- the least level above a level that is even or odd -/
def upL (l odd : Int) : Int := if (l + 1) % 2 = odd then l + 1 else l + 2

/-- levels of embeddings -/
structure Ex where
  L : Nat → Int
  O : Nat → Bool
  C : Nat → Int
  sl : Nat → Int
  so : Nat → Int
  si : Nat → Bool
  m : Nat
  oi : Nat
  oe : Nat
  va : Nat
/-- below the last isolate of the stack -/
def popI (si : Nat → Bool) : Nat → Nat
  | 0 => 0
  | m + 1 => if si m then m else popI si m
/-- the class of an override -/
def ovr (C : Nat → Int) (i : Nat) (o : Int) : Nat → Int := if 0 ≤ o then upd C i o else C
def exOdd (C : Nat → Int) (n i : Nat) : Int := if C i == 15 || C i == 17 || C i == 20 || (C i == 21 && firstR C true (n - (i + 1)) (i + 1) 0 == 1) then 1 else 0
def ovClass (k : Int) : Int := if k == 16 then 0 else if k == 17 then 1 else -1
/-- does the next level fit -/
def fitsB (n i : Nat) (e : Ex) : Bool := decide (upL (e.sl (e.m - 1)) (exOdd e.C n i) ≤ 125) && e.oi == 0 && e.oe == 0
def embB (k : Int) : Bool := k == 15 || k == 14 || k == 17 || k == 16
def exStep (n : Nat) (base : Int) (i : Nat) (e : Ex) : Ex :=
  let k := e.C i
  let tl := e.sl (e.m - 1)
  let tz := e.so (e.m - 1)
  let next := upL tl (exOdd e.C n i)
  let L1 := upd e.L i tl
  if embB k then
    if fitsB n i e then { e with L := L1, O := upd e.O i true, sl := upd e.sl e.m next, so := upd e.so e.m (ovClass k), si := upd e.si e.m false, m := e.m + 1 }
    else { e with L := L1, O := upd e.O i true, oe := if e.oi == 0 then e.oe + 1 else e.oe }
  else if iso k then
    if fitsB n i e then { e with L := L1, C := ovr e.C i tz, sl := upd e.sl e.m next, so := upd e.so e.m (-1), si := upd e.si e.m true, m := e.m + 1, va := e.va + 1 }
    else { e with L := L1, C := ovr e.C i tz, oi := e.oi + 1 }
  else if k == 22 then
    if 0 < e.oi then { e with L := upd L1 i tl, C := ovr e.C i tz, oi := e.oi - 1 }
    else if 0 < e.va then
      { e with L := upd L1 i (e.sl (popI e.si e.m - 1)), C := ovr e.C i (e.so (popI e.si e.m - 1)), oe := 0, m := popI e.si e.m, va := e.va - 1 }
    else { e with L := upd L1 i tl, C := ovr e.C i tz }
  else if k == 18 then
    if 0 < e.oi then { e with L := L1, O := upd e.O i true }
    else if 0 < e.oe then { e with L := L1, O := upd e.O i true, oe := e.oe - 1 }
    else if !e.si (e.m - 1) && decide (1 < e.m) then { e with L := L1, O := upd e.O i true, m := e.m - 1 }
    else { e with L := L1, O := upd e.O i true }
  else if k == 9 then { e with L := L1, O := upd e.O i true }
  else if k == 10 then { e with L := upd L1 i base }
  else { e with L := L1, C := ovr e.C i tz }
def ex (C : Nat → Int) (n : Nat) (base : Int) : Nat → Ex
  | 0 => ⟨fun _ => 0, fun _ => false, C, fun _ => base, fun _ => -1, fun _ => false, 1, 0, 0, 0⟩
  | i + 1 => exStep n base i (ex C n base i)

/-- runs of one level -/
structure Rn where
  R : Nat → Nat → Nat
  len : Nat → Nat
  m : Nat
def rnStep (O : Nat → Bool) (L : Nat → Int) (i : Nat) (r : Rn) : Rn :=
  if O i then r
  else if decide (0 < r.m) && L (r.R (r.m - 1) 0) == L i then ⟨upd r.R (r.m - 1) (upd (r.R (r.m - 1)) (r.len (r.m - 1)) i), upd r.len (r.m - 1) (r.len (r.m - 1) + 1), r.m⟩
  else ⟨upd r.R r.m (fun _ => i), upd r.len r.m 1, r.m + 1⟩
def rn (O : Nat → Bool) (L : Nat → Int) : Nat → Rn
  | 0 => ⟨fun _ _ => 0, fun _ => 0, 0⟩
  | i + 1 => rnStep O L i (rn O L i)
/-- the run that begins at a place, plus 1 -/
def runAt (r : Rn) : Nat → Nat → Nat
  | 0 => fun _ => 0
  | k + 1 => upd (runAt r k) (r.R k 0) (k + 1)
/-- the last place of a run -/
def lastOf (r : Rn) (k : Nat) : Nat := r.R k (r.len k - 1)
/-- the run that goes on behind an isolate, plus 1; 0: none -/
def nextRun (M : Nat → Int) (r : Rn) (k : Nat) : Nat := if M (lastOf r k) < 0 then 0 else runAt r r.m (M (lastOf r k)).toNat
/-- the runs that others lead to -/
def folS (M : Nat → Int) (r : Rn) : Nat → Nat → Bool
  | 0 => fun _ => false
  | k + 1 => if 0 < nextRun M r k then upd (folS M r k) (nextRun M r k - 1) true else folS M r k
/-- the places of a sequence -/
structure At where
  A : Nat → Nat
  n : Nat
def atAdd (r : Rn) (k : Nat) (a : At) : At := ⟨fun j => if j < a.n then a.A j else r.R k (j - a.n), a.n + r.len k⟩
def chainA (M : Nat → Int) (r : Rn) : Nat → Nat → At → At
  | 0, _, a => a
  | f + 1, k, a => if nextRun M r k = 0 then atAdd r k a else chainA M r f (nextRun M r k - 1) (atAdd r k a)
def seqAt (M : Nat → Int) (r : Rn) (k : Nat) : At := chainA M r r.m k ⟨fun _ => 0, 0⟩

/-- the level ahead of a place -/
def prevL (O : Nat → Bool) (L : Nat → Int) (base : Int) : Nat → Int
  | 0 => base
  | i + 1 => if O i then prevL O L base i else L i
/-- the level behind a place, r places from i on -/
def nextL (O : Nat → Bool) (L : Nat → Int) (base : Int) : Nat → Nat → Int
  | 0, _ => base
  | r + 1, i => if O i then nextL O L base r (i + 1) else L i
def side (l : Int) : Int := if l % 2 = 1 then 1 else 0
def mx (a b : Int) : Int := if b < a then a else b

/-- a sequence: its places, the classes as they were, its level, and the classes ahead of it and behind it -/
structure Sq where
  A : Nat → Nat
  n : Nat
  W : Nat → Int
  lv : Int
  bg : Int
  en : Int
section
variable (q : Sq)
/-- what stands at a place of the sequence, k - 1 -/
def Sq.pre (C : Nat → Int) : Nat → Int
  | 0 => q.bg
  | k + 1 => C (q.A k)
def Sq.get (C : Nat → Int) (k : Nat) : Int := if k < q.n then C (q.A k) else q.en
def Sq.set (C : Nat → Int) (k : Nat) (x : Int) : Nat → Int := upd C (q.A k) x
def Sq.strong (C : Nat → Int) : Nat → Int
  | 0 => q.bg
  | k + 1 => if C (q.A k) == 0 || C (q.A k) == 1 || C (q.A k) == 2 then C (q.A k) else Sq.strong C k
def Sq.w1 (k : Nat) (C : Nat → Int) : Nat → Int :=
  if q.get C k == 8 then (if decide (0 < k) && (iso (q.W (q.A (k - 1))) || q.W (q.A (k - 1)) == 22) then q.set C k 13 else q.set C k (q.pre C k)) else C
def Sq.w2 (k : Nat) (C : Nat → Int) : Nat → Int := if q.get C k == 3 && q.strong C k == 2 then q.set C k 6 else C
def Sq.w3 (k : Nat) (C : Nat → Int) : Nat → Int := if q.get C k == 2 then q.set C k 1 else C
/-- at the place k + 1 -/
def Sq.w4 (k : Nat) (C : Nat → Int) : Nat → Int :=
  if q.get C k == q.get C (k + 2) && ((q.get C (k + 1) == 4 && q.get C k == 3) || (q.get C (k + 1) == 7 && (q.get C k == 3 || q.get C k == 6))) then q.set C (k + 1) (q.get C k) else C
def Sq.w5 (k : Nat) (C : Nat → Int) : Nat → Int := if q.get C k == 3 && q.strong C k == 0 then q.set C k 0 else C
def Sq.e2 (k : Nat) (C : Nat → Int) : Nat → Int := if q.get C k == 4 || q.get C k == 5 || q.get C k == 7 then q.set C k 13 else C
/-- k rounds -/
def rounds (f : Nat → (Nat → Int) → Nat → Int) : Nat → (Nat → Int) → Nat → Int
  | 0, C => C
  | k + 1, C => f k (rounds f k C)
/-- the end of a stretch of which a test holds, r places from k on -/
def Sq.upTo (T : Int → Bool) (C : Nat → Int) : Nat → Nat → Nat
  | 0, k => k
  | r + 1, k => if T (q.get C k) then Sq.upTo T C r (k + 1) else k
/-- r places from k on -/
def Sq.fill (x : Int) : Nat → Nat → (Nat → Int) → Nat → Int
  | 0, _, C => C
  | r + 1, k, C => Sq.fill x r (k + 1) (q.set C k x)
def Sq.ends (f : Nat) (k : Nat) (C : Nat → Int) : Nat → Int :=
  match f with
  | 0 => C
  | f + 1 =>
    if q.n ≤ k then C
    else if q.get C k == 5 then
      let tz := q.upTo (· == 5) C (q.n - k) k
      Sq.ends f tz (if (decide (0 < k) && q.pre C k == 3) || (decide (tz < q.n) && q.get C tz == 3) then q.fill 3 (tz - k) k C else C)
    else Sq.ends f (k + 1) C
def Sq.endsAll (C : Nat → Int) : Nat → Int := rounds q.e2 q.n (q.ends q.n 0 C)
def Sq.weak (C : Nat → Int) : Nat → Int :=
  rounds q.w5 q.n (q.endsAll (rounds q.w4 (q.n - 2) (rounds q.w3 q.n (rounds q.w2 q.n (rounds q.w1 q.n C)))))
def lside (c : Int) : Int := if c == 0 then 0 else if c == 1 || c == 3 || c == 6 then 1 else -1
def neut (c : Int) : Bool := c == 10 || c == 11 || c == 12 || c == 13 || iso c || c == 22
def Sq.neutral (f : Nat) (k : Nat) (C : Nat → Int) : Nat → Int :=
  match f with
  | 0 => C
  | f + 1 =>
    if q.n ≤ k then C
    else if neut (q.get C k) then
      let tz := q.upTo neut C (q.n - k) k
      Sq.neutral f tz (q.fill (if 0 ≤ lside (q.pre C k) ∧ lside (q.pre C k) = lside (q.get C tz) then lside (q.pre C k) else side q.lv) (tz - k) k C)
    else Sq.neutral f (k + 1) C
def Sq.imp (C : Nat → Int) (k : Nat) (L : Nat → Int) : Nat → Int :=
  if q.lv % 2 = 0 ∧ q.get C k = 1 then upd L (q.A k) (L (q.A k) + 1)
  else if q.lv % 2 = 0 ∧ (q.get C k = 3 ∨ q.get C k = 6) then upd L (q.A k) (L (q.A k) + 2)
  else if q.lv % 2 = 1 ∧ q.get C k ≠ 1 then upd L (q.A k) (L (q.A k) + 1)
  else L
end

/-- brackets that wait for their closing ones, and the pairs that are found -/
structure Bk where
  oc : Nat → Int
  ok : Nat → Nat
  m : Nat
  pa : Nat → Nat
  pb : Nat → Nat
  n : Nat
/-- the last one, of the first m, that waits for a character; plus 1 -/
def closeAt (oc : Nat → Int) (c : Int) : Nat → Nat
  | 0 => 0
  | m + 1 => if oc m == c then m + 1 else closeAt oc c m
def bkOpen (b1 : Int) (k : Nat) (s : Bk) : Bk := { s with oc := upd s.oc s.m b1, ok := upd s.ok s.m k, m := s.m + 1 }
def bkClose (c : Int) (k : Nat) (s : Bk) : Bk :=
  if closeAt s.oc c s.m = 0 then s else { s with pa := upd s.pa s.n (s.ok (closeAt s.oc c s.m - 1)), pb := upd s.pb s.n k, n := s.n + 1, m := closeAt s.oc c s.m - 1 }
def bkOne (b : Nat → Nat → Int) (c : Int) (k j : Nat) (s : Bk) : Option Bk :=
  if c == b j 0 then
    if s.m = 63 then none
    else if c == b j 1 then some (bkClose c k (bkOpen (b j 1) k s)) else some (bkOpen (b j 1) k s)
  else if c == b j 1 then some (bkClose c k s) else some s
def bkAll (b : Nat → Nat → Int) (c : Int) (k : Nat) (s : Bk) : Nat → Option Bk
  | 0 => some s
  | j + 1 => (bkAll b c k s j).bind (bkOne b c k j)
def bk0 : Bk := ⟨fun _ => 0, fun _ => 0, 0, fun _ => 0, fun _ => 0, 0⟩
/-- k characters of the sequence -/
def Sq.bks (q : Sq) (b : Nat → Nat → Int) (X C : Nat → Int) : Nat → Option Bk
  | 0 => some bk0
  | k + 1 => (Sq.bks q b X C k).bind fun s => if q.get C k == 13 then bkAll b (X (q.A k)) k s 4 else some s
/-- pairs -/
structure Ps where
  a : Nat → Nat
  b : Nat → Nat
def Ps.swap (p : Ps) (k : Nat) : Ps := ⟨upd (upd p.a (k + 1) (p.a k)) k (p.a (k + 1)), upd (upd p.b (k + 1) (p.b k)) k (p.b (k + 1))⟩
def Ps.ins : Nat → Ps → Ps
  | 0, p => p
  | k + 1, p => if p.a (k + 1) < p.a k then Ps.ins k (p.swap k) else p
def Ps.srt (p : Ps) : Nat → Ps
  | 0 => p
  | i + 1 => Ps.ins i (Ps.srt p i)
section
variable (q : Sq)
/-- is there a side of a kind between two places: r places from k on -/
def Sq.has (C : Nat → Int) (T : Int → Bool) : Nat → Nat → Bool
  | 0, _ => false
  | r + 1, k => T (lside (q.get C k)) || Sq.has C T r (k + 1)
/-- the side ahead of a place -/
def Sq.before (C : Nat → Int) : Nat → Int
  | 0 => q.bg
  | k + 1 => if 0 ≤ lside (C (q.A k)) then lside (C (q.A k)) else Sq.before C k
/-- a class for a place and the marks behind it -/
def Sq.marks (x : Int) : Nat → Nat → (Nat → Int) → Nat → Int
  | 0, _, C => C
  | r + 1, k, C => if q.W (q.A k) == 8 then Sq.marks x r (k + 1) (q.set C k x) else C
def Sq.mark (x : Int) (k : Nat) (C : Nat → Int) : Nat → Int := q.marks x (q.n - (k + 1)) (k + 1) (q.set C k x)
def Sq.brClass (C : Nat → Int) (a b : Nat) : Option Int :=
  if q.has C (· == side q.lv) (b - (a + 1)) (a + 1) then some (side q.lv)
  else if q.has C (fun x => decide (0 ≤ x)) (b - (a + 1)) (a + 1) then some (q.before C a)
  else none
def Sq.brOne (a b : Nat) (C : Nat → Int) : Nat → Int :=
  match q.brClass C a b with
  | none => C
  | some x => q.mark x b (q.mark x a C)
def Sq.brS (p : Ps) (C : Nat → Int) : Nat → Nat → Int
  | 0 => C
  | i + 1 => q.brOne (p.a i) (p.b i) (Sq.brS p C i)
def Sq.brackets (b : Nat → Nat → Int) (X C : Nat → Int) : Nat → Int :=
  match q.bks b X C q.n with
  | none => C
  | some s => q.brS ((Ps.mk s.pa s.pb).srt s.n) C s.n
/-- what becomes of the classes -/
def Sq.cls (b : Nat → Nat → Int) (X C : Nat → Int) : Nat → Int := q.neutral q.n 0 (q.brackets b X (q.weak C))
/-- what becomes of the levels -/
def Sq.lev (C : Nat → Int) (L : Nat → Int) : Nat → Nat → Int
  | 0 => L
  | k + 1 => q.imp C k (Sq.lev C L k)
end

/-- what takes no part has the level of what is ahead of it: levels, and the last one -/
def tailL (O : Nat → Bool) (L : Nat → Int) (base : Int) : Nat → (Nat → Int)
  | 0 => L
  | i + 1 => if O i then upd (tailL O L base i) i (if i = 0 then base else tailL O L base i (i - 1)) else tailL O L base i
/-- blanks at the end, i places from the beginning on -/
def blanks (W : Nat → Int) (base : Int) : Nat → Bool → (Nat → Int) → Nat → Int
  | 0, _, L => L
  | i + 1, b, L =>
    if W i == 11 || W i == 10 then blanks W base i true (upd L i base)
    else if W i == 12 || decide (14 ≤ W i) || W i == 9 then blanks W base i b (if b then upd L i base else L)
    else blanks W base i false L

/-- the greatest level -/
def most (L : Nat → Int) : Nat → Int
  | 0 => 0
  | i + 1 => mx (most L i) (L i)
/-- a stretch reversed -/
def rev (i tz : Nat) (o : Nat → Nat) (j : Nat) : Nat := if i ≤ j ∧ j < tz then o (i + tz - 1 - j) else o j
def segEnd (L : Nat → Int) (x : Int) : Nat → Nat → Nat
  | 0, k => k
  | r + 1, k => if x ≤ L k then segEnd L x r (k + 1) else k
def revs (L : Nat → Int) (n : Nat) (x : Int) : Nat → Nat → (Nat → Nat) → Nat → Nat
  | 0, _, o => o
  | f + 1, i, o => if n ≤ i then o else if L i < x then revs L n x f (i + 1) o else revs L n x f (segEnd L x (n - i) i + 1) (rev i (segEnd L x (n - i) i) o)
/-- levels from x down to 1 -/
def ordS (L : Nat → Int) (n : Nat) : Nat → (Nat → Nat) → Nat → Nat
  | 0, o => o
  | x + 1, o => ordS L n x (revs L n (x + 1 : Nat) n 0 o)
def order (L : Nat → Int) (n : Nat) : Nat → Nat := ordS L n (most L n).toNat fun j => j
end Go.Proofs.YtdikfldogmbeaaaDoor.Bd
