/- Shown here: What the program computes, as plain functions on integers (with the wraps that Go's integers have). Walks: boxes of bodies. Plain arithmetic: what the wraps are, and what they leave alone. Plain arithmetic: the division of a number of 128 bits by one of 64, as math/bits does it. Walks: package wide and the parts of math/bits that it calls. Walks: math/bits.Len64, LeadingZeros64. Walk: math/bits.Div64, the long division of 128 bits by 64. Walks: wide.MulDiv. Walks: the packages root, vec, point. Walks: the packages segment, contact. Walks: wide.MulShift, the package impulse, correct.Amount and Share. Walks: the package integrate. Walks: view.Find. Conditions: none beyond those in each theorem. -/
import Derived.Laws.OwnMore
import Derived.Test.YtpnknnlnkmhgpaaGreatDoorProg
import Derived.Test.YtpnknnlnkmhgpaaGreatDoorK6
namespace Go.Bil
open Go

def w32 (x : Int) : Int := IntKind.wrap .i32 x
def w64 (x : Int) : Int := IntKind.wrap .i64 x
def u32 (x : Int) : Int := IntKind.wrap .u32 x
def u64 (x : Int) : Int := IntKind.wrap .u64 x
def mx (a b : Int) : Int := if b > a then b else a
def mn (a b : Int) : Int := if b < a then b else a

structure Vec where
  x : Int
  y : Int
  deriving DecidableEq
structure Box where
  x0 : Int
  y0 : Int
  x1 : Int
  y1 : Int
  deriving DecidableEq
structure Body where
  key : Int
  rad : Int
  ax : Int
  ay : Int
  inv : Int
  bo : Int
  px : Int
  py : Int
  vx : Int
  vy : Int
  deriving DecidableEq
structure Pair where
  lo : Int
  hi : Int
  deriving DecidableEq
structure Contact where
  lo : Int
  hi : Int
  nx : Int
  ny : Int
  d : Int
  deriving DecidableEq
def Vec.cells (a : Vec) : List Value := [.int .i32 a.x, .int .i32 a.y]
def Box.cells (a : Box) : List Value := [.int .i32 a.x0, .int .i32 a.y0, .int .i32 a.x1, .int .i32 a.y1]
def Body.cells (b : Body) : List Value := [.int .u32 b.key, .int .i32 b.rad, .int .i32 b.ax, .int .i32 b.ay, .int .i32 b.inv, .int .i32 b.bo, .int .i32 b.px, .int .i32 b.py, .int .i32 b.vx, .int .i32 b.vy]
def Pair.cells (p : Pair) : List Value := [.int .u32 p.lo, .int .u32 p.hi]
def Contact.cells (c : Contact) : List Value := [.int .u32 c.lo, .int .u32 c.hi, .int .i32 c.nx, .int .i32 c.ny, .int .i32 c.d]
def Vec.v (a : Vec) : Value := .agg a.cells.toArray
def Box.v (a : Box) : Value := .agg a.cells.toArray
def Body.v (a : Body) : Value := .agg a.cells.toArray
def Pair.v (a : Pair) : Value := .agg a.cells.toArray
def Contact.v (a : Contact) : Value := .agg a.cells.toArray
def Body.axis (b : Body) : Vec := ⟨b.ax, b.ay⟩
def Body.pos (b : Body) : Vec := ⟨b.px, b.py⟩
def Body.vel (b : Body) : Vec := ⟨b.vx, b.vy⟩

/-- the floor of a quotient -/
def fl (a c : Int) : Int := if c < 0 then (-a) / (-c) else a / c
def in64 (q : Int) : Bool := decide (-9223372036854775808 ≤ q) && decide (q < 9223372036854775808)
/-- wide.MulDiv: the quotient and the error -/
def mulDiv (a b c : Int) : Int × Int := if c = 0 then (0, 2) else if in64 (fl (a * b) c) = true then (fl (a * b) c, 0) else (0, 3)

/-! body, box -/
def absv (a : Int) : Int := mx a (w32 (0 - a))
def extX (b : Body) : Int := w32 (absv b.ax + b.rad)
def extY (b : Body) : Int := w32 (absv b.ay + b.rad)
def boxOf (b : Body) : Box := ⟨w32 (b.px - extX b), w32 (b.py - extY b), w32 (b.px + extX b), w32 (b.py + extY b)⟩
def boxEmpty (a : Box) : Bool := decide (a.x0 > a.x1) || decide (a.y0 > a.y1)
def boxCut (a b : Box) : Box := ⟨mx a.x0 b.x0, mx a.y0 b.y0, mn a.x1 b.x1, mn a.y1 b.y1⟩
def boxMeet (a b : Box) : Box := if boxEmpty (boxCut a b) = true then ⟨1, 0, 0, 0⟩ else boxCut a b
def overlap (a b : Box) : Bool := !boxEmpty (boxMeet a b)
def first (b : Body) : Vec := ⟨w32 (b.px - b.ax), w32 (b.py - b.ay)⟩
def second (b : Body) : Vec := ⟨w32 (b.px + b.ax), w32 (b.py + b.ay)⟩

/-! fx, root, vec, point, segment, contact -/
def limit (n l : Int) : Int × Bool := (mx (w64 (0 - l)) (mn n l), !(mx (w64 (0 - l)) (mn n l) == n))
def isqR (n : Nat) : Nat → Nat → Nat
  | 0, r => r
  | k + 1, r => isqR n k (if (r + 2 ^ k) * (r + 2 ^ k) ≤ n then r + 2 ^ k else r)
def isqrt (n : Nat) : Nat := isqR n 32 0
def isqrtI (n : Int) : Int := (isqrt n.toNat : Int)
def dfx (a b : Vec) : Int := w64 (w64 b.x - w64 a.x)
def dfy (a b : Vec) : Int := w64 (w64 b.y - w64 a.y)
def square (n : Int) : Int := if n < 0 then u64 (u64 (w64 (0 - n)) * u64 (w64 (0 - n))) else u64 (u64 n * u64 n)
def lengthSq (dx dy : Int) : Int := u64 (square dx + square dy)
def length (dx dy : Int) : Int := w64 (isqrtI (lengthSq dx dy))
def floorq (a b : Int) : Int := if a.tmod b < 0 then w64 (w64 (a.tdiv b) - 1) else w64 (a.tdiv b)
def unit (dx dy : Int) : Vec := if length dx dy = 0 then ⟨65536, 0⟩ else ⟨w32 (floorq (w64 (dx * 65536)) (length dx dy)), w32 (floorq (w64 (dy * 65536)) (length dx dy))⟩
def parD (p q : Vec) : Int := w64 (w64 (dfx p q * dfx p q) + w64 (dfy p q * dfy p q))
def parN (p q c : Vec) : Int := mx 0 (mn (w64 (w64 (dfx p c * dfx p q) + w64 (dfy p c * dfy p q))) (parD p q))
def nearest (p q c : Vec) : Vec := if parD p q = 0 then p else
  ⟨w32 (p.x + w32 (mulDiv (dfx p q) (parN p q c) (parD p q)).1), w32 (p.y + w32 (mulDiv (dfy p q) (parN p q c) (parD p q)).1)⟩
/-- what segment.choose keeps: two points, and the square of their distance -/
structure Cho where
  a : Vec
  b : Vec
  d : Int
  deriving DecidableEq
def consider (s : Cho) (x y : Vec) : Cho := if lengthSq (dfx x y) (dfy x y) < s.d then ⟨x, y, lengthSq (dfx x y) (dfy x y)⟩ else s
def cho1 (ap bp bq : Vec) : Cho := consider ⟨⟨0, 0⟩, ⟨0, 0⟩, 18446744073709551615⟩ ap (nearest bp bq ap)
def cho2 (ap aq bp bq : Vec) : Cho := consider (cho1 ap bp bq) aq (nearest bp bq aq)
def cho3 (ap aq bp bq : Vec) : Cho := consider (cho2 ap aq bp bq) (nearest ap aq bp) bp
def choosen (ap aq bp bq : Vec) : Cho := consider (cho3 ap aq bp bq) (nearest ap aq bq) bq
def low (a b : Body) : Body := if a.key > b.key then b else a
def high (a b : Body) : Body := if a.key > b.key then a else b
def cho (a b : Body) : Cho := choosen (first a) (second a) (first b) (second b)
def mdx (a b : Body) : Int := dfx (cho a b).a (cho a b).b
def mdy (a b : Body) : Int := dfy (cho a b).a (cho a b).b
def msum (a b : Body) : Int := w64 (w64 a.rad + w64 b.rad)
/-- the contact of two bodies in the order of their keys -/
def touch (a b : Body) : Bool := decide (lengthSq (mdx a b) (mdy a b) < u64 (w64 (msum a b * msum a b)))
def ctc (a b : Body) : Contact := ⟨a.key, b.key, (unit (mdx a b) (mdy a b)).x, (unit (mdx a b) (mdy a b)).y, w32 (w64 (msum a b - length (mdx a b) (mdy a b)))⟩
def noCtc : Contact := ⟨0, 0, 0, 0, 0⟩
/-- contact.Of -/
def contactLH (a b : Body) : Contact × Bool := if touch a b = true then (ctc a b, true) else (noCtc, false)
def contact (a b : Body) : Contact × Bool := contactLH (low a b) (high a b)

/-! impulse, jacobi, correct, integrate -/
/-- floor of a product over 2^16, 0 if that is no int64 -/
def shf (a b : Int) : Int := if in64 (a * b / 65536) = true then a * b / 65536 else 0
def approach (c : Contact) (a b : Body) : Int :=
  Int.fdiv (w64 (w64 (w64 (w64 b.vx - w64 a.vx) * w64 c.nx) + w64 (w64 (w64 b.vy - w64 a.vy) * w64 c.ny))) 65536
def bounce (a b : Body) : Int := mx a.bo b.bo
def invs (a b : Body) : Int := w64 (w64 a.inv + w64 b.inv)
def strength (c : Contact) (a b : Body) : Int :=
  if approach c a b ≥ 0 then 0 else if invs a b = 0 then 0 else (mulDiv (w64 (0 - approach c a b)) (w64 (65536 + w64 (bounce a b))) (invs a b)).1
/-- what a contact's impulse changes of the velocity of a body with an inverse mass -/
def change (j inv n : Int) : Int := shf (shf j (w64 inv)) (w64 n)
def extra (c : Contact) : Int := w64 (w64 c.d - 1024)
def amount (c : Contact) (a b : Body) : Int :=
  if extra c ≤ 0 then 0 else if a.inv = 0 ∧ b.inv = 0 then 0 else Int.fdiv (w64 (extra c * 26214)) 65536
def share (c : Contact) (a b : Body) (high : Bool) : Int :=
  (mulDiv (amount c a b) (w64 (if high = true then b.inv else a.inv)) (mx 1 (invs a b))).1
structure Shift where
  x : Int
  y : Int
  deriving DecidableEq
def Shift.cells (a : Shift) : List Value := [.int .i64 a.x, .int .i64 a.y]
def fallV (b : Body) : Int × Bool := limit (w64 (w64 b.vy - 1024)) 16777216
def fallB (b : Body) : Body := if b.inv = 0 then b else ⟨b.key, b.rad, b.ax, b.ay, b.inv, b.bo, b.px, b.py, b.vx, w32 (fallV b).1⟩
def fallH (b : Body) : Bool := if b.inv = 0 then false else (fallV b).2
def moveX (s : Shift) (b : Body) : Int × Bool := limit (w64 (w64 (w64 b.px + s.x) + w64 (Int.fdiv b.vx 64))) 1073741824
def moveY (s : Shift) (b : Body) : Int × Bool := limit (w64 (w64 (w64 b.py + s.y) + w64 (Int.fdiv b.vy 64))) 1073741824
def moveB (s : Shift) (b : Body) : Body := ⟨b.key, b.rad, b.ax, b.ay, b.inv, b.bo, w32 (moveX s b).1, w32 (moveY s b).1, b.vx, b.vy⟩
def moveH (s : Shift) (b : Body) : Bool := (moveX s b).2 || (moveY s b).2
/-- a list, element by element from number i on -/
def mapI {α β : Type} (f : Nat → α → β) : Nat → List α → List β
  | _, [] => []
  | i, b :: bs => f i b :: mapI f (i + 1) bs
def anyI {α : Type} (h : Nat → α → Bool) : Nat → List α → Bool
  | _, [] => false
  | i, b :: bs => h i b || anyI h (i + 1) bs
/-- the cells of a list's elements -/
def flat {α : Type} (c : α → List Value) (l : List α) : List Value := (l.map c).flatten
theorem flat_nil {α : Type} (c : α → List Value) : flat c [] = [] := rfl
theorem flat_append {α : Type} (c : α → List Value) (l m : List α) : flat c (l ++ m) = flat c l ++ flat c m := by simp [flat]
theorem flat_length {α : Type} (c : α → List Value) (k : Nat) (hc : ∀ x, (c x).length = k) : ∀ l : List α, (flat c l).length = l.length * k
  | [] => by simp [flat]
  | x :: l => by
    have := flat_length c k hc l
    simp only [flat, List.map_cons, List.flatten_cons, List.length_append, hc, List.length_cons, Nat.add_mul, Nat.one_mul] at this ⊢
    omega
/-- the cells of element j -/
theorem flat_at {α : Type} (c : α → List Value) (k : Nat) (hc : ∀ x, (c x).length = k) : ∀ (l : List α) (j : Nat) (x : α), l[j]? = some x → ((flat c l).drop (j * k)).take k = c x
  | [], j, x, h => by simp at h
  | y :: l, 0, x, h => by
    simp at h
    subst h
    simp only [flat, List.map_cons, List.flatten_cons, Nat.zero_mul, List.drop_zero]
    rw [← hc y, List.take_left']
    rfl
  | y :: l, j + 1, x, h => by
    have := flat_at c k hc l j x (by simpa using h)
    simp only [flat, List.map_cons, List.flatten_cons] at this ⊢
    have e : ∀ R : List Value, (c y ++ R).drop ((j + 1) * k) = R.drop (j * k) := fun R => by
      have h1 : (j + 1) * k = (c y).length + j * k := by rw [hc, Nat.add_mul, Nat.one_mul, Nat.add_comm]
      rw [h1, List.drop_append, List.drop_eq_nil_of_le (by omega), List.nil_append]
      congr 1
      omega
    rw [e, this]
theorem mapI_append {α β : Type} (f : Nat → α → β) : ∀ (i : Nat) (l m : List α), mapI f i (l ++ m) = mapI f i l ++ mapI f (i + l.length) m
  | i, [], m => by simp [mapI]
  | i, b :: l, m => by
    have := mapI_append f (i + 1) l m
    simp only [List.cons_append, mapI, this, List.length_cons]
    rw [show i + 1 + l.length = i + (l.length + 1) by omega]
theorem anyI_append {α : Type} (h : Nat → α → Bool) : ∀ (i : Nat) (l m : List α), anyI h i (l ++ m) = (anyI h i l || anyI h (i + l.length) m)
  | i, [], m => by simp [anyI]
  | i, b :: l, m => by
    have := anyI_append h (i + 1) l m
    simp only [List.cons_append, anyI, this, List.length_cons, Bool.or_assoc]
    rw [show i + 1 + l.length = i + (l.length + 1) by omega]
theorem mapI_length {α β : Type} (f : Nat → α → β) : ∀ (i : Nat) (l : List α), (mapI f i l).length = l.length
  | _, [] => rfl
  | i, b :: l => by simp [mapI, mapI_length f (i + 1) l]
theorem Body.cells_length (b : Body) : b.cells.length = 10 := rfl
theorem one_flat {α : Type} (c : α → List Value) (hc : ∀ x, ∀ u ∈ c x, u.oneCell' = true) (l : List α) : ∀ u ∈ flat c l, u.oneCell' = true := by
  intro u hu
  simp only [flat, List.mem_flatten, List.mem_map] at hu
  obtain ⟨s, ⟨x, _, rfl⟩, hu⟩ := hu
  exact hc x u hu
def gravB (bs : List Body) : List Body := mapI (fun _ b => fallB b) 0 bs
def gravH (bs : List Body) : Bool := anyI (fun _ b => fallH b) 0 bs
def noShift : Shift := ⟨0, 0⟩
def shiftAt (ss : List Shift) (i : Nat) : Shift := ss.getD i noShift
def movB (ss : List Shift) (bs : List Body) : List Body := mapI (fun i b => moveB (shiftAt ss i) b) 0 bs
def movH (ss : List Shift) (bs : List Body) : Bool := anyI (fun i b => moveH (shiftAt ss i) b) 0 bs
theorem Shift.cells_length (b : Shift) : b.cells.length = 2 := rfl
def cmpI (x y : Int) : Int := if x < y then -1 else if x > y then 1 else 0
/-- in the order of their keys, each key once -/
def Srt (v : List Body) : Prop := v.Pairwise (fun a b => a.key < b.key)
/-- how many keys are less -/
def lb (v : List Body) (key : Int) : Nat := (v.takeWhile (fun b => decide (b.key < key))).length
def hasKey (v : List Body) (key : Int) : Bool := match v[lb v key]? with
  | some b => b.key == key
  | none => false
theorem lb_le (v : List Body) (key : Int) : lb v key ≤ v.length := (List.takeWhile_sublist _).length_le
theorem lb_lt {v : List Body} {key : Int} (hs : Srt v) : ∀ {h : Nat} {b : Body}, v[h]? = some b → (b.key < key ↔ h < lb v key) := by
  induction v with
  | nil => intro h b hb; simp at hb
  | cons a v ih =>
    intro h b hb
    have hs2 := List.pairwise_cons.1 hs
    by_cases ha : a.key < key
    · have e : lb (a :: v) key = lb v key + 1 := by simp [lb, List.takeWhile_cons, ha]
      rw [e]
      cases h with
      | zero => simp at hb; subst hb; simp [ha]
      | succ h => rw [ih hs2.2 (h := h) (by simpa using hb)]; omega
    · have e : lb (a :: v) key = 0 := by simp [lb, List.takeWhile_cons, ha]
      rw [e]
      cases h with
      | zero => simp at hb; subst hb; simp; omega
      | succ h =>
        have : a.key < b.key := hs2.1 b (List.mem_of_getElem? (by simpa using hb))
        omega

/-! sums of changes of velocity -/
def noBody : Body := ⟨0, 0, 0, 0, 0, 0, 0, 0, 0, 0⟩
def bodyAt (v : List Body) (i : Nat) : Body := v.getD i noBody
def ia (v : List Body) (c : Contact) : Nat := lb v c.lo
def ib (v : List Body) (c : Contact) : Nat := lb v c.hi
def jmp (v : List Body) (c : Contact) : Int := strength c (bodyAt v (ia v c)) (bodyAt v (ib v c))
def setA (v : List Body) (c : Contact) (n : Int) (x : List Int) : List Int := x.set (ia v c) (w64 (x.getD (ia v c) 0 - change (jmp v c) (bodyAt v (ia v c)).inv n))
def setB (v : List Body) (c : Contact) (n : Int) (x : List Int) : List Int := x.set (ib v c) (w64 (x.getD (ib v c) 0 + change (jmp v c) (bodyAt v (ib v c)).inv n))
def addX (v : List Body) (c : Contact) (n : Int) (x : List Int) : List Int := setB v c n (setA v c n x)
theorem setA_length (v : List Body) (c : Contact) (n : Int) (x : List Int) : (setA v c n x).length = x.length := by simp [setA]
theorem addX_length (v : List Body) (c : Contact) (n : Int) (x : List Int) : (addX v c n x).length = x.length := by simp [addX, setB, setA]
def addsX (v : List Body) (l : List Contact) (x : List Int) : List Int := l.foldl (fun x c => addX v c c.nx x) x
def addsY (v : List Body) (l : List Contact) (y : List Int) : List Int := l.foldl (fun y c => addX v c c.ny y) y
theorem addsX_length (v : List Body) : ∀ (l : List Contact) (x : List Int), (addsX v l x).length = x.length
  | [], _ => rfl
  | c :: l, x => by rw [addsX, List.foldl_cons, ← addsX, addsX_length v l, addX_length]
theorem addsY_length (v : List Body) : ∀ (l : List Contact) (x : List Int), (addsY v l x).length = x.length
  | [], _ => rfl
  | c :: l, x => by rw [addsY, List.foldl_cons, ← addsY, addsY_length v l, addX_length]
/-- both bodies of each contact are there -/
def Both (v : List Body) (l : List Contact) : Prop := ∀ c ∈ l, ia v c < v.length ∧ ib v c < v.length
def sumX (v : List Body) (l : List Contact) : List Int := addsX v l (List.replicate v.length 0)
def sumY (v : List Body) (l : List Contact) : List Int := addsY v l (List.replicate v.length 0)
theorem Contact.cells_length (b : Contact) : b.cells.length = 5 := rfl
def ints (x : List Int) : List Value := x.map (Value.int .i64)
theorem ints_at {x : List Int} {i : Nat} (h : i < x.length) : ((ints x).drop (i * 1)).take 1 = [.int .i64 (x.getD i 0)] := by
  rw [Nat.mul_one]
  have : (ints x).drop i = .int .i64 x[i] :: (ints x).drop (i + 1) := by
    rw [List.drop_eq_getElem_cons (by simpa [ints] using h)]
    simp [ints]
  rw [this, List.getD_eq_getElem?_getD, List.getElem?_eq_getElem h]
  rfl
def rndX (x : List Int) (i : Nat) (b : Body) : Int × Bool := limit (w64 (w64 b.vx + x.getD i 0)) 16777216
def rndY (y : List Int) (i : Nat) (b : Body) : Int × Bool := limit (w64 (w64 b.vy + y.getD i 0)) 16777216
def rndB (x y : List Int) (i : Nat) (b : Body) : Body := ⟨b.key, b.rad, b.ax, b.ay, b.inv, b.bo, b.px, b.py, w32 (rndX x i b).1, w32 (rndY y i b).1⟩
def rndH (x y : List Int) (i : Nat) (b : Body) : Bool := (rndX x i b).2 || (rndY y i b).2
/-- jacobi.Round -/
def roundV (v : List Body) (l : List Contact) : List Body := mapI (rndB (sumX v l) (sumY v l)) 0 v
def roundH (v : List Body) (l : List Contact) : Bool := anyI (rndH (sumX v l) (sumY v l)) 0 v
theorem sumX_length (v : List Body) (l : List Contact) : (sumX v l).length = v.length := by rw [sumX, addsX_length, List.length_replicate]
theorem sumY_length (v : List Body) (l : List Contact) : (sumY v l).length = v.length := by rw [sumY, addsY_length, List.length_replicate]

/-! what is kept: the keys -/
def keys (v : List Body) : List Int := v.map (·.key)
theorem mapI_keys {f : Nat → Body → Body} (hf : ∀ i b, (f i b).key = b.key) : ∀ (i : Nat) (v : List Body), keys (mapI f i v) = keys v
  | _, [] => rfl
  | i, b :: v => by
    have := mapI_keys hf (i + 1) v
    simp only [keys, mapI, List.map_cons, hf] at this ⊢
    rw [this]
theorem Srt_iff (v : List Body) : Srt v ↔ (keys v).Pairwise (· < ·) := by
  unfold Srt keys
  rw [List.pairwise_map]
theorem Srt_keys {u v : List Body} (h : keys u = keys v) (hs : Srt v) : Srt u := by rw [Srt_iff, h, ← Srt_iff]; exact hs
theorem lb_eq (v : List Body) (key : Int) : lb v key = ((keys v).takeWhile (fun x => decide (x < key))).length := by
  unfold lb keys
  rw [List.takeWhile_map, List.length_map]
  rfl
theorem lb_keys {u v : List Body} (h : keys u = keys v) (key : Int) : lb u key = lb v key := by rw [lb_eq, lb_eq, h]
theorem len_keys {u v : List Body} (h : keys u = keys v) : u.length = v.length := by
  have := congrArg List.length h
  simpa [keys] using this
theorem Both_keys {u v : List Body} (h : keys u = keys v) {l : List Contact} (hb : Both v l) : Both u l := fun c hc => by
  have := hb c hc
  unfold ia ib at *
  rw [lb_keys h, lb_keys h, len_keys h]
  exact this
theorem keys_round (v : List Body) (l : List Contact) : keys (roundV v l) = keys v := mapI_keys (f := rndB (sumX v l) (sumY v l)) (fun _ _ => rfl) 0 v
def iterV (v : List Body) (l : List Contact) : Nat → List Body
  | 0 => v
  | k + 1 => roundV (iterV v l k) l
def iterH (v : List Body) (l : List Contact) : Nat → Bool
  | 0 => false
  | k + 1 => iterH v l k || roundH (iterV v l k) l
theorem keys_iter (v : List Body) (l : List Contact) : ∀ k, keys (iterV v l k) = keys v
  | 0 => rfl
  | k + 1 => by rw [iterV, keys_round, keys_iter v l k]

/-! shifts -/
def pushBy (sh sg n z : Int) : Int := w64 (z + w64 (sg * Int.fdiv (w64 (sh * w64 n)) 65536))
def pushS (c : Contact) (sh sg : Int) (s : Shift) : Shift := ⟨pushBy sh sg c.nx s.x, pushBy sh sg c.ny s.y⟩
def pushAt (c : Contact) (sh sg : Int) (i : Nat) (ss : List Shift) : List Shift := ss.set i (pushS c sh sg (shiftAt ss i))
def shiftC (v : List Body) (c : Contact) (ss : List Shift) : List Shift :=
  pushAt c (share c (bodyAt v (ia v c)) (bodyAt v (ib v c)) true) 1 (ib v c) (pushAt c (share c (bodyAt v (ia v c)) (bodyAt v (ib v c)) false) (-1) (ia v c) ss)
def shiftsFrom (v : List Body) (l : List Contact) (ss : List Shift) : List Shift := l.foldl (fun ss c => shiftC v c ss) ss
def shifts (v : List Body) (l : List Contact) : List Shift := shiftsFrom v l (List.replicate v.length noShift)
theorem pushAt_length (c : Contact) (sh sg : Int) (i : Nat) (ss : List Shift) : (pushAt c sh sg i ss).length = ss.length := by simp [pushAt]
theorem shiftC_length (v : List Body) (c : Contact) (ss : List Shift) : (shiftC v c ss).length = ss.length := by simp [shiftC, pushAt_length]
theorem shiftsFrom_length (v : List Body) : ∀ (l : List Contact) (ss : List Shift), (shiftsFrom v l ss).length = ss.length
  | [], _ => rfl
  | c :: l, ss => by rw [shiftsFrom, List.foldl_cons, ← shiftsFrom, shiftsFrom_length v l, shiftC_length]
theorem shiftAt_get {v : List Shift} {i : Nat} (h : i < v.length) : v[i]? = some (shiftAt v i) := by
  rw [shiftAt, List.getD_eq_getElem?_getD, List.getElem?_eq_getElem h]; rfl

/-! cells -/
def cellX (p : Vec) : Vec := ⟨Int.fdiv p.x 4194304, Int.fdiv p.y 4194304⟩
def spanLo (a : Box) : Vec := cellX ⟨a.x0, a.y0⟩
def spanHi (a : Box) : Vec := cellX ⟨a.x1, a.y1⟩
def pairOf (a b : Int) : Pair := ⟨mn a b, mx a b⟩
end Go.Bil

namespace Go.Ev
open Go Proofs Bil

/-- the package-level variables that are read: box.none, cell.factors -/
def GLS : Gls := [.blk 3 (.cells #[.int .i32 1, .int .i32 0, .int .i32 0, .int .i32 0] 106 (0, 0)), .blk 0 (.cells #[.int .u32 73856093, .int .u32 19349663] 169 (0, 0))]
theorem mix : mixed Tryz.prog = true := by kernel_rfl
/-- over what else is only read -/
abbrev PX (X : Gls) (g : Nat) (args : Array Value) (v : Value) : Prop := PureFn Tryz.prog (GLS ++ X) g args v
abbrev PF (g : Nat) (args : Array Value) (v : Value) : Prop := PureFn Tryz.prog GLS g args v

theorem abs_f (a : Int) : PF 103 #[.int .i32 a] (.int .i32 (absv a)) := by
  refine PureFn.enter Tryz.func103 (by kernel_rfl) (by kernel_rfl) fun w => ?_
  exact V.retp _ (by kernel_rfl) (by kernel_rfl) rfl
theorem extent_f (b : Body) : PF 85 #[b.v] (.tuple #[.int .i32 (extX b), .int .i32 (extY b)]) := by
  refine PureFn.enter Tryz.func85 (by kernel_rfl) (by kernel_rfl) fun w => ?_
  refine V.new (fun _ => by kernel_rfl) fun b0 => ?_
  refine V.drawn mix (by kernel_rfl) ?_
  refine VD.loads [0, 0, 0, 0] (by kernel_rfl) ?_
  refine VD.callp (abs_f b.ax) 3 (by kernel_rfl) (by kernel_rfl) (by kernel_rfl) ?_
  refine VD.callp (abs_f b.ay) 10 (by kernel_rfl) (by kernel_rfl) (by kernel_rfl) ?_
  refine VD.done (by kernel_rfl) ?_
  exact V.retp _ (by kernel_rfl) (by kernel_rfl) rfl
theorem boxOf_f (b : Body) : PF 62 #[b.v] (boxOf b).v := by
  refine PureFn.enter Tryz.func62 (by kernel_rfl) (by kernel_rfl) fun w => ?_
  refine V.new (fun _ => by kernel_rfl) fun b0 => ?_
  refine V.new (fun _ => by kernel_rfl) fun b1 => ?_
  refine V.loads [0] (by kernel_rfl) ?_
  refine V.callp (extent_f b) (by kernel_rfl) ?_
  refine V.loads [0, 0, 0, 0] (by kernel_rfl) ?_
  refine V.store 1 (by kernel_rfl) (by kernel_rfl) (by kernel_rfl) ?_
  exact V.retlp [1, 1, 1, 1] _ (by kernel_rfl) (by kernel_rfl) (by kernel_rfl) rfl
theorem boxEmpty_f (a : Box) : PF 87 #[a.v] (.bool (boxEmpty a)) := by
  refine PureFn.enter Tryz.func87 (by kernel_rfl) (by kernel_rfl) fun w => ?_
  refine V.new (fun _ => by kernel_rfl) fun b0 => ?_
  refine V.loads [0, 0] (by kernel_rfl) ?_
  refine V.grd 8 (decide (a.x0 > a.x1)) (by kernel_rfl) (fun h => ?_) (fun h => ?_)
  · exact V.retp (.bool true) (by kernel_rfl) (by kernel_rfl) (by simp [boxEmpty, h])
  · refine V.loads [0, 0] (by kernel_rfl) ?_
    exact V.retp (.bool (decide (a.y0 > a.y1))) (by kernel_rfl) (by kernel_rfl) (by simp [boxEmpty, h])
theorem boxMeet_f (a b : Box) : PF 88 #[a.v, b.v] (boxMeet a b).v := by
  refine PureFn.enter Tryz.func88 (by kernel_rfl) (by kernel_rfl) fun w => ?_
  refine V.new (fun _ => by kernel_rfl) fun b0 => ?_
  refine V.new (fun _ => by kernel_rfl) fun b1 => ?_
  refine V.new (fun _ => by kernel_rfl) fun b2 => ?_
  refine V.loads [0, 1, 0, 1, 0, 1, 0, 1] (by kernel_rfl) ?_
  refine V.new (fun _ => by kernel_rfl) fun b3 => ?_
  refine V.store 3 (by kernel_rfl) (by kernel_rfl) (by kernel_rfl) ?_
  refine V.loads [3] (by kernel_rfl) ?_
  refine V.callp (boxEmpty_f (boxCut a b)) (by kernel_rfl) ?_
  refine V.ite (boxEmpty (boxCut a b)) (by kernel_rfl) (fun h => ?_) (fun h => ?_)
  · refine V.loads [1000] (by kernel_rfl) ?_
    refine V.store 2 (by kernel_rfl) (by kernel_rfl) (by kernel_rfl) ?_
    exact V.retlp [2, 2, 2, 2] (Box.v ⟨1, 0, 0, 0⟩) (by kernel_rfl) (by kernel_rfl) (by kernel_rfl) (by simp [boxMeet, h])
  · refine V.loads [3] (by kernel_rfl) ?_
    refine V.store 2 (by kernel_rfl) (by kernel_rfl) (by kernel_rfl) ?_
    exact V.retlp [2, 2, 2, 2] (boxCut a b).v (by kernel_rfl) (by kernel_rfl) (by kernel_rfl) (by simp [boxMeet, h])
theorem overlap_f (a b : Box) : PF 66 #[a.v, b.v] (.bool (overlap a b)) := by
  refine PureFn.enter Tryz.func66 (by kernel_rfl) (by kernel_rfl) fun w => ?_
  refine V.new (fun _ => by kernel_rfl) fun b0 => ?_
  refine V.new (fun _ => by kernel_rfl) fun b1 => ?_
  refine V.loads [0, 1] (by kernel_rfl) ?_
  refine V.callp (boxMeet_f a b) (by kernel_rfl) ?_
  refine V.callp (boxEmpty_f (boxMeet a b)) (by kernel_rfl) ?_
  exact V.retp _ (by kernel_rfl) (by kernel_rfl) rfl
end Go.Ev

namespace Go.Bil
open Go

theorem u64_eq (x : Int) : u64 x = x % 18446744073709551616 := by
  simp [u64, IntKind.wrap, IntKind.bits, IntKind.signed]
theorem u32_eq (x : Int) : u32 x = x % 4294967296 := by
  simp [u32, IntKind.wrap, IntKind.bits, IntKind.signed]
theorem w64_eq (x : Int) : w64 x = if x % 18446744073709551616 ≥ 9223372036854775808 then x % 18446744073709551616 - 18446744073709551616 else x % 18446744073709551616 := by
  simp [w64, IntKind.wrap, IntKind.bits, IntKind.signed]
theorem w32_eq (x : Int) : w32 x = if x % 4294967296 ≥ 2147483648 then x % 4294967296 - 4294967296 else x % 4294967296 := by
  simp [w32, IntKind.wrap, IntKind.bits, IntKind.signed]
theorem u64_id {x : Int} (h0 : 0 ≤ x) (h1 : x < 18446744073709551616) : u64 x = x := by rw [u64_eq]; omega
theorem u32_id {x : Int} (h0 : 0 ≤ x) (h1 : x < 4294967296) : u32 x = x := by rw [u32_eq]; omega
theorem w64_id {x : Int} (h0 : -9223372036854775808 ≤ x) (h1 : x < 9223372036854775808) : w64 x = x := by rw [w64_eq]; split <;> omega
theorem w32_id {x : Int} (h0 : -2147483648 ≤ x) (h1 : x < 2147483648) : w32 x = x := by rw [w32_eq]; split <;> omega
theorem u64_range (x : Int) : 0 ≤ u64 x ∧ u64 x < 18446744073709551616 := by rw [u64_eq]; omega
theorem w64_range (x : Int) : -9223372036854775808 ≤ w64 x ∧ w64 x < 9223372036854775808 := by rw [w64_eq]; split <;> omega
theorem w32_range (x : Int) : -2147483648 ≤ w32 x ∧ w32 x < 2147483648 := by rw [w32_eq]; split <;> omega
theorem u32_range (x : Int) : 0 ≤ u32 x ∧ u32 x < 4294967296 := by rw [u32_eq]; omega
theorem u64_of {x y : Int} (h : x % 18446744073709551616 = y % 18446744073709551616) (h0 : 0 ≤ y) (h1 : y < 18446744073709551616) : u64 x = y := by rw [u64_eq]; omega
theorem w64_of {x y : Int} (h : x % 18446744073709551616 = y % 18446744073709551616) (h0 : -9223372036854775808 ≤ y) (h1 : y < 9223372036854775808) : w64 x = y := by rw [w64_eq]; split <;> omega

/-- bits -/
def band64 (x y : Int) : Int := IntKind.wrap .u64 (BitVec.ofInt 64 x &&& BitVec.ofInt 64 y).toNat
def bor64 (x y : Int) : Int := IntKind.wrap .u64 (BitVec.ofInt 64 x ||| BitVec.ofInt 64 y).toNat
def bxor64 (x y : Int) : Int := IntKind.wrap .u64 (BitVec.ofInt 64 x ^^^ BitVec.ofInt 64 y).toNat
theorem ofInt_toNat64 {x : Int} (h0 : 0 ≤ x) (h1 : x < 18446744073709551616) : ((BitVec.ofInt 64 x).toNat : Int) = x := by
  rw [BitVec.toNat_ofInt]
  omega
theorem band_low32 {x : Int} (h0 : 0 ≤ x) (h1 : x < 18446744073709551616) : band64 x 4294967295 = x % 4294967296 := by
  obtain ⟨n, rfl⟩ := Int.eq_ofNat_of_zero_le h0
  have e1 : BitVec.ofInt 64 (n : Int) = BitVec.ofNat 64 n := by
    apply BitVec.eq_of_toNat_eq
    rw [BitVec.toNat_ofInt, BitVec.toNat_ofNat]
    omega
  have e2 : (BitVec.ofInt 64 (n : Int) &&& BitVec.ofInt 64 4294967295).toNat = n % 4294967296 := by
    rw [BitVec.toNat_and, e1]
    have e3 : (BitVec.ofInt 64 4294967295).toNat = 2 ^ 32 - 1 := by
      rw [BitVec.toNat_ofInt]
      omega
    rw [e3, Nat.and_two_pow_sub_one_eq_mod, BitVec.toNat_ofNat]
    omega
  show u64 _ = _
  rw [e2, u64_eq]
  omega
/-- the two halves do not meet: 'or' is '+' -/
theorem bor_add {m n s : Nat} (hb : n < 2 ^ s) (hs : m * 2 ^ s + n < 18446744073709551616) : bor64 ((m * 2 ^ s : Nat) : Int) ((n : Nat) : Int) = ((m * 2 ^ s + n : Nat) : Int) := by
  show u64 _ = _
  have e1 : ∀ k : Nat, k < 18446744073709551616 → (BitVec.ofInt 64 (k : Int)).toNat = k := fun k hk => by
    rw [BitVec.toNat_ofInt]
    omega
  rw [BitVec.toNat_or, e1 _ (by omega), e1 _ (by omega)]
  have e2 : m * 2 ^ s ||| n = m * 2 ^ s + n := by
    rw [Nat.mul_comm, ← Nat.two_pow_add_eq_or_of_lt hb]
  rw [e2, u64_eq]
  generalize m * 2 ^ s + n = r at *
  omega
end Go.Bil

namespace Go.Bil

/-- how many bits a number has -/
def IsLen (x n : Nat) : Prop := (x = 0 ∧ n = 0) ∨ (0 < n ∧ 2 ^ (n - 1) ≤ x ∧ x < 2 ^ n)
theorem IsLen.unique {x m n : Nat} (h : IsLen x m) (h' : IsLen x n) : m = n := by
  rcases h with ⟨rfl, rfl⟩ | ⟨h1, h2, h3⟩
  · rcases h' with ⟨_, rfl⟩ | ⟨h1, h2, h3⟩
    · rfl
    · have := Nat.two_pow_pos (n - 1); omega
  · rcases h' with ⟨rfl, rfl⟩ | ⟨k1, k2, k3⟩
    · have := Nat.two_pow_pos (m - 1); omega
    · have a1 : m - 1 < n := (Nat.pow_lt_pow_iff_right (a := 2) (by omega)).1 (Nat.lt_of_le_of_lt h2 k3)
      have a2 : n - 1 < m := (Nat.pow_lt_pow_iff_right (a := 2) (by omega)).1 (Nat.lt_of_le_of_lt k2 h3)
      omega
theorem IsLen.up {x n : Nat} (k : Nat) (hx : 2 ^ k ≤ x) (h : IsLen (x / 2 ^ k) n) : IsLen x (n + k) := by
  have hp := Nat.two_pow_pos k
  rcases h with ⟨h1, rfl⟩ | ⟨h1, h2, h3⟩
  · have := Nat.div_pos hx hp; omega
  · refine .inr ⟨by omega, ?_, ?_⟩
    · have : n + k - 1 = n - 1 + k := by omega
      rw [this, Nat.pow_add]
      exact (Nat.le_div_iff_mul_le hp).1 h2
    · rw [Nat.pow_add]
      exact (Nat.div_lt_iff_lt_mul hp).1 h3

/-- the guess of a digit: what holds of it, and when it is right -/
structure Guess (yn1 yn0 un un1 q : Nat) (qh rh : Nat) : Prop where
  sum : qh * yn1 + rh = un
  ge : q ≤ qh
  le : qh ≤ 4294967297
  rlt : rh < 4294967296

theorem Guess.right {yn1 yn0 un un1 q qh rh : Nat} (h : Guess yn1 yn0 un un1 q qh rh)
    (hq : q = (un * 4294967296 + un1) / (yn1 * 4294967296 + yn0)) (hY : 0 < yn1)
    (h2 : qh * yn0 ≤ 4294967296 * rh + un1) : qh = q := by
  have hge := h.ge
  have key : qh * (yn1 * 4294967296 + yn0) ≤ un * 4294967296 + un1 := by
    rw [← h.sum, Nat.mul_add, Nat.add_mul, ← Nat.mul_assoc]
    omega
  have : qh ≤ q := by rw [hq]; exact (Nat.le_div_iff_mul_le (by omega)).2 key
  omega
theorem Guess.wrong {yn1 yn0 un un1 q qh rh : Nat} (h : Guess yn1 yn0 un un1 q qh rh) (hq : q = (un * 4294967296 + un1) / (yn1 * 4294967296 + yn0)) (hq32 : q < 4294967296)
    (hc : 4294967296 ≤ qh ∨ 4294967296 * rh + un1 < qh * yn0) : q + 1 ≤ qh := by
  have hge := h.ge
  rcases hc with hc | hc
  · omega
  · rcases Nat.lt_or_ge q qh with h1 | h1
    · exact h1
    · exfalso
      have e : qh = q := by omega
      have h2 : q * (yn1 * 4294967296 + yn0) ≤ un * 4294967296 + un1 := by rw [hq]; exact Nat.div_mul_le_self _ _
      rw [← e, ← h.sum, Nat.mul_add, Nat.add_mul, ← Nat.mul_assoc] at h2
      omega
theorem Guess.next {yn1 yn0 un un1 q qh rh : Nat} (h : Guess yn1 yn0 un un1 q qh rh) (hw : q + 1 ≤ qh) (hr : rh + yn1 < 4294967296) : Guess yn1 yn0 un un1 q (qh - 1) (rh + yn1) := by
  have hs := h.sum
  have hle := h.le
  refine ⟨?_, by omega, by omega, hr⟩
  have e : qh = (qh - 1) + 1 := by omega
  rw [e, Nat.add_mul] at hs
  omega
theorem Guess.last {yn1 yn0 un un1 q qh rh : Nat} (h : Guess yn1 yn0 un un1 q qh rh) (hy0 : yn0 < 4294967296) (hq : q = (un * 4294967296 + un1) / (yn1 * 4294967296 + yn0)) (hY : 0 < yn1)
    (hw : q + 1 ≤ qh) (hr : 4294967296 ≤ rh + yn1) : qh - 1 = q := by
  have hs := h.sum
  have hle := h.le
  have e : qh = (qh - 1) + 1 := by omega
  have key : (qh - 1) * (yn1 * 4294967296 + yn0) ≤ un * 4294967296 + un1 := by
    rw [e, Nat.add_mul] at hs
    have h3 : (qh - 1) * yn0 ≤ 4294967296 * 4294967295 := Nat.mul_le_mul (by omega) (by omega)
    rw [Nat.mul_add, ← hs, ← Nat.mul_assoc]
    generalize (qh - 1) * yn1 = p at *
    generalize (qh - 1) * yn0 = r at *
    omega
  have : qh - 1 ≤ q := by rw [hq]; exact (Nat.le_div_iff_mul_le (by omega)).2 key
  omega
theorem Guess.first {yn1 yn0 un un1 : Nat} (hy1 : 2147483648 ≤ yn1) (hy1' : yn1 < 4294967296) (hy0 : yn0 < 4294967296) (hun : un < yn1 * 4294967296 + yn0) (hu1 : un1 < 4294967296) :
    Guess yn1 yn0 un un1 ((un * 4294967296 + un1) / (yn1 * 4294967296 + yn0)) (un / yn1) (un % yn1) := by
  have hd := Nat.div_add_mod un yn1
  have hm := Nat.mod_lt un (show 0 < yn1 by omega)
  refine ⟨by rw [Nat.mul_comm]; exact hd, ?_, ?_, by omega⟩
  · have : (un * 4294967296 + un1) / (yn1 * 4294967296 + yn0) < un / yn1 + 1 := by
      rw [Nat.div_lt_iff_lt_mul (by omega), Nat.add_mul, Nat.mul_add, ← Nat.mul_assoc]
      rw [Nat.mul_comm yn1] at hd
      have h0 : 0 ≤ un / yn1 * yn0 := Nat.zero_le _
      generalize un / yn1 * yn1 = p at *
      generalize un / yn1 * yn0 = r at *
      omega
    omega
  · have : un / yn1 < 4294967298 := by
      rw [Nat.div_lt_iff_lt_mul (by omega)]
      omega
    omega
/-- a step of the long division: what is left is below the divisor, and is reckoned in 64 bits -/
theorem step_rest (un un1 Y : Nat) : un * 4294967296 + un1 = (un * 4294967296 + un1) / Y * Y + (un * 4294967296 + un1) % Y := by
  have := Nat.div_add_mod (un * 4294967296 + un1) Y
  rw [Nat.mul_comm] at this
  omega
theorem digit_lt {un un1 Y : Nat} (hun : un < Y) (hu1 : un1 < 4294967296) : (un * 4294967296 + un1) / Y < 4294967296 := by
  rw [Nat.div_lt_iff_lt_mul (by omega)]
  have : un + 1 ≤ Y := hun
  have h := Nat.mul_le_mul_left 4294967296 this
  omega
theorem two_steps_B (B : Nat) {un un1 un0 Y : Nat} (hY : 0 < Y) :
    ((un * B + un1) * B + un0) / Y = (un * B + un1) / Y * B + ((un * B + un1) % Y * B + un0) / Y ∧ ((un * B + un1) * B + un0) % Y = ((un * B + un1) % Y * B + un0) % Y := by
  have h1 := Nat.div_add_mod (un * B + un1) Y
  generalize (un * B + un1) / Y = q1 at *
  generalize (un * B + un1) % Y = r1 at *
  have e : (un * B + un1) * B + un0 = (r1 * B + un0) + Y * (q1 * B) := by
    rw [← h1, Nat.add_mul, Nat.mul_assoc]
    omega
  rw [e]
  constructor
  · rw [Nat.add_mul_div_left _ _ hY]; omega
  · rw [Nat.add_mul_mod_self_left]
theorem two_steps {un un1 un0 Y : Nat} (hY : 0 < Y) :
    ((un * 4294967296 + un1) * 4294967296 + un0) / Y = (un * 4294967296 + un1) / Y * 4294967296 + ((un * 4294967296 + un1) % Y * 4294967296 + un0) / Y ∧
    ((un * 4294967296 + un1) * 4294967296 + un0) % Y = ((un * 4294967296 + un1) % Y * 4294967296 + un0) % Y := two_steps_B 4294967296 hY
end Go.Bil

namespace Go.Ev
open Go Proofs Bil

theorem vInt {k : IntKind} {a b : Int} (h : a = b) : Value.int k a = .int k b := by rw [h]
theorem fdivN (x k : Nat) : Int.fdiv (x : Int) ((k : Nat) : Int) = ((x / k : Nat) : Int) := by
  rw [Int.fdiv_eq_ediv_of_nonneg _ (Int.natCast_nonneg k)]; rfl

/-- the absolute value -/
theorem mag_f (a : Int) (h0 : -9223372036854775808 ≤ a) (h1 : a < 9223372036854775808) : PF 82 #[.int .i64 a] (.int .u64 (a.natAbs : Int)) := by
  refine PureFn.enter Tryz.func82 (by kernel_rfl) (by kernel_rfl) fun w => ?_
  refine V.ite (decide (a < 0)) (by kernel_rfl) (fun h => ?_) (fun h => ?_)
  · have h := of_decide_eq_true h
    exact V.retp (.int .u64 (u64 (0 - u64 a))) (by kernel_rfl) (by kernel_rfl) (vInt (by rw [u64_eq, u64_eq]; omega))
  · have h := of_decide_eq_false h
    exact V.retp (.int .u64 (u64 a)) (by kernel_rfl) (by kernel_rfl) (vInt (by rw [u64_eq]; omega))

theorem mul_raw (x y : Nat) (hx : x < 18446744073709551616) (hy : y < 18446744073709551616) :
    u64 (u64 (u64 (Int.fdiv x 4294967296 * Int.fdiv y 4294967296) + Int.fdiv (u64 (u64 (Int.fdiv x 4294967296 * band64 y 4294967295) + Int.fdiv (u64 (band64 x 4294967295 * band64 y 4294967295)) 4294967296)) 4294967296) +
      Int.fdiv (u64 (band64 (u64 (u64 (Int.fdiv x 4294967296 * band64 y 4294967295) + Int.fdiv (u64 (band64 x 4294967295 * band64 y 4294967295)) 4294967296)) 4294967295 + u64 (band64 x 4294967295 * Int.fdiv y 4294967296))) 4294967296) =
    ((x * y / 18446744073709551616 : Nat) : Int) := by
  have e1 : Int.fdiv (x : Int) 4294967296 = ((x / 4294967296 : Nat) : Int) := fdivN x 4294967296
  have e2 : Int.fdiv (y : Int) 4294967296 = ((y / 4294967296 : Nat) : Int) := fdivN y 4294967296
  have e3 : band64 (x : Int) 4294967295 = ((x % 4294967296 : Nat) : Int) := by rw [band_low32 (by omega) (by omega)]; rfl
  have e4 : band64 (y : Int) 4294967295 = ((y % 4294967296 : Nat) : Int) := by rw [band_low32 (by omega) (by omega)]; rfl
  rw [e1, e2, e3, e4]
  have hx1 : x / 4294967296 < 4294967296 := by omega
  have hy1 : y / 4294967296 < 4294967296 := by omega
  have hx0 : x % 4294967296 < 4294967296 := by omega
  have hy0 : y % 4294967296 < 4294967296 := by omega
  have hprod : x * y = (x / 4294967296 * 4294967296 + x % 4294967296) * (y / 4294967296 * 4294967296 + y % 4294967296) := by
    rw [show x / 4294967296 * 4294967296 + x % 4294967296 = x by omega, show y / 4294967296 * 4294967296 + y % 4294967296 = y by omega]
  rw [hprod]
  clear hprod e1 e2 e3 e4
  generalize x / 4294967296 = x1 at *
  generalize x % 4294967296 = x0 at *
  generalize y / 4294967296 = y1 at *
  generalize y % 4294967296 = y0 at *
  have b00 : x0 * y0 ≤ 4294967295 * 4294967295 := Nat.mul_le_mul (by omega) (by omega)
  have b01 : x0 * y1 ≤ 4294967295 * 4294967295 := Nat.mul_le_mul (by omega) (by omega)
  have b10 : x1 * y0 ≤ 4294967295 * 4294967295 := Nat.mul_le_mul (by omega) (by omega)
  have b11 : x1 * y1 ≤ 4294967295 * 4294967295 := Nat.mul_le_mul (by omega) (by omega)
  have q : (x1 * 4294967296 + x0) * (y1 * 4294967296 + y0) = x1 * y1 * 18446744073709551616 + (x1 * y0 + x0 * y1) * 4294967296 + x0 * y0 := by
    rw [Nat.add_mul, Nat.mul_add, Nat.mul_add, Nat.add_mul]
    have a1 : x1 * 4294967296 * (y1 * 4294967296) = x1 * y1 * 18446744073709551616 := by
      rw [Nat.mul_assoc, Nat.mul_left_comm 4294967296, ← Nat.mul_assoc, Nat.mul_assoc]
    have a2 : x1 * 4294967296 * y0 = x1 * y0 * 4294967296 := by rw [Nat.mul_assoc, Nat.mul_comm 4294967296, ← Nat.mul_assoc]
    have a3 : x0 * (y1 * 4294967296) = x0 * y1 * 4294967296 := by rw [Nat.mul_assoc]
    rw [a1, a2, a3]
    omega
  rw [q]
  clear q
  have c00 : (x0 : Int) * (y0 : Int) = ((x0 * y0 : Nat) : Int) := by rw [Int.natCast_mul]
  have c01 : (x0 : Int) * (y1 : Int) = ((x0 * y1 : Nat) : Int) := by rw [Int.natCast_mul]
  have c10 : (x1 : Int) * (y0 : Int) = ((x1 * y0 : Nat) : Int) := by rw [Int.natCast_mul]
  have c11 : (x1 : Int) * (y1 : Int) = ((x1 * y1 : Nat) : Int) := by rw [Int.natCast_mul]
  rw [c00, c01, c10, c11]
  generalize x0 * y0 = p00 at *
  generalize x0 * y1 = p01 at *
  generalize x1 * y0 = p10 at *
  generalize x1 * y1 = p11 at *
  have d1 : u64 (p00 : Int) = (p00 : Int) := u64_id (by omega) (by omega)
  have d2 : u64 (p10 : Int) = (p10 : Int) := u64_id (by omega) (by omega)
  have d3 : u64 (p01 : Int) = (p01 : Int) := u64_id (by omega) (by omega)
  have d4 : u64 (p11 : Int) = (p11 : Int) := u64_id (by omega) (by omega)
  rw [d1, d2, d3, d4]
  have f1 : Int.fdiv (p00 : Int) 4294967296 = ((p00 / 4294967296 : Nat) : Int) := fdivN p00 4294967296
  rw [f1]
  have d5 : u64 ((p10 : Int) + ((p00 / 4294967296 : Nat) : Int)) = ((p10 + p00 / 4294967296 : Nat) : Int) := by
    rw [u64_id (by omega) (by omega)]; omega
  rw [d5]
  have f2 : Int.fdiv ((p10 + p00 / 4294967296 : Nat) : Int) 4294967296 = (((p10 + p00 / 4294967296) / 4294967296 : Nat) : Int) := fdivN _ 4294967296
  have f3 : band64 ((p10 + p00 / 4294967296 : Nat) : Int) 4294967295 = (((p10 + p00 / 4294967296) % 4294967296 : Nat) : Int) := by rw [band_low32 (by omega) (by omega)]; rfl
  rw [f2, f3]
  have d6 : u64 ((((p10 + p00 / 4294967296) % 4294967296 : Nat) : Int) + (p01 : Int)) = (((p10 + p00 / 4294967296) % 4294967296 + p01 : Nat) : Int) := by
    rw [u64_id (by omega) (by omega)]; omega
  rw [d6]
  have f4 : Int.fdiv (((p10 + p00 / 4294967296) % 4294967296 + p01 : Nat) : Int) 4294967296 = ((((p10 + p00 / 4294967296) % 4294967296 + p01) / 4294967296 : Nat) : Int) := fdivN _ 4294967296
  rw [f4]
  have d7 : u64 ((p11 : Int) + (((p10 + p00 / 4294967296) / 4294967296 : Nat) : Int)) = ((p11 + (p10 + p00 / 4294967296) / 4294967296 : Nat) : Int) := by
    rw [u64_id (by omega) (by omega)]; omega
  rw [d7, u64_id (by omega) (by omega)]
  omega

theorem mul64_f (x y : Nat) (hx : x < 18446744073709551616) (hy : y < 18446744073709551616) :
    PF 81 #[.int .u64 x, .int .u64 y] (.tuple #[.int .u64 ((x * y / 18446744073709551616 : Nat) : Int), .int .u64 ((x * y % 18446744073709551616 : Nat) : Int)]) := by
  refine PureFn.enter Tryz.func81 (by kernel_rfl) (by kernel_rfl) fun w => ?_
  refine V.retp (.tuple #[.int .u64 (u64 (u64 (u64 (Int.fdiv x 4294967296 * Int.fdiv y 4294967296) + Int.fdiv (u64 (u64 (Int.fdiv x 4294967296 * band64 y 4294967295) + Int.fdiv (u64 (band64 x 4294967295 * band64 y 4294967295)) 4294967296)) 4294967296) +
      Int.fdiv (u64 (band64 (u64 (u64 (Int.fdiv x 4294967296 * band64 y 4294967295) + Int.fdiv (u64 (band64 x 4294967295 * band64 y 4294967295)) 4294967296)) 4294967295 + u64 (band64 x 4294967295 * Int.fdiv y 4294967296))) 4294967296)), .int .u64 (u64 (x * y))]) (by kernel_rfl) (by kernel_rfl) ?_
  rw [mul_raw x y hx hy]
  have : u64 ((x : Int) * (y : Int)) = ((x * y % 18446744073709551616 : Nat) : Int) := by
    rw [← Int.natCast_mul, u64_eq]; rfl
  rw [this]
end Go.Ev

namespace Go.Ev
open Go Proofs Bil

/-- the table of lengths -/
def lenTab : ByteArray := ⟨(List.replicate 1 (0 : UInt8) ++ List.replicate 1 1 ++ List.replicate 2 2 ++ List.replicate 4 3 ++ List.replicate 8 4 ++ List.replicate 16 5 ++ List.replicate 32 6 ++ List.replicate 64 7 ++ List.replicate 128 8).toArray⟩
theorem lenTab_size : lenTab.size = 256 := by decide +kernel
def lenChk (j : Fin 256) : Bool :=
  let n := (lenTab[j.val]'(by rw [lenTab_size]; exact j.isLt)).toNat
  (j.val == 0 && n == 0) || (decide (0 < n) && decide (2 ^ (n - 1) ≤ j.val) && decide (j.val < 2 ^ n) && decide (n ≤ 8))
theorem lenTab_all : ∀ j : Fin 256, lenChk j = true := by decide +kernel
theorem lenTab_len (j : Nat) (hj : j < lenTab.size) : IsLen j (lenTab[j]'hj).toNat ∧ (lenTab[j]'hj).toNat ≤ 8 := by
  have hj' : j < 256 := by rw [← lenTab_size]; exact hj
  have h := lenTab_all ⟨j, hj'⟩
  simp only [lenChk, Bool.or_eq_true, Bool.and_eq_true, beq_iff_eq, decide_eq_true_eq] at h
  rcases h with ⟨h1, h2⟩ | ⟨⟨⟨h1, h2⟩, h3⟩, h4⟩
  · exact ⟨.inl ⟨h1, h2⟩, by omega⟩
  · exact ⟨.inr ⟨h1, h2, h3⟩, h4⟩

set_option maxRecDepth 4000 in
theorem len64_f (x n : Nat) (hx : x < 18446744073709551616) (hn : IsLen x n) : PF 115 #[.int .u64 x] (.int .i64 (n : Int)) := by
  refine PureFn.enter Tryz.func115 (by kernel_rfl) (by kernel_rfl) fun w => ?_
  refine V.cut (X := Nat × Nat) 1 [0, 2] (fun p => [.int .u64 (p.1 : Int), .int .i64 (p.2 : Int)]) (fun _ => []) (fun p => p.1 < 4294967296 ∧ p.2 ≤ 32 ∧ (∀ m, IsLen p.1 m → IsLen x (m + p.2))) ?_ (fun after => ?_)
  case refine_2 =>
    refine V.ite (decide ((x : Int) ≥ 4294967296)) (by kernel_rfl) (fun h => ?_) (fun h => ?_)
    · have h := of_decide_eq_true h
      refine V.norm 0 (.int .u64 (Int.fdiv x 4294967296)) (.int .u64 ((x / 4294967296 : Nat) : Int)) (by kernel_rfl) (vInt (fdivN x 4294967296)) ?_
      exact after (x / 4294967296, 32) _ ⟨by dsimp only; omega, by dsimp only; omega, fun m hm => IsLen.up 32 (by omega) hm⟩ (by kernel_rfl) (by kernel_rfl)
    · have h := of_decide_eq_false h
      exact after (x, 0) _ ⟨by dsimp only; omega, by dsimp only; omega, fun m hm => hm⟩ (by kernel_rfl) (by kernel_rfl)
  rintro F ⟨y, c⟩ ⟨hy, hc, hl⟩
  dsimp only at hy hc hl
  refine V.cut (X := Nat × Nat) 1 [0, 2] (fun p => [.int .u64 (p.1 : Int), .int .i64 (p.2 : Int)]) (fun _ => []) (fun p => p.1 < 65536 ∧ p.2 ≤ 48 ∧ (∀ m, IsLen p.1 m → IsLen x (m + p.2))) ?_ (fun after => ?_)
  case refine_2 =>
    refine V.ite (decide ((y : Int) ≥ 65536)) (by kernel_rfl) (fun h => ?_) (fun h => ?_)
    · have h := of_decide_eq_true h
      refine V.norm 0 (.int .u64 (Int.fdiv y 65536)) (.int .u64 ((y / 65536 : Nat) : Int)) (by kernel_rfl) (vInt (fdivN y 65536)) ?_
      refine V.norm 2 (.int .i64 (w64 ((c : Int) + 16))) (.int .i64 ((c + 16 : Nat) : Int)) (by kernel_rfl) (vInt (by rw [w64_id (by omega) (by omega)]; omega)) ?_
      exact after (y / 65536, c + 16) _ ⟨by dsimp only; omega, by dsimp only; omega, fun m hm => by have := hl _ (IsLen.up 16 (by omega) hm); rw [Nat.add_assoc, Nat.add_comm 16 c] at this; exact this⟩ (by kernel_rfl) (by kernel_rfl)
    · have h := of_decide_eq_false h
      exact after (y, c) _ ⟨by dsimp only; omega, by dsimp only; omega, hl⟩ (by kernel_rfl) (by kernel_rfl)
  rintro F ⟨y2, c2⟩ ⟨hy2, hc2, hl2⟩
  dsimp only at hy2 hc2 hl2
  refine V.cut (X := Nat × Nat) 1 [0, 2] (fun p => [.int .u64 (p.1 : Int), .int .i64 (p.2 : Int)]) (fun _ => []) (fun p => p.1 < 256 ∧ p.2 ≤ 56 ∧ (∀ m, IsLen p.1 m → IsLen x (m + p.2))) ?_ (fun after => ?_)
  case refine_2 =>
    refine V.ite (decide ((y2 : Int) ≥ 256)) (by kernel_rfl) (fun h => ?_) (fun h => ?_)
    · have h := of_decide_eq_true h
      refine V.norm 0 (.int .u64 (Int.fdiv y2 256)) (.int .u64 ((y2 / 256 : Nat) : Int)) (by kernel_rfl) (vInt (fdivN y2 256)) ?_
      refine V.norm 2 (.int .i64 (w64 ((c2 : Int) + 8))) (.int .i64 ((c2 + 8 : Nat) : Int)) (by kernel_rfl) (vInt (by rw [w64_id (by omega) (by omega)]; omega)) ?_
      exact after (y2 / 256, c2 + 8) _ ⟨by dsimp only; omega, by dsimp only; omega, fun m hm => by have := hl2 _ (IsLen.up 8 (by omega) hm); rw [Nat.add_assoc, Nat.add_comm 8 c2] at this; exact this⟩ (by kernel_rfl) (by kernel_rfl)
    · have h := of_decide_eq_false h
      exact after (y2, c2) _ ⟨by dsimp only; omega, by dsimp only; omega, hl2⟩ (by kernel_rfl) (by kernel_rfl)
  rintro F ⟨y3, c3⟩ ⟨hy3, hc3, hl3⟩
  dsimp only at hy3 hc3 hl3
  have hj : y3 < lenTab.size := by rw [lenTab_size]; exact hy3
  obtain ⟨h1, h2⟩ := lenTab_len y3 hj
  refine V.norm 21 (.int .u8 (IntKind.wrap .u8 (y3 : Int))) (.int .u8 (y3 : Int)) (by kernel_rfl) (vInt (by simp [IntKind.wrap, IntKind.bits, IntKind.signed]; omega)) ?_
  refine V.strix lenTab .u8 y3 _ (by kernel_rfl) hj rfl ?_
  refine V.retp (.int .i64 (w64 ((c3 : Int) + w64 ((lenTab[y3]'hj).toNat : Int)))) (by kernel_rfl) (by kernel_rfl) (vInt ?_)
  have h3 := hl3 _ h1
  rw [IsLen.unique hn h3, w64_id (x := ((lenTab[y3]'hj).toNat : Int)) (by omega) (by omega), w64_id (by omega) (by omega)]
  omega
theorem lz64_f (x n : Nat) (hx : x < 18446744073709551616) (hn : IsLen x n) (hn64 : n ≤ 64) : PF 101 #[.int .u64 x] (.int .i64 ((64 - n : Nat) : Int)) := by
  refine PureFn.enter Tryz.func101 (by kernel_rfl) (by kernel_rfl) fun w => ?_
  refine V.callp (len64_f x n hx hn) (by kernel_rfl) ?_
  exact V.retp (.int .i64 (w64 (64 - (n : Int)))) (by kernel_rfl) (by kernel_rfl) (vInt (by rw [w64_id (by omega) (by omega)]; omega))
end Go.Ev

namespace Go.Ev
open Go Proofs Bil

theorem castMul (a b : Nat) : (a : Int) * (b : Int) = ((a * b : Nat) : Int) := by rw [Int.natCast_mul]
theorem shlN {x : Nat} {s : Nat} (hs : s ≤ 64) (h : x * 2 ^ s < 18446744073709551616) : IntKind.wrap .u64 ((x : Int) * 2 ^ (min (s : Int).toNat (IntKind.bits .u64))) = ((x * 2 ^ s : Nat) : Int) := by
  show u64 _ = _
  have e : min (s : Int).toNat (IntKind.bits .u64) = s := by simp [IntKind.bits]; omega
  rw [e]
  have e2 : (x : Int) * 2 ^ s = ((x * 2 ^ s : Nat) : Int) := by rw [Int.natCast_mul, Int.natCast_pow]; rfl
  rw [e2]
  generalize x * 2 ^ s = p at *
  exact u64_id (by omega) (by omega)
theorem shlM {x : Nat} {s : Nat} (hs : s ≤ 64) : IntKind.wrap .u64 ((x : Int) * 2 ^ (min (s : Int).toNat (IntKind.bits .u64))) = ((x * 2 ^ s % 18446744073709551616 : Nat) : Int) := by
  show u64 _ = _
  have e : min (s : Int).toNat (IntKind.bits .u64) = s := by simp [IntKind.bits]; omega
  rw [e]
  have e2 : (x : Int) * 2 ^ s = ((x * 2 ^ s : Nat) : Int) := by rw [Int.natCast_mul, Int.natCast_pow]; rfl
  rw [e2]
  generalize x * 2 ^ s = p at *
  rw [u64_eq]; rfl
theorem shrN {x : Nat} {s : Nat} (hs : s ≤ 64) : Int.fdiv (x : Int) (2 ^ (min (s : Int).toNat (IntKind.bits .u64))) = ((x / 2 ^ s : Nat) : Int) := by
  have e : min (s : Int).toNat (IntKind.bits .u64) = s := by simp [IntKind.bits]; omega
  rw [e]
  have e2 : (2 : Int) ^ s = ((2 ^ s : Nat) : Int) := by rw [Int.natCast_pow]; rfl
  rw [e2, fdivN]

/-- hi·2^64 + lo, moved up by s: its upper and its lower half -/
theorem up_halves {hi lo y s : Nat} (hs : s ≤ 63) (hlo : lo < 18446744073709551616) (hhi : hi < y) :
    (hi * 18446744073709551616 + lo) * 2 ^ s = (hi * 2 ^ s + lo / 2 ^ (64 - s)) * 18446744073709551616 + lo * 2 ^ s % 18446744073709551616 ∧
    hi * 2 ^ s + lo / 2 ^ (64 - s) < y * 2 ^ s ∧ lo / 2 ^ (64 - s) < 2 ^ s := by
  have hp : 2 ^ (64 - s) * 2 ^ s = 18446744073709551616 := by rw [← Nat.pow_add]; rw [show 64 - s + s = 64 by omega]
  have hl := Nat.div_add_mod lo (2 ^ (64 - s))
  have hm := Nat.mod_lt lo (Nat.two_pow_pos (64 - s))
  have h3 : lo / 2 ^ (64 - s) < 2 ^ s := by
    rw [Nat.div_lt_iff_lt_mul (Nat.two_pow_pos _), Nat.mul_comm, hp]; exact hlo
  have hle : hi * 2 ^ s + 2 ^ s ≤ y * 2 ^ s := by rw [← Nat.succ_mul]; exact Nat.mul_le_mul_right _ hhi
  refine ⟨?_, by omega, h3⟩
  have e1 : lo * 2 ^ s = lo / 2 ^ (64 - s) * 18446744073709551616 + lo % 2 ^ (64 - s) * 2 ^ s := by
    have : lo * 2 ^ s = (2 ^ (64 - s) * (lo / 2 ^ (64 - s)) + lo % 2 ^ (64 - s)) * 2 ^ s := by rw [hl]
    rw [this, Nat.add_mul, ← hp, Nat.mul_comm (2 ^ (64 - s)), Nat.mul_assoc]
  have h4 : lo % 2 ^ (64 - s) * 2 ^ s < 18446744073709551616 := by
    rw [← hp]; exact Nat.mul_lt_mul_of_pos_right hm (Nat.two_pow_pos s)
  have e2 : lo * 2 ^ s % 18446744073709551616 = lo % 2 ^ (64 - s) * 2 ^ s := by
    rw [e1, Nat.add_comm, Nat.add_mul_mod_self_right, Nat.mod_eq_of_lt h4]
  rw [e2, Nat.add_mul, e1, Nat.mul_assoc, Nat.mul_comm 18446744073709551616 (2 ^ s), ← Nat.mul_assoc]
  generalize hi * 2 ^ s = p at *
  generalize lo % 2 ^ (64 - s) * 2 ^ s = r at *
  generalize lo / 2 ^ (64 - s) = t at *
  omega

/-- what is left behind a digit, reckoned in 64 bits -/
theorem rest64 {un un1 Y : Nat} (hY : Y < 18446744073709551616) (hp : 0 < Y) :
    u64 (u64 (u64 ((un : Int) * 4294967296) + (un1 : Int)) - u64 ((((un * 4294967296 + un1) / Y : Nat) : Int) * (Y : Int))) = (((un * 4294967296 + un1) % Y : Nat) : Int) := by
  have h := step_rest un un1 Y
  have hm := Nat.mod_lt (un * 4294967296 + un1) hp
  rw [castMul]
  generalize (un * 4294967296 + un1) / Y * Y = p at *
  generalize (un * 4294967296 + un1) % Y = r at *
  refine u64_of ?_ (by omega) (by omega)
  rw [u64_eq, u64_eq, u64_eq]
  omega

theorem subw {q yn1 un rh : Nat} (h : q * yn1 + rh = un) (hun : un < 18446744073709551616) : u64 ((un : Int) - u64 ((q : Int) * (yn1 : Int))) = (rh : Int) := by
  rw [castMul]
  generalize q * yn1 = p at *
  rw [u64_id (x := (p : Int)) (by omega) (by omega), u64_id (by omega) (by omega)]
  omega

set_option maxRecDepth 8000 in
theorem div64_f (hi lo y n : Nat) (hlo : lo < 18446744073709551616) (hy : y < 18446744073709551616) (hhi : hi < y) (hn : IsLen y n) :
    PF 83 #[.int .u64 hi, .int .u64 lo, .int .u64 y] (.tuple #[.int .u64 (((hi * 18446744073709551616 + lo) / y : Nat) : Int), .int .u64 (((hi * 18446744073709551616 + lo) % y : Nat) : Int)]) := by
  have hn' : 0 < n ∧ 2 ^ (n - 1) ≤ y ∧ y < 2 ^ n := by
    rcases hn with ⟨h, _⟩ | h
    · omega
    · exact h
  have hn64 : n ≤ 64 := by
    have : n - 1 < 64 := (Nat.pow_lt_pow_iff_right (a := 2) (by omega)).1 (Nat.lt_of_le_of_lt hn'.2.1 hy)
    omega
  refine PureFn.enter Tryz.func83 (by kernel_rfl) (by kernel_rfl) fun w => ?_
  refine V.ifb ((y : Int) == 0) false (by kernel_rfl) (by rw [beq_eq_false_iff_ne]; omega) ?_
  refine V.ifb (decide ((y : Int) ≤ (hi : Int))) false (by kernel_rfl) (by rw [decide_eq_false_iff_not]; omega) ?_
  refine V.ite ((hi : Int) == 0) (by kernel_rfl) (fun h => ?_) (fun h => ?_)
  · have h : (hi : Int) = 0 := by simpa using h
    have h : hi = 0 := by omega
    subst h
    refine V.drawn mix (by kernel_rfl) ?_
    refine VD.quo 2 .u64 lo y ((lo / y : Nat) : Int) (by kernel_rfl) (by kernel_rfl) (by omega) ?_ ?_
    · show u64 _ = _
      have hd : lo / y ≤ lo := Nat.div_le_self _ _
      rw [Int.tdiv_eq_ediv_of_nonneg (by omega), ← Int.natCast_ediv]
      generalize lo / y = q at *
      rw [u64_id (by omega) (by omega)]
    refine VD.rem 5 .u64 lo y ((lo % y : Nat) : Int) (by kernel_rfl) (by kernel_rfl) (by omega) ?_ ?_
    · rw [Int.tmod_eq_emod_of_nonneg (by omega), ← Int.natCast_emod]
    refine VD.done (by kernel_rfl) ?_
    refine V.retp (.tuple #[.int .u64 ((lo / y : Nat) : Int), .int .u64 ((lo % y : Nat) : Int)]) (by kernel_rfl) (by kernel_rfl) (by rw [Nat.zero_mul, Nat.zero_add])
  · clear h
    refine V.callp (lz64_f y n hy hn hn64) (by kernel_rfl) ?_
    obtain ⟨s, hs, hs63⟩ : ∃ s, s = 64 - n ∧ s ≤ 63 := ⟨_, rfl, by omega⟩
    have hu : u64 ((64 - n : Nat) : Int) = (s : Int) := by rw [← hs, u64_id (by omega) (by omega)]
    have hY : y * 2 ^ s < 18446744073709551616 := by
      have : 2 ^ n * 2 ^ s = 18446744073709551616 := by rw [← Nat.pow_add, show n + s = 64 by omega]
      rw [← this]; exact Nat.mul_lt_mul_of_pos_right hn'.2.2 (Nat.two_pow_pos s)
    have hY2 : 9223372036854775808 ≤ y * 2 ^ s := by
      have : 2 ^ (n - 1) * 2 ^ s = 9223372036854775808 := by rw [← Nat.pow_add, show n - 1 + s = 63 by omega]
      rw [← this]; exact Nat.mul_le_mul_right _ hn'.2.1
    obtain ⟨hU, hun, hlt⟩ := up_halves hs63 hlo hhi
    have hdivY : (hi * 18446744073709551616 + lo) * 2 ^ s / (y * 2 ^ s) = (hi * 18446744073709551616 + lo) / y := Nat.mul_div_mul_right _ _ (Nat.two_pow_pos s)
    have hmodY : (hi * 18446744073709551616 + lo) * 2 ^ s % (y * 2 ^ s) = (hi * 18446744073709551616 + lo) % y * 2 ^ s := Nat.mul_mod_mul_right _ _ _
    have hhi64 : hi * 2 ^ s < 18446744073709551616 := Nat.lt_of_le_of_lt (Nat.le_add_right _ _) (Nat.lt_trans hun hY)
    rw [hU] at hdivY hmodY
    refine V.norm 38 (.int .u64 (u64 ((64 - n : Nat) : Int))) (.int .u64 (s : Int)) (by kernel_rfl) (vInt hu) ?_
    refine V.norm 8 (.int .u64 (u64 ((64 - n : Nat) : Int))) (.int .u64 (s : Int)) (by kernel_rfl) (vInt hu) ?_
    refine V.shl .u64 .u64 y s ((y * 2 ^ s : Nat) : Int) (by kernel_rfl) (by omega) (shlN (by omega) hY) ?_
    obtain ⟨Y, hYd⟩ : ∃ Y, Y = y * 2 ^ s := ⟨_, rfl⟩
    rw [← hYd] at hY hY2 hun hdivY hmodY
    -- the halves of Y
    refine V.norm 9 (.int .u64 (Int.fdiv ((y * 2 ^ s : Nat) : Int) 4294967296)) (.int .u64 ((Y / 4294967296 : Nat) : Int)) (by kernel_rfl) (vInt (by rw [hYd]; exact fdivN _ 4294967296)) ?_
    refine V.norm 10 (.int .u64 (band64 ((y * 2 ^ s : Nat) : Int) 4294967295)) (.int .u64 ((Y % 4294967296 : Nat) : Int)) (by kernel_rfl) (vInt (by rw [← hYd, band_low32 (by omega) (by omega)]; rfl)) ?_
    refine V.norm 2 (.int .u64 ((y * 2 ^ s : Nat) : Int)) (.int .u64 (Y : Int)) (by kernel_rfl) (vInt (by rw [hYd])) ?_
    refine V.shl .u64 .u64 hi s ((hi * 2 ^ s : Nat) : Int) (by kernel_rfl) (by omega) (shlN (by omega) hhi64) ?_
    refine V.norm 49 (.int .u64 (u64 (64 - (s : Int)))) (.int .u64 ((64 - s : Nat) : Int)) (by kernel_rfl) (vInt (by rw [u64_id (by omega) (by omega)]; omega)) ?_
    refine V.shr .u64 .u64 lo (64 - s : Nat) ((lo / 2 ^ (64 - s) : Nat) : Int) (by kernel_rfl) (by omega) (shrN (by omega)) ?_
    obtain ⟨un, hund⟩ : ∃ un, un = hi * 2 ^ s + lo / 2 ^ (64 - s) := ⟨_, rfl⟩
    refine V.norm 11 (.int .u64 (bor64 ((hi * 2 ^ s : Nat) : Int) ((lo / 2 ^ (64 - s) : Nat) : Int))) (.int .u64 (un : Int)) (by kernel_rfl) (vInt (by rw [hund]; exact bor_add hlt (Nat.lt_trans hun hY))) ?_
    refine V.shl .u64 .u64 lo s ((lo * 2 ^ s % 18446744073709551616 : Nat) : Int) (by kernel_rfl) (by omega) (shlM (by omega)) ?_
    rw [← hund] at hun hdivY hmodY hU
    obtain ⟨u1, hu1d⟩ : ∃ u, u = lo * 2 ^ s % 18446744073709551616 / 4294967296 := ⟨_, rfl⟩
    obtain ⟨u0, hu0d⟩ : ∃ u, u = lo * 2 ^ s % 18446744073709551616 % 4294967296 := ⟨_, rfl⟩
    have hm64 : lo * 2 ^ s % 18446744073709551616 < 18446744073709551616 := Nat.mod_lt _ (by omega)
    have hu1 : u1 < 4294967296 := by omega
    have hu0 : u0 < 4294967296 := by omega
    have hsplit : un * 18446744073709551616 + lo * 2 ^ s % 18446744073709551616 = (un * 4294967296 + u1) * 4294967296 + u0 := by omega
    rw [hsplit] at hdivY hmodY
    refine V.norm 13 (.int .u64 (Int.fdiv ((lo * 2 ^ s % 18446744073709551616 : Nat) : Int) 4294967296)) (.int .u64 (u1 : Int)) (by kernel_rfl) (vInt (by rw [hu1d]; exact fdivN _ 4294967296)) ?_
    refine V.norm 14 (.int .u64 (band64 ((lo * 2 ^ s % 18446744073709551616 : Nat) : Int) 4294967295)) (.int .u64 (u0 : Int)) (by kernel_rfl) (vInt (by rw [band_low32 (by omega) (by omega), hu0d]; rfl)) ?_
    have hy1 : 2147483648 ≤ Y / 4294967296 := by omega
    have hy1' : Y / 4294967296 < 4294967296 := by omega
    have hy0 : Y % 4294967296 < 4294967296 := by omega
    have hYs : Y = Y / 4294967296 * 4294967296 + Y % 4294967296 := by omega
    have hun64 : un < 18446744073709551616 := by omega
    refine V.quo .u64 un (Y / 4294967296 : Nat) ((un / (Y / 4294967296) : Nat) : Int) (by kernel_rfl) (by omega) ?_ ?_
    · show u64 _ = _
      have hd : un / (Y / 4294967296) ≤ un := Nat.div_le_self _ _
      rw [Int.tdiv_eq_ediv_of_nonneg (by omega), ← Int.natCast_ediv]
      generalize un / (Y / 4294967296) = q at *
      rw [u64_id (by omega) (by omega)]
    have g0 := Guess.first (yn1 := Y / 4294967296) (yn0 := Y % 4294967296) (un := un) (un1 := u1) hy1 hy1' hy0 (by omega) hu1
    obtain ⟨q1, hq1d⟩ : ∃ q, q = (un * 4294967296 + u1) / Y := ⟨_, rfl⟩
    rw [← hYs, ← hq1d] at g0
    have hq1lt : q1 < 4294967296 := by rw [hq1d]; exact digit_lt hun hu1
    refine V.cut (X := Unit) 1 [0, 1, 2, 8, 9, 10, 11, 13, 14, 15] (fun _ => [.int .u64 hi, .int .u64 lo, .int .u64 Y, .int .u64 s, .int .u64 (Y / 4294967296 : Nat), .int .u64 (Y % 4294967296 : Nat), .int .u64 un, .int .u64 u1, .int .u64 u0, .int .u64 q1]) (fun _ => []) (fun _ => True) ?_ (fun after => ?_)
    case refine_2 =>
      refine V.norm 16 (.int .u64 (u64 ((un : Int) - u64 (((un / (Y / 4294967296) : Nat) : Int) * ((Y / 4294967296 : Nat) : Int))))) (.int .u64 ((un % (Y / 4294967296) : Nat) : Int)) (by kernel_rfl) (vInt (subw g0.sum hun64)) ?_
      refine V.loop (X := Nat × Nat) [0, 1, 2, 8, 9, 10, 11, 13, 14, 15, 16] (fun p => [.int .u64 hi, .int .u64 lo, .int .u64 Y, .int .u64 s, .int .u64 (Y / 4294967296 : Nat), .int .u64 (Y % 4294967296 : Nat), .int .u64 un, .int .u64 u1, .int .u64 u0, .int .u64 (p.1 : Int), .int .u64 (p.2 : Int)])
        (fun _ => []) (fun p => Guess (Y / 4294967296) (Y % 4294967296) un u1 q1 p.1 p.2) (fun p => p.1) (un / (Y / 4294967296), un % (Y / 4294967296)) (by kernel_rfl) (by kernel_rfl) rfl g0 ?_
      rintro F ⟨qh, rh⟩ hg again
      dsimp only at hg
      have hle := hg.le
      have hrl := hg.rlt
      have hwrong : (4294967296 ≤ qh ∨ 4294967296 * rh + u1 < qh * (Y % 4294967296)) → q1 + 1 ≤ qh := hg.wrong (by rw [← hYs]; exact hq1d) hq1lt
      have hprod : qh < 4294967296 → qh * (Y % 4294967296) ≤ 4294967295 * 4294967295 := fun h => Nat.mul_le_mul (by omega) (by omega)
      refine V.grd 69 (decide ((qh : Int) ≥ 4294967296)) (by kernel_rfl) (fun h => ?_) (fun h => ?_)
      · have h := of_decide_eq_true h
        have hw := hwrong (.inl (by omega))
        refine V.ifb true true (by kernel_rfl) rfl ?_
        refine V.norm 15 (.int .u64 (u64 ((qh : Int) - 1))) (.int .u64 ((qh - 1 : Nat) : Int)) (by kernel_rfl) (vInt (by rw [u64_id (by omega) (by omega)]; omega)) ?_
        refine V.norm 16 (.int .u64 (u64 ((rh : Int) + ((Y / 4294967296 : Nat) : Int)))) (.int .u64 ((rh + Y / 4294967296 : Nat) : Int)) (by kernel_rfl) (vInt (by rw [u64_id (by omega) (by omega)]; omega)) ?_
        refine V.ite (decide (u64 ((rh : Int) + ((Y / 4294967296 : Nat) : Int)) ≥ 4294967296)) (by kernel_rfl) (fun h2 => ?_) (fun h2 => ?_)
        · have h2 := of_decide_eq_true h2
          rw [u64_id (by omega) (by omega)] at h2
          have hq := hg.last hy0 (by rw [← hYs]; exact hq1d) (by omega) hw (by omega)
          refine V.norm 15 (.int .u64 ((qh - 1 : Nat) : Int)) (.int .u64 (q1 : Int)) (by kernel_rfl) (vInt (by rw [hq])) ?_
          exact after () _ trivial (by kernel_rfl) (by kernel_rfl)
        · have h2 := of_decide_eq_false h2
          rw [u64_id (by omega) (by omega)] at h2
          exact again (qh - 1, rh + Y / 4294967296) _ (hg.next hw (by omega)) (by dsimp only; omega) (by kernel_rfl) (by kernel_rfl)
      · have h := of_decide_eq_false h
        have hpr := hprod (by omega)
        refine V.ite (decide (u64 ((qh : Int) * ((Y % 4294967296 : Nat) : Int)) > u64 (u64 (4294967296 * (rh : Int)) + (u1 : Int)))) (by kernel_rfl) (fun h1 => ?_) (fun h1 => ?_)
        · have h1 := of_decide_eq_true h1
          rw [castMul, u64_id (x := 4294967296 * (rh : Int)) (by omega) (by omega)] at h1
          generalize hP : qh * (Y % 4294967296) = pr at *
          rw [u64_id (by omega) (by omega), u64_id (by omega) (by omega)] at h1
          have hw := hwrong (.inr (by omega))
          refine V.norm 15 (.int .u64 (u64 ((qh : Int) - 1))) (.int .u64 ((qh - 1 : Nat) : Int)) (by kernel_rfl) (vInt (by rw [u64_id (by omega) (by omega)]; omega)) ?_
          refine V.norm 16 (.int .u64 (u64 ((rh : Int) + ((Y / 4294967296 : Nat) : Int)))) (.int .u64 ((rh + Y / 4294967296 : Nat) : Int)) (by kernel_rfl) (vInt (by rw [u64_id (by omega) (by omega)]; omega)) ?_
          refine V.ite (decide (u64 ((rh : Int) + ((Y / 4294967296 : Nat) : Int)) ≥ 4294967296)) (by kernel_rfl) (fun h2 => ?_) (fun h2 => ?_)
          · have h2 := of_decide_eq_true h2
            rw [u64_id (by omega) (by omega)] at h2
            have hq := hg.last hy0 (by rw [← hYs]; exact hq1d) (by omega) hw (by omega)
            refine V.norm 15 (.int .u64 ((qh - 1 : Nat) : Int)) (.int .u64 (q1 : Int)) (by kernel_rfl) (vInt (by rw [hq])) ?_
            exact after () _ trivial (by kernel_rfl) (by kernel_rfl)
          · have h2 := of_decide_eq_false h2
            rw [u64_id (by omega) (by omega)] at h2
            exact again (qh - 1, rh + Y / 4294967296) _ (hg.next hw (by omega)) (by dsimp only; omega) (by kernel_rfl) (by kernel_rfl)
        · have h1 := of_decide_eq_false h1
          rw [castMul, u64_id (x := 4294967296 * (rh : Int)) (by omega) (by omega)] at h1
          have hq : qh = q1 := by
            refine hg.right (by rw [← hYs]; exact hq1d) (by omega) ?_
            generalize qh * (Y % 4294967296) = pr at *
            rw [u64_id (by omega) (by omega), u64_id (by omega) (by omega)] at h1
            omega
          subst hq
          exact after () _ trivial (by kernel_rfl) (by kernel_rfl)
    -- the second digit
    rintro F _ _
    obtain ⟨un2, hun2d⟩ : ∃ u, u = (un * 4294967296 + u1) % Y := ⟨_, rfl⟩
    have hun2 : un2 < Y := by rw [hun2d]; exact Nat.mod_lt _ (by omega)
    refine V.norm 17 (.int .u64 (u64 (u64 (u64 ((un : Int) * 4294967296) + (u1 : Int)) - u64 ((q1 : Int) * (Y : Int))))) (.int .u64 (un2 : Int)) (by kernel_rfl) (vInt (by rw [hun2d, hq1d]; exact rest64 hY (by omega))) ?_
    refine V.norm 94 (.int .u64 (u64 (u64 (u64 ((un : Int) * 4294967296) + (u1 : Int)) - u64 ((q1 : Int) * (Y : Int))))) (.int .u64 (un2 : Int)) (by kernel_rfl) (vInt (by rw [hun2d, hq1d]; exact rest64 hY (by omega))) ?_
    refine V.quo .u64 un2 (Y / 4294967296 : Nat) ((un2 / (Y / 4294967296) : Nat) : Int) (by kernel_rfl) (by omega) ?_ ?_
    · show u64 _ = _
      have hd : un2 / (Y / 4294967296) ≤ un2 := Nat.div_le_self _ _
      rw [Int.tdiv_eq_ediv_of_nonneg (by omega), ← Int.natCast_ediv]
      generalize un2 / (Y / 4294967296) = q at *
      rw [u64_id (by omega) (by omega)]
    have g1 := Guess.first (yn1 := Y / 4294967296) (yn0 := Y % 4294967296) (un := un2) (un1 := u0) hy1 hy1' hy0 (by omega) hu0
    obtain ⟨q0, hq0d⟩ : ∃ q, q = (un2 * 4294967296 + u0) / Y := ⟨_, rfl⟩
    rw [← hYs, ← hq0d] at g1
    have hq0lt : q0 < 4294967296 := by rw [hq0d]; exact digit_lt hun2 hu0
    refine V.cut (X := Unit) 1 [2, 8, 14, 15, 17, 18] (fun _ => [.int .u64 Y, .int .u64 s, .int .u64 u0, .int .u64 q1, .int .u64 un2, .int .u64 q0]) (fun _ => []) (fun _ => True) ?_ (fun after => ?_)
    case refine_2 =>
      refine V.norm 16 (.int .u64 (u64 ((un2 : Int) - u64 (((un2 / (Y / 4294967296) : Nat) : Int) * ((Y / 4294967296 : Nat) : Int))))) (.int .u64 ((un2 % (Y / 4294967296) : Nat) : Int)) (by kernel_rfl) (vInt (subw g1.sum (by omega))) ?_
      refine V.loop (X := Nat × Nat) [2, 8, 9, 10, 14, 15, 17, 18, 16] (fun p => [.int .u64 Y, .int .u64 s, .int .u64 (Y / 4294967296 : Nat), .int .u64 (Y % 4294967296 : Nat), .int .u64 u0, .int .u64 q1, .int .u64 un2, .int .u64 (p.1 : Int), .int .u64 (p.2 : Int)])
        (fun _ => []) (fun p => Guess (Y / 4294967296) (Y % 4294967296) un2 u0 q0 p.1 p.2) (fun p => p.1) (un2 / (Y / 4294967296), un2 % (Y / 4294967296)) (by kernel_rfl) (by kernel_rfl) rfl g1 ?_
      rintro F ⟨qh, rh⟩ hg again
      dsimp only at hg
      have hle := hg.le
      have hrl := hg.rlt
      have hwrong : (4294967296 ≤ qh ∨ 4294967296 * rh + u0 < qh * (Y % 4294967296)) → q0 + 1 ≤ qh := hg.wrong (by rw [← hYs]; exact hq0d) hq0lt
      have hprod : qh < 4294967296 → qh * (Y % 4294967296) ≤ 4294967295 * 4294967295 := fun h => Nat.mul_le_mul (by omega) (by omega)
      refine V.grd 104 (decide ((qh : Int) ≥ 4294967296)) (by kernel_rfl) (fun h => ?_) (fun h => ?_)
      · have h := of_decide_eq_true h
        have hw := hwrong (.inl (by omega))
        refine V.ifb true true (by kernel_rfl) rfl ?_
        refine V.norm 18 (.int .u64 (u64 ((qh : Int) - 1))) (.int .u64 ((qh - 1 : Nat) : Int)) (by kernel_rfl) (vInt (by rw [u64_id (by omega) (by omega)]; omega)) ?_
        refine V.norm 16 (.int .u64 (u64 ((rh : Int) + ((Y / 4294967296 : Nat) : Int)))) (.int .u64 ((rh + Y / 4294967296 : Nat) : Int)) (by kernel_rfl) (vInt (by rw [u64_id (by omega) (by omega)]; omega)) ?_
        refine V.ite (decide (u64 ((rh : Int) + ((Y / 4294967296 : Nat) : Int)) ≥ 4294967296)) (by kernel_rfl) (fun h2 => ?_) (fun h2 => ?_)
        · have h2 := of_decide_eq_true h2
          rw [u64_id (by omega) (by omega)] at h2
          have hq := hg.last hy0 (by rw [← hYs]; exact hq0d) (by omega) hw (by omega)
          refine V.norm 18 (.int .u64 ((qh - 1 : Nat) : Int)) (.int .u64 (q0 : Int)) (by kernel_rfl) (vInt (by rw [hq])) ?_
          exact after () _ trivial (by kernel_rfl) (by kernel_rfl)
        · have h2 := of_decide_eq_false h2
          rw [u64_id (by omega) (by omega)] at h2
          exact again (qh - 1, rh + Y / 4294967296) _ (hg.next hw (by omega)) (by dsimp only; omega) (by kernel_rfl) (by kernel_rfl)
      · have h := of_decide_eq_false h
        have hpr := hprod (by omega)
        refine V.ite (decide (u64 ((qh : Int) * ((Y % 4294967296 : Nat) : Int)) > u64 (u64 (4294967296 * (rh : Int)) + (u0 : Int)))) (by kernel_rfl) (fun h1 => ?_) (fun h1 => ?_)
        · have h1 := of_decide_eq_true h1
          rw [castMul, u64_id (x := 4294967296 * (rh : Int)) (by omega) (by omega)] at h1
          generalize hP : qh * (Y % 4294967296) = pr at *
          rw [u64_id (by omega) (by omega), u64_id (by omega) (by omega)] at h1
          have hw := hwrong (.inr (by omega))
          refine V.norm 18 (.int .u64 (u64 ((qh : Int) - 1))) (.int .u64 ((qh - 1 : Nat) : Int)) (by kernel_rfl) (vInt (by rw [u64_id (by omega) (by omega)]; omega)) ?_
          refine V.norm 16 (.int .u64 (u64 ((rh : Int) + ((Y / 4294967296 : Nat) : Int)))) (.int .u64 ((rh + Y / 4294967296 : Nat) : Int)) (by kernel_rfl) (vInt (by rw [u64_id (by omega) (by omega)]; omega)) ?_
          refine V.ite (decide (u64 ((rh : Int) + ((Y / 4294967296 : Nat) : Int)) ≥ 4294967296)) (by kernel_rfl) (fun h2 => ?_) (fun h2 => ?_)
          · have h2 := of_decide_eq_true h2
            rw [u64_id (by omega) (by omega)] at h2
            have hq := hg.last hy0 (by rw [← hYs]; exact hq0d) (by omega) hw (by omega)
            refine V.norm 18 (.int .u64 ((qh - 1 : Nat) : Int)) (.int .u64 (q0 : Int)) (by kernel_rfl) (vInt (by rw [hq])) ?_
            exact after () _ trivial (by kernel_rfl) (by kernel_rfl)
          · have h2 := of_decide_eq_false h2
            rw [u64_id (by omega) (by omega)] at h2
            exact again (qh - 1, rh + Y / 4294967296) _ (hg.next hw (by omega)) (by dsimp only; omega) (by kernel_rfl) (by kernel_rfl)
        · have h1 := of_decide_eq_false h1
          rw [castMul, u64_id (x := 4294967296 * (rh : Int)) (by omega) (by omega)] at h1
          have hq : qh = q0 := by
            refine hg.right (by rw [← hYs]; exact hq0d) (by omega) ?_
            generalize qh * (Y % 4294967296) = pr at *
            rw [u64_id (by omega) (by omega), u64_id (by omega) (by omega)] at h1
            omega
          subst hq
          exact after () _ trivial (by kernel_rfl) (by kernel_rfl)
    -- the end
    rintro F _ _
    have htw := two_steps (un := un) (un1 := u1) (un0 := u0) (show 0 < Y by omega)
    rw [← hq1d, ← hun2d, ← hq0d] at htw
    obtain ⟨r0, hr0d⟩ : ∃ r, r = (un2 * 4294967296 + u0) % Y := ⟨_, rfl⟩
    rw [← hr0d] at htw
    have hq : q1 * 4294967296 + q0 = (hi * 18446744073709551616 + lo) / y := by rw [← hdivY, htw.1]
    have hr : r0 = (hi * 18446744073709551616 + lo) % y * 2 ^ s := by rw [← hmodY, htw.2]
    refine V.norm 132 (.int .u64 (u64 (u64 (u64 ((un2 : Int) * 4294967296) + (u0 : Int)) - u64 ((q0 : Int) * (Y : Int))))) (.int .u64 (r0 : Int)) (by kernel_rfl) (vInt (by rw [hr0d, hq0d]; exact rest64 hY (by omega))) ?_
    refine V.shr .u64 .u64 r0 s ((r0 / 2 ^ s : Nat) : Int) (by kernel_rfl) (by omega) (shrN (by omega)) ?_
    refine V.retp (.tuple #[.int .u64 (u64 (u64 ((q1 : Int) * 4294967296) + (q0 : Int))), .int .u64 ((r0 / 2 ^ s : Nat) : Int)]) (by kernel_rfl) (by kernel_rfl) ?_
    have e1 : u64 (u64 ((q1 : Int) * 4294967296) + (q0 : Int)) = ((q1 * 4294967296 + q0 : Nat) : Int) := by
      rw [u64_id (x := (q1 : Int) * 4294967296) (by omega) (by omega), u64_id (by omega) (by omega)]
      omega
    rw [e1, hq, hr, Nat.mul_div_cancel _ (Nat.two_pow_pos s)]
end Go.Ev

namespace Go.Ev
open Go Proofs Bil

/-- a contract over this program -/
abbrev SP {X : Type} (g : Nat) (args : Array Value) (Pw : World → Prop) (C : List Ent) (val : X → Value) (φ : X → Prop) (C' : X → List Ent) : Prop := Spec Tryz.prog GLS g args Pw C val φ C'
def ptr (b : Nat) : Value := .pointer (some ⟨b, 0, none⟩)
def cell1 (b : Nat) (v : Value) (t : TypeId) : Ent := .blk b (.cells #[v] t (0, 0))

theorem neg_ediv (m d : Nat) (hd : 0 < d) : (-(m : Int)) / (d : Int) = -((m / d : Nat) : Int) - (if m % d = 0 then 0 else 1) := by
  have h := Nat.div_add_mod m d
  have hm := Nat.mod_lt m hd
  have key : (-(m : Int)) / (d : Int) = -((m / d : Nat) : Int) - (if m % d = 0 then 0 else 1) ∧ (-(m : Int)) % (d : Int) = (if m % d = 0 then 0 else (d : Int) - ((m % d : Nat) : Int)) := by
    rw [Int.ediv_emod_unique (by omega)]
    have hI : ((m : Nat) : Int) = (d : Int) * ((m / d : Nat) : Int) + ((m % d : Nat) : Int) := by
      rw [← Int.natCast_mul, ← Int.natCast_add, h]
    by_cases h0 : m % d = 0
    · rw [if_pos h0, if_pos h0]
      rw [h0] at hI
      refine ⟨?_, by omega, by omega⟩
      rw [Int.sub_zero, Int.mul_neg]
      omega
    · rw [if_neg h0, if_neg h0]
      refine ⟨?_, by omega, by omega⟩
      rw [Int.mul_sub, Int.mul_neg, Int.mul_one]
      omega
  exact key.1

/-- the sign of the quotient -/
def ngv (a b c : Int) : Bool := !((!(decide (a < 0) == decide (b < 0))) == decide (c < 0))
theorem abs_prod (a b : Int) : (a * b).natAbs = a.natAbs * b.natAbs := Int.natAbs_mul a b
theorem prod_sign {a b : Int} : (decide (a < 0) == decide (b < 0)) = true → a * b = ((a.natAbs * b.natAbs : Nat) : Int) := by
  intro h
  rw [← abs_prod]
  have h2 : decide (a < 0) = decide (b < 0) := by simpa using h
  by_cases ha : a < 0
  · have hb : b < 0 := by rw [decide_eq_true ha] at h2; exact of_decide_eq_true h2.symm
    have := Int.mul_pos_of_neg_of_neg ha hb
    omega
  · have hb : ¬ b < 0 := by rw [decide_eq_false ha] at h2; exact of_decide_eq_false h2.symm
    have := Int.mul_nonneg (a := a) (b := b) (by omega) (by omega)
    omega
theorem prod_sign' {a b : Int} : (decide (a < 0) == decide (b < 0)) = false → a * b = -((a.natAbs * b.natAbs : Nat) : Int) := by
  intro h
  rw [← abs_prod]
  have h2 : ¬ decide (a < 0) = decide (b < 0) := by simpa using h
  by_cases ha : a < 0
  · have hb : ¬ b < 0 := fun hb => h2 (by rw [decide_eq_true ha, decide_eq_true hb])
    have := Int.mul_nonpos_of_nonpos_of_nonneg (a := a) (b := b) (by omega) (by omega)
    omega
  · have hb : b < 0 := Decidable.byContradiction fun hb => h2 (by rw [decide_eq_false ha, decide_eq_false hb])
    have := Int.mul_nonpos_of_nonneg_of_nonpos (a := a) (b := b) (by omega) (by omega)
    omega
theorem fl_pos {a b c : Int} (h : ngv a b c = false) : fl (a * b) c = ((a.natAbs * b.natAbs / c.natAbs : Nat) : Int) := by
  unfold ngv at h
  unfold fl
  by_cases hcn : c < 0
  · rw [if_pos hcn]
    rw [decide_eq_true hcn] at h
    have : (decide (a < 0) == decide (b < 0)) = false := by simpa using h
    rw [prod_sign' this]
    have e : -c = (c.natAbs : Int) := by omega
    rw [Int.neg_neg, e, ← Int.natCast_ediv]
  · rw [if_neg hcn]
    rw [decide_eq_false hcn] at h
    have : (decide (a < 0) == decide (b < 0)) = true := by simpa using h
    rw [prod_sign this]
    have e : c = (c.natAbs : Int) := by omega
    rw [e, ← Int.natCast_ediv, Int.natAbs_natCast]
theorem fl_neg {a b c : Int} (hc : c ≠ 0) (h : ngv a b c = true) : fl (a * b) c = -((a.natAbs * b.natAbs / c.natAbs : Nat) : Int) - (if a.natAbs * b.natAbs % c.natAbs = 0 then 0 else 1) := by
  unfold ngv at h
  unfold fl
  rw [← neg_ediv _ _ (by omega)]
  by_cases hcn : c < 0
  · rw [if_pos hcn]
    rw [decide_eq_true hcn] at h
    have : (decide (a < 0) == decide (b < 0)) = true := by simpa using h
    rw [prod_sign this]
    have e : -c = (c.natAbs : Int) := by omega
    rw [e]
  · rw [if_neg hcn]
    rw [decide_eq_false hcn] at h
    have : (decide (a < 0) == decide (b < 0)) = false := by simpa using h
    rw [prod_sign' this]
    have e : c = (c.natAbs : Int) := by omega
    rw [e, Int.natAbs_natCast]

theorem in64_hi {q : Int} (h : 9223372036854775808 ≤ q) : in64 q = false := by
  have : ¬ q < 9223372036854775808 := by omega
  simp [in64, this]
theorem in64_lo {q : Int} (h : q < -9223372036854775808) : in64 q = false := by
  have : ¬ -9223372036854775808 ≤ q := by omega
  simp [in64, this]
theorem in64_yes {q : Int} (h : -9223372036854775808 ≤ q) (h1 : q < 9223372036854775808) : in64 q = true := by
  simp [in64, h, h1]
theorem signer_f (neg : Bool) : SP 84 #[.bool neg] (fun _ => True) [] (fun b : Nat => .func (.func 102) #[] #[ptr b]) (fun _ => True) (fun b => [cell1 b (.bool neg) 4]) := by
  refine Spec.enter Tryz.func84 (by kernel_rfl) (by kernel_rfl) fun w _ _ => ?_
  refine V.new (fun _ => by kernel_rfl) fun b => ?_
  exact V.rete b _ [0] (by kernel_rfl) (by kernel_rfl) (by kernel_rfl) (by kernel_rfl) rfl trivial
def signed (neg : Bool) (m : Int) : Int × Bool := if neg = true then (w64 (u64 (0 - m)), decide (m ≤ 9223372036854775808)) else (w64 m, decide (m < 9223372036854775808))
theorem signed_t {m : Int} (h0 : 0 ≤ m) (h1 : m ≤ 9223372036854775808) : (signed true m).1 = -m := by
  have e : (signed true m).1 = w64 (u64 (0 - m)) := by unfold signed; rw [if_pos rfl]
  rw [e, w64_of (y := -m)]
  · rw [u64_eq, Int.emod_emod_of_dvd _ (Int.dvd_refl _), Int.zero_sub]
  · generalize 9223372036854775808 = k at *; omega
  · generalize 9223372036854775808 = k at *; omega
theorem signed_f {m : Int} (h0 : 0 ≤ m) (h1 : m < 9223372036854775808) : (signed false m).1 = m := by
  have e : (signed false m).1 = w64 m := by unfold signed; rw [if_neg (by decide)]
  rw [e]; exact w64_id (by omega) h1
theorem signer1_f (neg : Bool) (m : Int) (b : Nat) : SP 102 #[.int .u64 m, ptr b] (fun _ => True) [cell1 b (.bool neg) 4] (fun _ : Unit => .tuple #[.int .i64 (signed neg m).1, .bool (signed neg m).2]) (fun _ => True) (fun _ => [cell1 b (.bool neg) 4]) := by
  refine Spec.enter Tryz.func102 (by kernel_rfl) (by kernel_rfl) fun w _ _ => ?_
  refine V.loads [0] (by kernel_rfl) ?_
  cases neg with
  | true =>
    refine V.ifb true true (by kernel_rfl) rfl ?_
    exact V.rete () _ [0] (by kernel_rfl) (by kernel_rfl) (by kernel_rfl) (by kernel_rfl) rfl trivial
  | false =>
    refine V.ifb false false (by kernel_rfl) rfl ?_
    exact V.rete () _ [0] (by kernel_rfl) (by kernel_rfl) (by kernel_rfl) (by kernel_rfl) rfl trivial

theorem muldiv_f (a b c : Int) (ha : -9223372036854775808 ≤ a ∧ a < 9223372036854775808) (hb : -9223372036854775808 ≤ b ∧ b < 9223372036854775808) (hc : -9223372036854775808 ≤ c ∧ c < 9223372036854775808) :
   PF 60 #[.int .i64 a, .int .i64 b, .int .i64 c] (.tuple #[.int .i64 (mulDiv a b c).1, .int .i64 (mulDiv a b c).2]) := by
  refine PureFn.enter Tryz.func60 (by kernel_rfl) (by kernel_rfl) fun w => ?_
  refine V.ite (c == 0) (by kernel_rfl) (fun h => ?_) (fun h => ?_)
  · have h : c = 0 := by simpa using h
    exact V.retp (.tuple #[.int .i64 0, .int .i64 2]) (by kernel_rfl) (by kernel_rfl) (by rw [mulDiv, if_pos h])
  have hc0 : c ≠ 0 := by simpa using h
  clear h
  refine V.callp (mag_f a ha.1 ha.2) (by kernel_rfl) ?_
  refine V.callp (mag_f b hb.1 hb.2) (by kernel_rfl) ?_
  refine V.callp (mul64_f a.natAbs b.natAbs (by omega) (by omega)) (by kernel_rfl) ?_
  refine V.callp (mag_f c hc.1 hc.2) (by kernel_rfl) ?_
  have hd : 0 < c.natAbs := by omega
  have hm := Nat.div_add_mod (a.natAbs * b.natAbs) c.natAbs
  have hmm := Nat.mod_lt (a.natAbs * b.natAbs) hd
  refine V.ite (decide (((a.natAbs * b.natAbs / 18446744073709551616 : Nat) : Int) ≥ (c.natAbs : Int))) (by kernel_rfl) (fun h => ?_) (fun h => ?_)
  · have h := of_decide_eq_true h
    refine V.retp (.tuple #[.int .i64 0, .int .i64 3]) (by kernel_rfl) (by kernel_rfl) ?_
    have hq : 18446744073709551616 ≤ a.natAbs * b.natAbs / c.natAbs := by
      rw [Nat.le_div_iff_mul_le hd]
      omega
    have hr : in64 (fl (a * b) c) = false := by
      cases hn : ngv a b c with
      | false => rw [fl_pos hn]; generalize a.natAbs * b.natAbs / c.natAbs = q at hq; exact in64_hi (by omega)
      | true => rw [fl_neg hc0 hn]; generalize a.natAbs * b.natAbs / c.natAbs = q at hq; exact in64_lo (by split <;> omega)
    rw [mulDiv, if_neg hc0, hr]
    rfl
  have h := of_decide_eq_false h
  obtain ⟨n, hn⟩ : ∃ n, IsLen c.natAbs n := ⟨Nat.log2 c.natAbs + 1, .inr ⟨by omega, by rw [Nat.add_sub_cancel]; exact Nat.log2_self_le (by omega), Nat.lt_log2_self⟩⟩
  refine V.callp (div64_f (a.natAbs * b.natAbs / 18446744073709551616) (a.natAbs * b.natAbs % 18446744073709551616) c.natAbs n (Nat.mod_lt _ (by omega)) (by omega) (by omega) hn) (by kernel_rfl) ?_
  have hsp : a.natAbs * b.natAbs / 18446744073709551616 * 18446744073709551616 + a.natAbs * b.natAbs % 18446744073709551616 = a.natAbs * b.natAbs := by omega
  rw [hsp]
  have hq64 : a.natAbs * b.natAbs / c.natAbs < 18446744073709551616 := by
    rw [Nat.div_lt_iff_lt_mul hd]
    omega
  have hposit := @fl_pos a b c
  have hnegat := @fl_neg a b c hc0
  obtain ⟨q, hq⟩ : ∃ q, q = a.natAbs * b.natAbs / c.natAbs := ⟨_, rfl⟩
  obtain ⟨r, hr⟩ : ∃ r, r = a.natAbs * b.natAbs % c.natAbs := ⟨_, rfl⟩
  rw [← hq] at hq64 hposit hnegat ⊢
  rw [← hr] at hnegat ⊢
  refine V.grd 47 (ngv a b c) (by kernel_rfl) (fun hng => ?_) (fun hng => ?_)
  · have hfl := hnegat hng
    refine V.ite ((r : Int) != 0) (by kernel_rfl) (fun h1 => ?_) (fun h1 => ?_)
    · have h1 : r ≠ 0 := by intro h0; subst h0; simp at h1
      rw [if_neg h1] at hfl
      refine V.ite (u64 ((q : Int) + 1) == 0) (by kernel_rfl) (fun h2 => ?_) (fun h2 => ?_)
      · have h2 : u64 ((q : Int) + 1) = 0 := by simpa using h2
        rw [u64_eq] at h2
        refine V.retp (.tuple #[.int .i64 0, .int .i64 3]) (by kernel_rfl) (by kernel_rfl) ?_
        have hr : in64 (fl (a * b) c) = false := by rw [hfl]; exact in64_lo (by omega)
        rw [mulDiv, if_neg hc0, hr]
        rfl
      · have h2 : u64 ((q : Int) + 1) ≠ 0 := by simpa using h2
        have h3 : u64 ((q : Int) + 1) = (q : Int) + 1 := by rw [u64_eq] at h2 ⊢; omega
        rw [u64_eq] at h2
        refine V.norm 11 (.int .u64 (u64 ((q : Int) + 1))) (.int .u64 ((q : Int) + 1)) (by kernel_rfl) (vInt h3) ?_
        refine V.norm 56 (.bool (ngv a b c)) (.bool true) (by kernel_rfl) (by rw [hng]) ?_
        refine V.callc 0 (signer_f true) rfl (by kernel_rfl) (fun _ _ => trivial) fun bk _ => ?_
        refine V.callc 1 (signer1_f true ((q : Int) + 1) bk) rfl (by kernel_rfl) (fun _ _ => trivial) fun _ _ => ?_
        refine V.ite (!(signed true ((q : Int) + 1)).2) (by kernel_rfl) (fun h4 => ?_) (fun h4 => ?_)
        · refine V.retp (.tuple #[.int .i64 0, .int .i64 3]) (by kernel_rfl) (by kernel_rfl) ?_
          simp [signed] at h4
          have hr : in64 (fl (a * b) c) = false := by rw [hfl]; exact in64_lo (by omega)
          rw [mulDiv, if_neg hc0, hr]
          rfl
        · refine V.retp (.tuple #[.int .i64 (signed true ((q : Int) + 1)).1, .int .i64 0]) (by kernel_rfl) (by kernel_rfl) ?_
          simp [signed] at h4
          have hr : in64 (fl (a * b) c) = true := by rw [hfl]; exact in64_yes (by omega) (by omega)
          rw [mulDiv, if_neg hc0, if_pos hr, hfl]
          have e : (signed true ((q : Int) + 1)).1 = -(q : Int) - 1 := by rw [signed_t (by omega) (by omega)]; omega
          rw [e]
    · have h1 : r = 0 := by simpa using h1
      rw [if_pos h1, Int.sub_zero] at hfl
      refine V.norm 56 (.bool (ngv a b c)) (.bool true) (by kernel_rfl) (by rw [hng]) ?_
      refine V.callc 0 (signer_f true) rfl (by kernel_rfl) (fun _ _ => trivial) fun bk _ => ?_
      refine V.callc 1 (signer1_f true (q : Int) bk) rfl (by kernel_rfl) (fun _ _ => trivial) fun _ _ => ?_
      refine V.ite (!(signed true (q : Int)).2) (by kernel_rfl) (fun h4 => ?_) (fun h4 => ?_)
      · refine V.retp (.tuple #[.int .i64 0, .int .i64 3]) (by kernel_rfl) (by kernel_rfl) ?_
        simp [signed] at h4
        have hr : in64 (fl (a * b) c) = false := by rw [hfl]; exact in64_lo (by omega)
        rw [mulDiv, if_neg hc0, hr]
        rfl
      · refine V.retp (.tuple #[.int .i64 (signed true (q : Int)).1, .int .i64 0]) (by kernel_rfl) (by kernel_rfl) ?_
        simp [signed] at h4
        have hr : in64 (fl (a * b) c) = true := by rw [hfl]; exact in64_yes (by omega) (by omega)
        rw [mulDiv, if_neg hc0, if_pos hr, hfl]
        have e : (signed true (q : Int)).1 = -(q : Int) := signed_t (by omega) (by omega)
        rw [e]
  · have hfl := hposit hng
    refine V.ifb false false (by kernel_rfl) rfl ?_
    refine V.norm 56 (.bool (ngv a b c)) (.bool false) (by kernel_rfl) (by rw [hng]) ?_
    refine V.callc 0 (signer_f false) rfl (by kernel_rfl) (fun _ _ => trivial) fun bk _ => ?_
    refine V.callc 1 (signer1_f false (q : Int) bk) rfl (by kernel_rfl) (fun _ _ => trivial) fun _ _ => ?_
    refine V.ite (!(signed false (q : Int)).2) (by kernel_rfl) (fun h4 => ?_) (fun h4 => ?_)
    · refine V.retp (.tuple #[.int .i64 0, .int .i64 3]) (by kernel_rfl) (by kernel_rfl) ?_
      simp [signed] at h4
      have hr : in64 (fl (a * b) c) = false := by rw [hfl]; exact in64_hi (by omega)
      rw [mulDiv, if_neg hc0, hr]
      rfl
    · refine V.retp (.tuple #[.int .i64 (signed false (q : Int)).1, .int .i64 0]) (by kernel_rfl) (by kernel_rfl) ?_
      simp [signed] at h4
      have hr : in64 (fl (a * b) c) = true := by rw [hfl]; exact in64_yes (by omega) (by omega)
      have e : (signed false (q : Int)).1 = (q : Int) := signed_f (by omega) (by omega)
      rw [mulDiv, if_neg hc0, if_pos hr, hfl, e]
end Go.Ev

namespace Go.Ev
open Go Proofs Bil

theorem limit_f (n l : Int) : PF 48 #[.int .i64 n, .int .i64 l] (.tuple #[.int .i64 (limit n l).1, .bool (limit n l).2]) := by
  refine PureFn.enter Tryz.func48 (by kernel_rfl) (by kernel_rfl) fun w => ?_
  exact V.retp _ (by kernel_rfl) (by kernel_rfl) rfl
theorem diff_f (a b : Vec) : PF 95 #[a.v, b.v] (.tuple #[.int .i64 (dfx a b), .int .i64 (dfy a b)]) := by
  refine PureFn.enter Tryz.func95 (by kernel_rfl) (by kernel_rfl) fun w => ?_
  refine V.new (fun _ => by kernel_rfl) fun b0 => ?_
  refine V.new (fun _ => by kernel_rfl) fun b1 => ?_
  refine V.drawn mix (by kernel_rfl) ?_
  refine VD.loads [1, 0, 1, 0] (by kernel_rfl) ?_
  refine VD.done (by kernel_rfl) ?_
  exact V.retp _ (by kernel_rfl) (by kernel_rfl) rfl
theorem square_f (n : Int) : PF 96 #[.int .i64 n] (.int .u64 (square n)) := by
  refine PureFn.enter Tryz.func96 (by kernel_rfl) (by kernel_rfl) fun w => ?_
  refine V.ite (decide (n < 0)) (by kernel_rfl) (fun h => ?_) (fun h => ?_)
  · exact V.retp (.int .u64 (u64 (u64 (w64 (0 - n)) * u64 (w64 (0 - n))))) (by kernel_rfl) (by kernel_rfl) (by rw [square, if_pos (of_decide_eq_true h)])
  · exact V.retp (.int .u64 (u64 (u64 n * u64 n))) (by kernel_rfl) (by kernel_rfl) (by rw [square, if_neg (of_decide_eq_false h)])
theorem lengthSq_f (dx dy : Int) : PF 75 #[.int .i64 dx, .int .i64 dy] (.int .u64 (lengthSq dx dy)) := by
  refine PureFn.enter Tryz.func75 (by kernel_rfl) (by kernel_rfl) fun w => ?_
  refine V.callp (square_f dx) (by kernel_rfl) ?_
  refine V.callp (square_f dy) (by kernel_rfl) ?_
  exact V.retp _ (by kernel_rfl) (by kernel_rfl) rfl


theorem isq_bit : ∀ k, k < 32 → Int.fdiv 4611686018427387904 (2 ^ (min (IntKind.wrap .i64 (2 * ((32 - (k + 1) : Nat) : Int))).toNat 64)) = ((2 ^ k * 2 ^ k : Nat) : Int) := by decide
theorem isq_nn : ∀ k, k < 32 → 0 ≤ IntKind.wrap .i64 (2 * ((32 - (k + 1) : Nat) : Int)) := by decide
theorem isq_i : ∀ k, k < 32 → IntKind.wrap .i64 (((32 - (k + 1) : Nat) : Int) + 1) = ((32 - k : Nat) : Int) := by decide
theorem isq_alg (n r K : Nat) (hr : r * r ≤ n) : r * (2 * K) + K * K + r * r = (r + K) * (r + K) := by
  rw [Nat.add_mul, Nat.mul_add, Nat.mul_add, Nat.mul_comm K r, Nat.mul_left_comm r 2 K]; omega
theorem isqrt_f (n : Nat) (hn : n < 18446744073709551616) : PF 98 #[.int .u64 (n : Int)] (.int .u64 (isqrt n : Int)) := by
  refine PureFn.enter Tryz.func98 (by kernel_rfl) (by kernel_rfl) fun w => ?_
  refine V.cut 1 [4] (fun _ : Unit => [.int .u64 (isqrt n : Int)]) (fun _ => []) (fun _ => True) (fun F x _ => ?_) (fun after => ?_)
  · exact V.retp _ (by kernel_rfl) (by kernel_rfl) rfl
  refine V.loop [3, 4, 8] (fun x : Nat × Nat => [.int .u64 ((n - x.2 * x.2 : Nat) : Int), .int .u64 ((x.2 * 2 ^ x.1 : Nat) : Int), .int .i64 ((32 - x.1 : Nat) : Int)]) (fun _ => [])
    (fun x => x.1 ≤ 32 ∧ x.2 * x.2 ≤ n ∧ x.2 + 2 ^ x.1 ≤ 4294967296 ∧ isqR n x.1 x.2 = isqrt n) (fun x => x.1) (32, 0) (by kernel_rfl) (by kernel_rfl) rfl ⟨by omega, by omega, by decide, rfl⟩ ?_
  rintro F ⟨k', r⟩ ⟨hi, hr, hb, he⟩ again
  cases k' with
  | zero =>
    refine V.ifb (decide (((32 - 0 : Nat) : Int) < 32)) false (by kernel_rfl) (by decide) ?_
    have he : r = isqrt n := he
    refine V.norm 4 (.int .u64 ((r * 2 ^ 0 : Nat) : Int)) (.int .u64 (isqrt n : Int)) (by kernel_rfl) (by rw [← he, Nat.pow_zero, Nat.mul_one]) ?_
    exact after () _ trivial (by kernel_rfl) (by kernel_rfl)
  | succ k =>
    have hi : k + 1 ≤ 32 := hi
    have hr : r * r ≤ n := hr
    have hb : r + 2 ^ (k + 1) ≤ 4294967296 := hb
    have he : isqR n k (if (r + 2 ^ k) * (r + 2 ^ k) ≤ n then r + 2 ^ k else r) = isqrt n := he
    refine V.ifb (decide (((32 - (k + 1) : Nat) : Int) < 32)) true (by kernel_rfl) (decide_eq_true (by omega)) ?_
    refine V.shr .u64 .i64 4611686018427387904 _ ((2 ^ k * 2 ^ k : Nat) : Int) (by kernel_rfl) ?_ (isq_bit k (by omega)) ?_
    · exact isq_nn k (by omega)
    have hp : 2 ^ (k + 1) = 2 * 2 ^ k := by rw [Nat.pow_succ]; omega
    have halg := isq_alg n r (2 ^ k) hr
    rw [← hp] at halg
    have hlt : (r + 2 ^ k) * (r + 2 ^ k) < 18446744073709551616 := by
      have h1 : r + 2 ^ k < 4294967296 := by have := Nat.pow_pos (n := k) (show 0 < 2 by omega); omega
      have h2 := Nat.mul_lt_mul'' h1 h1
      omega
    have hmul : (r + 2 ^ k) * 2 ^ k = r * 2 ^ k + 2 ^ k * 2 ^ k := Nat.add_mul _ _ _
    have hdbl : r * 2 ^ (k + 1) = 2 * (r * 2 ^ k) := by rw [hp, Nat.mul_left_comm]
    have hB : r * r + r * 2 ^ (k + 1) + 2 ^ k * 2 ^ k < 18446744073709551616 := by omega
    refine V.ite (decide (((n - r * r : Nat) : Int) ≥ u64 (((r * 2 ^ (k + 1) : Nat) : Int) + ((2 ^ k * 2 ^ k : Nat) : Int)))) (by kernel_rfl) (fun h => ?_) (fun h => ?_)
    · have h := of_decide_eq_true h
      have hu : u64 (((r * 2 ^ (k + 1) : Nat) : Int) + ((2 ^ k * 2 ^ k : Nat) : Int)) = ((r * 2 ^ (k + 1) + 2 ^ k * 2 ^ k : Nat) : Int) := by
        clear again after he h
        rw [← Int.natCast_add]
        exact u64_id (by omega) (by omega)
      rw [hu] at h
      have hle : (r + 2 ^ k) * (r + 2 ^ k) ≤ n := by omega
      rw [if_pos hle] at he
      refine V.norm 3 (.int .u64 (u64 (((n - r * r : Nat) : Int) - u64 (((r * 2 ^ (k + 1) : Nat) : Int) + ((2 ^ k * 2 ^ k : Nat) : Int))))) (.int .u64 ((n - (r + 2 ^ k) * (r + 2 ^ k) : Nat) : Int)) (by kernel_rfl) (vInt ?_) ?_
      · rw [hu]
        clear again after he
        rw [u64_id (by omega) (by omega)]
        omega
      refine V.norm 4 (.int .u64 (u64 (Int.fdiv ((r * 2 ^ (k + 1) : Nat) : Int) (2 ^ 1) + ((2 ^ k * 2 ^ k : Nat) : Int)))) (.int .u64 (((r + 2 ^ k) * 2 ^ k : Nat) : Int)) (by kernel_rfl) (vInt ?_) ?_
      · rw [hmul, hdbl, Int.fdiv_eq_ediv_of_nonneg _ (by decide)]
        generalize r * 2 ^ k = A at *
        generalize 2 ^ k * 2 ^ k = B at *
        rw [u64_id (by omega) (by omega)]
        omega
      refine V.norm 8 (.int .i64 (IntKind.wrap .i64 (((32 - (k + 1) : Nat) : Int) + 1))) (.int .i64 ((32 - k : Nat) : Int)) (by kernel_rfl) (vInt (isq_i k (by omega))) ?_
      exact again (k, r + 2 ^ k) _ ⟨by omega, hle, by rw [hp] at hb; show r + 2 ^ k + 2 ^ k ≤ _; omega, he⟩ (Nat.lt_succ_self k) (by kernel_rfl) (by kernel_rfl)
    · have h := of_decide_eq_false h
      have hu : u64 (((r * 2 ^ (k + 1) : Nat) : Int) + ((2 ^ k * 2 ^ k : Nat) : Int)) = ((r * 2 ^ (k + 1) + 2 ^ k * 2 ^ k : Nat) : Int) := by
        clear again after he h
        rw [← Int.natCast_add]
        exact u64_id (by omega) (by omega)
      rw [hu] at h
      have hle : ¬ (r + 2 ^ k) * (r + 2 ^ k) ≤ n := by omega
      rw [if_neg hle] at he
      refine V.norm 4 (.int .u64 (Int.fdiv ((r * 2 ^ (k + 1) : Nat) : Int) (2 ^ 1))) (.int .u64 ((r * 2 ^ k : Nat) : Int)) (by kernel_rfl) (vInt ?_) ?_
      · rw [hdbl, Int.fdiv_eq_ediv_of_nonneg _ (by decide)]
        generalize r * 2 ^ k = A at *
        omega
      refine V.norm 8 (.int .i64 (IntKind.wrap .i64 (((32 - (k + 1) : Nat) : Int) + 1))) (.int .i64 ((32 - k : Nat) : Int)) (by kernel_rfl) (vInt (isq_i k (by omega))) ?_
      exact again (k, r) _ ⟨by omega, hr, by rw [hp] at hb; show r + 2 ^ k ≤ _; omega, he⟩ (Nat.lt_succ_self k) (by kernel_rfl) (by kernel_rfl)
theorem isqrtI_f (n : Int) (h0 : 0 ≤ n) (hn : n < 18446744073709551616) : PF 98 #[.int .u64 n] (.int .u64 (isqrtI n)) := by
  obtain ⟨m, rfl⟩ : ∃ m : Nat, n = (m : Int) := ⟨n.toNat, by omega⟩
  exact isqrt_f m (by omega)
theorem length_f (dx dy : Int) : PF 77 #[.int .i64 dx, .int .i64 dy] (.int .i64 (length dx dy)) := by
  refine PureFn.enter Tryz.func77 (by kernel_rfl) (by kernel_rfl) fun w => ?_
  refine V.callp (lengthSq_f dx dy) (by kernel_rfl) ?_
  refine V.callp (isqrtI_f (lengthSq dx dy) (u64_range _).1 (u64_range _).2) (by kernel_rfl) ?_
  exact V.retp _ (by kernel_rfl) (by kernel_rfl) rfl
theorem floorq_f (a b : Int) (hb : b ≠ 0) : PF 97 #[.int .i64 a, .int .i64 b] (.int .i64 (floorq a b)) := by
  refine PureFn.enter Tryz.func97 (by kernel_rfl) (by kernel_rfl) fun w => ?_
  refine V.quo .i64 a b (w64 (a.tdiv b)) (by kernel_rfl) hb rfl ?_
  refine V.rem .i64 a b (a.tmod b) (by kernel_rfl) hb rfl ?_
  refine V.ite (decide (a.tmod b < 0)) (by kernel_rfl) (fun h => ?_) (fun h => ?_)
  · exact V.retp (.int .i64 (w64 (w64 (a.tdiv b) - 1))) (by kernel_rfl) (by kernel_rfl) (by rw [floorq, if_pos (of_decide_eq_true h)])
  · exact V.retp (.int .i64 (w64 (a.tdiv b))) (by kernel_rfl) (by kernel_rfl) (by rw [floorq, if_neg (of_decide_eq_false h)])
theorem unit_f (dx dy : Int) : PF 76 #[.int .i64 dx, .int .i64 dy] (unit dx dy).v := by
  refine PureFn.enter Tryz.func76 (by kernel_rfl) (by kernel_rfl) fun w => ?_
  refine V.new (fun _ => by kernel_rfl) fun b0 => ?_
  refine V.callp (length_f dx dy) (by kernel_rfl) ?_
  refine V.ite (length dx dy == 0) (by kernel_rfl) (fun h => ?_) (fun h => ?_)
  · refine V.store 0 (by kernel_rfl) (by kernel_rfl) (by kernel_rfl) ?_
    exact V.retlp [0, 0] (Vec.v ⟨65536, 0⟩) (by kernel_rfl) (by kernel_rfl) (by kernel_rfl) (by rw [unit, if_pos (by simpa using h)])
  · have h : length dx dy ≠ 0 := by simpa using h
    refine V.callp (floorq_f (w64 (dx * 65536)) (length dx dy) h) (by kernel_rfl) ?_
    refine V.callp (floorq_f (w64 (dy * 65536)) (length dx dy) h) (by kernel_rfl) ?_
    refine V.store 0 (by kernel_rfl) (by kernel_rfl) (by kernel_rfl) ?_
    exact V.retlp [0, 0] (Vec.v ⟨w32 (floorq (w64 (dx * 65536)) (length dx dy)), w32 (floorq (w64 (dy * 65536)) (length dx dy))⟩) (by kernel_rfl) (by kernel_rfl) (by kernel_rfl) (by rw [unit, if_neg h])
theorem param_f (p q c : Vec) : PF 134 #[p.v, q.v, c.v] (.tuple #[.int .i64 (parN p q c), .int .i64 (parD p q)]) := by
  refine PureFn.enter Tryz.func134 (by kernel_rfl) (by kernel_rfl) fun w => ?_
  refine V.new (fun _ => by kernel_rfl) fun b0 => ?_
  refine V.new (fun _ => by kernel_rfl) fun b1 => ?_
  refine V.new (fun _ => by kernel_rfl) fun b2 => ?_
  refine V.loads [0, 1] (by kernel_rfl) ?_
  refine V.callp (diff_f p q) (by kernel_rfl) ?_
  refine V.loads [0, 2] (by kernel_rfl) ?_
  refine V.callp (diff_f p c) (by kernel_rfl) ?_
  exact V.retp _ (by kernel_rfl) (by kernel_rfl) rfl
theorem mulDiv_range (a b c : Int) : -9223372036854775808 ≤ (mulDiv a b c).1 ∧ (mulDiv a b c).1 < 9223372036854775808 := by
  unfold mulDiv
  split
  · exact ⟨by decide, by decide⟩
  · split
    · rename_i h
      simp only [in64, Bool.and_eq_true, decide_eq_true_eq] at h
      exact h
    · exact ⟨by decide, by decide⟩
theorem part_f (from' delta n d : Int) (b0 b1 : Nat) (hb0 : -9223372036854775808 ≤ delta ∧ delta < 9223372036854775808) (hn : -9223372036854775808 ≤ n ∧ n < 9223372036854775808) (hd : -9223372036854775808 ≤ d ∧ d < 9223372036854775808) :
    PX [cell1 b0 (.int .i64 n) 2, cell1 b1 (.int .i64 d) 2] 135 #[.int .i32 from', .int .i64 delta, ptr b0, ptr b1] (.int .i32 (w32 (from' + w32 (mulDiv delta n d).1))) := by
  refine PureFn.enter Tryz.func135 (by kernel_rfl) (by kernel_rfl) fun w => ?_
  refine V.loads [1002, 1003] (by kernel_rfl) ?_
  refine V.callp (muldiv_f delta n d hb0 hn hd).weak (by kernel_rfl) ?_
  exact V.retp _ (by kernel_rfl) (by kernel_rfl) rfl
theorem parN_range (p q c : Vec) : -9223372036854775808 ≤ parN p q c ∧ parN p q c < 9223372036854775808 := by
  have h1 := w64_range (w64 (dfx p c * dfx p q) + w64 (dfy p c * dfy p q))
  have h2 : -9223372036854775808 ≤ parD p q ∧ parD p q < 9223372036854775808 := w64_range _
  unfold parN mx mn
  split <;> split <;> omega
theorem nearest_f (p q c : Vec) : PF 127 #[p.v, q.v, c.v] (nearest p q c).v := by
  refine PureFn.enter Tryz.func127 (by kernel_rfl) (by kernel_rfl) fun w => ?_
  refine V.new (fun _ => by kernel_rfl) fun b0 => ?_
  refine V.new (fun _ => by kernel_rfl) fun b1 => ?_
  refine V.new (fun _ => by kernel_rfl) fun b2 => ?_
  refine V.new (fun _ => by kernel_rfl) fun b3 => ?_
  refine V.loads [0, 1, 2] (by kernel_rfl) ?_
  refine V.callp (param_f p q c) (by kernel_rfl) ?_
  refine V.new (fun _ => by kernel_rfl) fun b4 => ?_
  refine V.new (fun _ => by kernel_rfl) fun b5 => ?_
  refine V.store 4 (by kernel_rfl) (by kernel_rfl) (by kernel_rfl) ?_
  refine V.store 5 (by kernel_rfl) (by kernel_rfl) (by kernel_rfl) ?_
  refine V.loads [5] (by kernel_rfl) ?_
  refine V.ite (parD p q == 0) (by kernel_rfl) (fun h => ?_) (fun h => ?_)
  · refine V.loads [0] (by kernel_rfl) ?_
    refine V.store 3 (by kernel_rfl) (by kernel_rfl) (by kernel_rfl) ?_
    exact V.retlp [3, 3] p.v (by kernel_rfl) (by kernel_rfl) (by kernel_rfl) (by rw [nearest, if_pos (by simpa using h)])
  · have h : parD p q ≠ 0 := by simpa using h
    refine V.loads [0, 1] (by kernel_rfl) ?_
    refine V.callp (diff_f p q) (by kernel_rfl) ?_
    refine V.drawn mix (by kernel_rfl) ?_
    refine VD.loads [0, 0] (by kernel_rfl) ?_
    refine VD.callg [1000, 1001, 4, 5] (part_f p.x (dfx p q) (parN p q c) (parD p q) b4 b5 (w64_range _) (parN_range p q c) (w64_range _)) (by kernel_rfl) (by kernel_rfl) 4 (by kernel_rfl) (by kernel_rfl) (by kernel_rfl) ?_
    refine VD.callg [1000, 1001, 4, 5] (part_f p.y (dfy p q) (parN p q c) (parD p q) b4 b5 (w64_range _) (parN_range p q c) (w64_range _)) (by kernel_rfl) (by kernel_rfl) 9 (by kernel_rfl) (by kernel_rfl) (by kernel_rfl) ?_
    refine VD.store 11 (by kernel_rfl) (by kernel_rfl) (by kernel_rfl) 3 (by kernel_rfl) (by kernel_rfl) (by kernel_rfl) ?_
    refine VD.done (by kernel_rfl) ?_
    exact V.retlp [3, 3] (Vec.v ⟨w32 (p.x + w32 (mulDiv (dfx p q) (parN p q c) (parD p q)).1), w32 (p.y + w32 (mulDiv (dfy p q) (parN p q c) (parD p q)).1)⟩) (by kernel_rfl) (by kernel_rfl) (by kernel_rfl) (by rw [nearest, if_neg h])
end Go.Ev

namespace Go.Ev
open Go Proofs Bil

def vblk (b : Nat) (v : Vec) : Ent := .blk b (.cells v.cells.toArray 24 (0, 0))
def choE (ba bb bl : Nat) (s : Cho) : List Ent := [vblk ba s.a, vblk bb s.b, cell1 bl (.int .u64 s.d) 148]
theorem consider_f (x y : Vec) (s : Cho) (ba bb bl : Nat) : SP 126 #[x.v, y.v, ptr bl, ptr ba, ptr bb] (fun _ => True) (choE ba bb bl s) (fun _ : Unit => .tuple #[]) (fun _ => True) (fun _ => choE ba bb bl (consider s x y)) := by
  refine Spec.enter Tryz.func126 (by kernel_rfl) (by kernel_rfl) fun w _ _ => ?_
  refine V.new (fun _ => by kernel_rfl) fun b0 => ?_
  refine V.new (fun _ => by kernel_rfl) fun b1 => ?_
  refine V.loads [3, 4] (by kernel_rfl) ?_
  refine V.callp (diff_f x y) (by kernel_rfl) ?_
  refine V.callp (lengthSq_f (dfx x y) (dfy x y)) (by kernel_rfl) ?_
  refine V.loads [2] (by kernel_rfl) ?_
  refine V.ite (decide (lengthSq (dfx x y) (dfy x y) < s.d)) (by kernel_rfl) (fun h => ?_) (fun h => ?_)
  · have h := of_decide_eq_true h
    have e : consider s x y = ⟨x, y, lengthSq (dfx x y) (dfy x y)⟩ := by rw [consider, if_pos h]
    refine V.drawk 3 mix (by kernel_rfl) ?_
    refine VD.loads [0, 1] (by kernel_rfl) ?_
    refine VD.storek 3 3 (by kernel_rfl) (by kernel_rfl) (by kernel_rfl) 0 (by kernel_rfl) (by kernel_rfl) (by kernel_rfl) (by kernel_rfl) ?_
    refine VD.storek 3 4 (by kernel_rfl) (by kernel_rfl) (by kernel_rfl) 1 (by kernel_rfl) (by kernel_rfl) (by kernel_rfl) (by kernel_rfl) ?_
    refine VD.storek 3 5 (by kernel_rfl) (by kernel_rfl) (by kernel_rfl) 2 (by kernel_rfl) (by kernel_rfl) (by kernel_rfl) (by kernel_rfl) ?_
    refine VD.done (by kernel_rfl) ?_
    exact V.rete () (.tuple #[]) [0, 1, 2] (by kernel_rfl) (by kernel_rfl) (by kernel_rfl) ((show _ = choE ba bb bl ⟨x, y, lengthSq (dfx x y) (dfy x y)⟩ by kernel_rfl).trans (by rw [e])) rfl trivial
  · have h := of_decide_eq_false h
    have e : consider s x y = s := by rw [consider, if_neg h]
    exact V.rete () (.tuple #[]) [0, 1, 2] (by kernel_rfl) (by kernel_rfl) (by kernel_rfl) ((show _ = choE ba bb bl s by kernel_rfl).trans (by rw [e])) rfl trivial
theorem choose_f (ap aq bp bq : Vec) : PF 110 #[ap.v, aq.v, bp.v, bq.v] (.tuple #[(choosen ap aq bp bq).a.v, (choosen ap aq bp bq).b.v, .int .u64 (choosen ap aq bp bq).d]) := by
  refine PureFn.enter Tryz.func110 (by kernel_rfl) (by kernel_rfl) fun w => ?_
  refine V.new (fun _ => by kernel_rfl) fun b0 => ?_
  refine V.new (fun _ => by kernel_rfl) fun b1 => ?_
  refine V.new (fun _ => by kernel_rfl) fun b2 => ?_
  refine V.new (fun _ => by kernel_rfl) fun b3 => ?_
  refine V.new (fun _ => by kernel_rfl) fun b4 => ?_
  refine V.new (fun _ => by kernel_rfl) fun b5 => ?_
  refine V.new (fun _ => by kernel_rfl) fun b6 => ?_
  refine V.store 6 (by kernel_rfl) (by kernel_rfl) (by kernel_rfl) ?_
  refine V.keep [4, 5, 6, 0, 1, 2, 3] (by kernel_rfl) ?_
  refine V.loads [3, 4] (by kernel_rfl) ?_
  refine V.roll (by kernel_rfl) ?_
  refine V.ifb (decide ((0 : Int) < 2)) true (by kernel_rfl) rfl ?_
  refine V.val ap.v (by kernel_rfl) ?_
  refine V.new (fun _ => by kernel_rfl) fun b7 => ?_
  refine V.store 7 (by kernel_rfl) (by kernel_rfl) (by kernel_rfl) ?_
  refine V.drawk 3 mix (by kernel_rfl) ?_
  refine VD.loads [4, 2, 3, 4] (by kernel_rfl) ?_
  refine VD.callp (nearest_f bp bq ap) 5 (by kernel_rfl) (by kernel_rfl) (by kernel_rfl) ?_
  refine VD.callck 3 3 (consider_f ap (nearest bp bq ap) ⟨⟨0, 0⟩, ⟨0, 0⟩, 18446744073709551615⟩ b4 b5 b6) (by kernel_rfl) 6 (by kernel_rfl) (by kernel_rfl) (by kernel_rfl) (by kernel_rfl) (by kernel_rfl) (fun _ _ => trivial) fun _ _ => ?_
  refine VD.done (by kernel_rfl) ?_
  refine V.again (by kernel_rfl) ?_
  refine V.ifb (decide ((1 : Int) < 2)) true (by kernel_rfl) rfl ?_
  refine V.val aq.v (by kernel_rfl) ?_
  refine V.new (fun _ => by kernel_rfl) fun b8 => ?_
  refine V.store 8 (by kernel_rfl) (by kernel_rfl) (by kernel_rfl) ?_
  refine V.drawk 3 mix (by kernel_rfl) ?_
  refine VD.loads [5, 2, 3, 5] (by kernel_rfl) ?_
  refine VD.callp (nearest_f bp bq aq) 5 (by kernel_rfl) (by kernel_rfl) (by kernel_rfl) ?_
  refine VD.callck 3 3 (consider_f aq (nearest bp bq aq) (cho1 ap bp bq) b4 b5 b6) (by kernel_rfl) 6 (by kernel_rfl) (by kernel_rfl) (by kernel_rfl) (by kernel_rfl) (by kernel_rfl) (fun _ _ => trivial) fun _ _ => ?_
  refine VD.done (by kernel_rfl) ?_
  refine V.again (by kernel_rfl) ?_
  refine V.ifb (decide ((2 : Int) < 2)) false (by kernel_rfl) rfl ?_
  refine V.loads [5, 6] (by kernel_rfl) ?_
  refine V.roll (by kernel_rfl) ?_
  refine V.ifb (decide ((0 : Int) < 2)) true (by kernel_rfl) rfl ?_
  refine V.val bp.v (by kernel_rfl) ?_
  refine V.new (fun _ => by kernel_rfl) fun b9 => ?_
  refine V.store 9 (by kernel_rfl) (by kernel_rfl) (by kernel_rfl) ?_
  refine V.drawk 3 mix (by kernel_rfl) ?_
  refine VD.loads [0, 1, 6, 6] (by kernel_rfl) ?_
  refine VD.callp (nearest_f ap aq bp) 4 (by kernel_rfl) (by kernel_rfl) (by kernel_rfl) ?_
  refine VD.callck 3 3 (consider_f (nearest ap aq bp) bp (cho2 ap aq bp bq) b4 b5 b6) (by kernel_rfl) 6 (by kernel_rfl) (by kernel_rfl) (by kernel_rfl) (by kernel_rfl) (by kernel_rfl) (fun _ _ => trivial) fun _ _ => ?_
  refine VD.done (by kernel_rfl) ?_
  refine V.again (by kernel_rfl) ?_
  refine V.ifb (decide ((1 : Int) < 2)) true (by kernel_rfl) rfl ?_
  refine V.val bq.v (by kernel_rfl) ?_
  refine V.new (fun _ => by kernel_rfl) fun b10 => ?_
  refine V.store 10 (by kernel_rfl) (by kernel_rfl) (by kernel_rfl) ?_
  refine V.drawk 3 mix (by kernel_rfl) ?_
  refine VD.loads [0, 1, 7, 7] (by kernel_rfl) ?_
  refine VD.callp (nearest_f ap aq bq) 4 (by kernel_rfl) (by kernel_rfl) (by kernel_rfl) ?_
  refine VD.callck 3 3 (consider_f (nearest ap aq bq) bq (cho3 ap aq bp bq) b4 b5 b6) (by kernel_rfl) 6 (by kernel_rfl) (by kernel_rfl) (by kernel_rfl) (by kernel_rfl) (by kernel_rfl) (fun _ _ => trivial) fun _ _ => ?_
  refine VD.done (by kernel_rfl) ?_
  refine V.again (by kernel_rfl) ?_
  refine V.ifb (decide ((2 : Int) < 2)) false (by kernel_rfl) rfl ?_
  refine V.drawn mix (by kernel_rfl) ?_
  refine VD.loads [0, 1, 2] (by kernel_rfl) ?_
  refine VD.stores 3 (by kernel_rfl) (by kernel_rfl) 0 (by kernel_rfl) (by kernel_rfl) (by kernel_rfl) (by kernel_rfl) ?_
  refine VD.stores 4 (by kernel_rfl) (by kernel_rfl) 1 (by kernel_rfl) (by kernel_rfl) (by kernel_rfl) (by kernel_rfl) ?_
  refine VD.stores 5 (by kernel_rfl) (by kernel_rfl) 2 (by kernel_rfl) (by kernel_rfl) (by kernel_rfl) (by kernel_rfl) ?_
  refine VD.done (by kernel_rfl) ?_
  exact V.retlp [0, 0, 1, 1, 2] _ (by kernel_rfl) (by kernel_rfl) (by kernel_rfl) rfl
theorem chosen_f (ap aq bp bq : Vec) : PF 94 #[ap.v, aq.v, bp.v, bq.v] (.tuple #[(choosen ap aq bp bq).a.v, (choosen ap aq bp bq).b.v]) := by
  refine PureFn.enter Tryz.func94 (by kernel_rfl) (by kernel_rfl) fun w => ?_
  refine V.new (fun _ => by kernel_rfl) fun b0 => ?_
  refine V.new (fun _ => by kernel_rfl) fun b1 => ?_
  refine V.new (fun _ => by kernel_rfl) fun b2 => ?_
  refine V.new (fun _ => by kernel_rfl) fun b3 => ?_
  refine V.new (fun _ => by kernel_rfl) fun b4 => ?_
  refine V.new (fun _ => by kernel_rfl) fun b5 => ?_
  refine V.loads [0, 1, 2, 3] (by kernel_rfl) ?_
  refine V.callp (choose_f ap aq bp bq) (by kernel_rfl) ?_
  refine V.store 4 (by kernel_rfl) (by kernel_rfl) (by kernel_rfl) ?_
  refine V.store 5 (by kernel_rfl) (by kernel_rfl) (by kernel_rfl) ?_
  refine V.drawn mix (by kernel_rfl) ?_
  refine VD.loads [4, 5] (by kernel_rfl) ?_
  refine VD.stores 2 (by kernel_rfl) (by kernel_rfl) 4 (by kernel_rfl) (by kernel_rfl) (by kernel_rfl) (by kernel_rfl) ?_
  refine VD.stores 3 (by kernel_rfl) (by kernel_rfl) 5 (by kernel_rfl) (by kernel_rfl) (by kernel_rfl) (by kernel_rfl) ?_
  refine VD.done (by kernel_rfl) ?_
  exact V.retlp [4, 4, 5, 5] _ (by kernel_rfl) (by kernel_rfl) (by kernel_rfl) rfl
theorem ends_f (b : Body) : PF 109 #[b.v] (.tuple #[(first b).v, (second b).v]) := by
  refine PureFn.enter Tryz.func109 (by kernel_rfl) (by kernel_rfl) fun w => ?_
  refine V.new (fun _ => by kernel_rfl) fun b0 => ?_
  refine V.new (fun _ => by kernel_rfl) fun b1 => ?_
  refine V.new (fun _ => by kernel_rfl) fun b2 => ?_
  refine V.loads [0, 0, 0, 0] (by kernel_rfl) ?_
  refine V.store 1 (by kernel_rfl) (by kernel_rfl) (by kernel_rfl) ?_
  refine V.loads [0, 0, 0, 0] (by kernel_rfl) ?_
  refine V.store 2 (by kernel_rfl) (by kernel_rfl) (by kernel_rfl) ?_
  refine V.drawn mix (by kernel_rfl) ?_
  refine VD.loads [1, 2] (by kernel_rfl) ?_
  refine VD.stores 2 (by kernel_rfl) (by kernel_rfl) 1 (by kernel_rfl) (by kernel_rfl) (by kernel_rfl) (by kernel_rfl) ?_
  refine VD.stores 3 (by kernel_rfl) (by kernel_rfl) 2 (by kernel_rfl) (by kernel_rfl) (by kernel_rfl) (by kernel_rfl) ?_
  refine VD.done (by kernel_rfl) ?_
  exact V.retlp [1, 1, 2, 2] _ (by kernel_rfl) (by kernel_rfl) (by kernel_rfl) rfl
def solid (b : Body) : Value := .agg (b.cells ++ ((first b).cells ++ (second b).cells)).toArray
/-- a new variable's object -/
def zeroObj (P : Program) (t : Nat) : Obj := match P.info? t with | some i => (match i.zero with | some z => .cells z.cells t (0, 0) | none => .map #[] 0) | none => .map #[] 0
theorem solidOf_f (b : Body) : PF 93 #[b.v] (solid b) := by
  refine PureFn.enter Tryz.func93 (by kernel_rfl) (by kernel_rfl) fun w => ?_
  refine V.new (fun _ => by kernel_rfl) fun b0 => ?_
  refine V.new (fun _ => by kernel_rfl) fun b1 => ?_
  refine V.loads [0] (by kernel_rfl) ?_
  refine V.callp (ends_f b) (by kernel_rfl) ?_
  refine V.new (fun _ => by kernel_rfl) fun b2 => ?_
  refine V.new (fun _ => by kernel_rfl) fun b3 => ?_
  refine V.store 2 (by kernel_rfl) (by kernel_rfl) (by kernel_rfl) ?_
  refine V.store 3 (by kernel_rfl) (by kernel_rfl) (by kernel_rfl) ?_
  refine V.loads [0, 2, 3] (by kernel_rfl) ?_
  refine V.store 1 (by kernel_rfl) (by kernel_rfl) (by kernel_rfl) ?_
  exact V.retlp [1, 1, 1, 1, 1, 1, 1, 1, 1, 1, 1, 1, 1, 1] _ (by kernel_rfl) (by kernel_rfl) (by kernel_rfl) rfl
noncomputable def ordE (b0 b1 b2 b3 : Nat) (x y : Body) : List Ent := [.blk b0 (.cells x.cells.toArray 38 (0, 0)), .blk b1 (.cells y.cells.toArray 38 (0, 0)), .blk b2 (zeroObj Tryz.prog 143), .blk b3 (zeroObj Tryz.prog 143)]
theorem inOrder_f (a b : Body) : PF 73 #[a.v, b.v] (.tuple #[solid (low a b), solid (high a b)]) := by
  refine PureFn.enter Tryz.func73 (by kernel_rfl) (by kernel_rfl) fun w => ?_
  refine V.new (fun _ => by kernel_rfl) fun b0 => ?_
  refine V.new (fun _ => by kernel_rfl) fun b1 => ?_
  refine V.new (fun _ => by kernel_rfl) fun b2 => ?_
  refine V.new (fun _ => by kernel_rfl) fun b3 => ?_
  refine V.loads [0, 1] (by kernel_rfl) ?_
  refine V.cut 1 [2, 3, 4, 5] (fun _ : Unit => [ptr b0, ptr b1, ptr b2, ptr b3]) (fun _ => ordE b0 b1 b2 b3 (low a b) (high a b)) (fun _ => True) (fun F x _ => ?_) (fun after => ?_)
  · refine V.keep [2, 3, 0, 1] (by kernel_rfl) ?_
    refine V.drawk 2 mix (by kernel_rfl) ?_
    refine VD.loads [0, 1] (by kernel_rfl) ?_
    refine VD.callp (solidOf_f (low a b)) 1 (by kernel_rfl) (by kernel_rfl) (by kernel_rfl) ?_
    refine VD.callp (solidOf_f (high a b)) 3 (by kernel_rfl) (by kernel_rfl) (by kernel_rfl) ?_
    refine VD.storek 2 4 (by kernel_rfl) (by kernel_rfl) (by kernel_rfl) 0 (by kernel_rfl) (by kernel_rfl) (by kernel_rfl) (by kernel_rfl) ?_
    refine VD.storek 2 5 (by kernel_rfl) (by kernel_rfl) (by kernel_rfl) 1 (by kernel_rfl) (by kernel_rfl) (by kernel_rfl) (by kernel_rfl) ?_
    refine VD.done (by kernel_rfl) ?_
    exact V.retlp [0, 0, 0, 0, 0, 0, 0, 0, 0, 0, 0, 0, 0, 0, 1, 1, 1, 1, 1, 1, 1, 1, 1, 1, 1, 1, 1, 1] _ (by kernel_rfl) (by kernel_rfl) (by kernel_rfl) rfl
  · refine V.ite (decide (a.key > b.key)) (by kernel_rfl) (fun h => ?_) (fun h => ?_)
    · have h := of_decide_eq_true h
      have e1 : low a b = b := by rw [low, if_pos h]
      have e2 : high a b = a := by rw [high, if_pos h]
      refine V.loads [1, 0] (by kernel_rfl) ?_
      refine V.store 0 (by kernel_rfl) (by kernel_rfl) (by kernel_rfl) ?_
      refine V.store 1 (by kernel_rfl) (by kernel_rfl) (by kernel_rfl) ?_
      exact V.conv ((show _ = ordE b0 b1 b2 b3 b a by kernel_rfl).trans (by rw [e1, e2])) rfl (after () _ trivial (by kernel_rfl) (by kernel_rfl))
    · have h := of_decide_eq_false h
      have e1 : low a b = a := by rw [low, if_neg h]
      have e2 : high a b = b := by rw [high, if_neg h]
      exact V.conv ((show _ = ordE b0 b1 b2 b3 a b by kernel_rfl).trans (by rw [e1, e2])) rfl (after () _ trivial (by kernel_rfl) (by kernel_rfl))
theorem measure_f (a b : Body) : PF 74 #[solid a, solid b] (.tuple #[.int .i64 (mdx a b), .int .i64 (mdy a b), .int .i64 (msum a b)]) := by
  refine PureFn.enter Tryz.func74 (by kernel_rfl) (by kernel_rfl) fun w => ?_
  refine V.new (fun _ => by kernel_rfl) fun b0 => ?_
  refine V.new (fun _ => by kernel_rfl) fun b1 => ?_
  refine V.loads [0, 0, 1, 1] (by kernel_rfl) ?_
  refine V.callp (chosen_f (first a) (second a) (first b) (second b)) (by kernel_rfl) ?_
  refine V.new (fun _ => by kernel_rfl) fun b2 => ?_
  refine V.new (fun _ => by kernel_rfl) fun b3 => ?_
  refine V.store 2 (by kernel_rfl) (by kernel_rfl) (by kernel_rfl) ?_
  refine V.store 3 (by kernel_rfl) (by kernel_rfl) (by kernel_rfl) ?_
  refine V.loads [2, 3] (by kernel_rfl) ?_
  refine V.callp (diff_f (cho a b).a (cho a b).b) (by kernel_rfl) ?_
  refine V.drawn mix (by kernel_rfl) ?_
  refine VD.loads [0, 1] (by kernel_rfl) ?_
  refine VD.done (by kernel_rfl) ?_
  exact V.retp _ (by kernel_rfl) (by kernel_rfl) rfl
theorem Contact.v_mk (a b c d e : Int) : Contact.v ⟨a, b, c, d, e⟩ = .agg #[.int .u32 a, .int .u32 b, .int .i32 c, .int .i32 d, .int .i32 e] := rfl
theorem ctc_eq (a b : Body) : ctc a b = ⟨a.key, b.key, (unit (mdx a b) (mdy a b)).x, (unit (mdx a b) (mdy a b)).y, w32 (w64 (msum a b - length (mdx a b) (mdy a b)))⟩ := rfl
theorem contact_f (a b : Body) : PF 55 #[a.v, b.v] (.tuple #[(contactLH (low a b) (high a b)).1.v, .bool (contactLH (low a b) (high a b)).2]) := by
  refine PureFn.enter Tryz.func55 (by kernel_rfl) (by kernel_rfl) fun w => ?_
  refine V.new (fun _ => by kernel_rfl) fun b0 => ?_
  refine V.new (fun _ => by kernel_rfl) fun b1 => ?_
  refine V.new (fun _ => by kernel_rfl) fun b2 => ?_
  refine V.loads [0, 1] (by kernel_rfl) ?_
  refine V.callp (inOrder_f a b) (by kernel_rfl) ?_
  generalize low a b = lo
  generalize high a b = hi
  refine V.new (fun _ => by kernel_rfl) fun b3 => ?_
  refine V.new (fun _ => by kernel_rfl) fun b4 => ?_
  refine V.store 3 (by kernel_rfl) (by kernel_rfl) (by kernel_rfl) ?_
  refine V.store 4 (by kernel_rfl) (by kernel_rfl) (by kernel_rfl) ?_
  refine V.loads [3, 4] (by kernel_rfl) ?_
  refine V.callp (measure_f lo hi) (by kernel_rfl) ?_
  refine V.callp (lengthSq_f (mdx lo hi) (mdy lo hi)) (by kernel_rfl) ?_
  refine V.ite (decide (lengthSq (mdx lo hi) (mdy lo hi) ≥ u64 (w64 (msum lo hi * msum lo hi)))) (by kernel_rfl) (fun h => ?_) (fun h => ?_)
  · have h := of_decide_eq_true h
    have e : touch lo hi = false := decide_eq_false (by omega)
    refine V.store 2 (by kernel_rfl) (by kernel_rfl) (by kernel_rfl) ?_
    exact V.retlp [2, 2, 2, 2, 2] (.tuple #[noCtc.v, .bool false]) (by kernel_rfl) (by kernel_rfl) (by kernel_rfl) (by rw [contactLH, if_neg (by rw [e]; decide)])
  · have h := of_decide_eq_false h
    have e : touch lo hi = true := decide_eq_true (by omega)
    refine V.loads [3, 4] (by kernel_rfl) ?_
    refine V.new (fun _ => by kernel_rfl) fun b5 => ?_
    refine V.store 5 (by kernel_rfl) (by kernel_rfl) (by kernel_rfl) ?_
    refine V.drawn mix (by kernel_rfl) ?_
    refine VD.loads [5] (by kernel_rfl) ?_
    refine VD.callp (unit_f (mdx lo hi) (mdy lo hi)) 3 (by kernel_rfl) (by kernel_rfl) (by kernel_rfl) ?_
    refine VD.callp (length_f (mdx lo hi) (mdy lo hi)) 7 (by kernel_rfl) (by kernel_rfl) (by kernel_rfl) ?_
    refine VD.store 11 (by kernel_rfl) (by kernel_rfl) (by kernel_rfl) 2 (by kernel_rfl) (by kernel_rfl) (by kernel_rfl) ?_
    refine VD.done (by kernel_rfl) ?_
    exact V.retlp [2, 2, 2, 2, 2] (.tuple #[.agg #[.int .u32 lo.key, .int .u32 hi.key, .int .i32 (unit (mdx lo hi) (mdy lo hi)).x, .int .i32 (unit (mdx lo hi) (mdy lo hi)).y, .int .i32 (w32 (w64 (msum lo hi - length (mdx lo hi) (mdy lo hi))))], .bool true]) (by kernel_rfl) (by kernel_rfl) (by kernel_rfl) (by rw [contactLH, if_pos e, ctc_eq, Contact.v_mk])
end Go.Ev

namespace Go.Ev
open Go Proofs Bil

def bnot64 (x : Int) : Int := IntKind.wrap .u64 ((BitVec.ofInt 64 18446744073709551615 ^^^ BitVec.ofInt 64 x).toNat : Int)
theorem bnot64_eq (x : Nat) (hx : x < 18446744073709551616) : bnot64 (x : Int) = ((18446744073709551615 - x : Nat) : Int) := by
  have e1 : BitVec.ofInt 64 18446744073709551615 = BitVec.allOnes 64 := by decide
  have e2 : BitVec.ofInt 64 (x : Int) = BitVec.ofNat 64 x := BitVec.ofInt_natCast ..
  unfold bnot64
  rw [e1, BitVec.allOnes_xor, e2, BitVec.toNat_not, BitVec.toNat_ofNat]
  have : x % 2 ^ 64 = x := Nat.mod_eq_of_lt (by omega)
  rw [this]
  exact u64_id (by omega) (by omega)
/-- the product of magnitudes, negated, in two's complement -/
theorem neg_split (m : Nat) : (-(m : Int)) / 18446744073709551616 = (if m % 18446744073709551616 = 0 then -((m / 18446744073709551616 : Nat) : Int) else -((m / 18446744073709551616 : Nat) : Int) - 1) ∧
    (-(m : Int)) % 18446744073709551616 = (if m % 18446744073709551616 = 0 then 0 else 18446744073709551616 - ((m % 18446744073709551616 : Nat) : Int)) := by
  split <;> omega
theorem mul_f (a b : Int) (ha : -9223372036854775808 ≤ a ∧ a < 9223372036854775808) (hb : -9223372036854775808 ≤ b ∧ b < 9223372036854775808) :
   PF 136 #[.int .i64 a, .int .i64 b] (.tuple #[.int .i64 (a * b / 18446744073709551616), .int .u64 (a * b % 18446744073709551616)]) := by
  have hP : a.natAbs * b.natAbs ≤ 85070591730234615865843651857942052864 := by
    have := Nat.mul_le_mul (show a.natAbs ≤ 9223372036854775808 by omega) (show b.natAbs ≤ 9223372036854775808 by omega)
    exact this
  refine PureFn.enter Tryz.func136 (by kernel_rfl) (by kernel_rfl) fun w => ?_
  refine V.callp (mag_f a ha.1 ha.2) (by kernel_rfl) ?_
  refine V.callp (mag_f b hb.1 hb.2) (by kernel_rfl) ?_
  refine V.callp (mul64_f a.natAbs b.natAbs (by omega) (by omega)) (by kernel_rfl) ?_
  have hpos := @prod_sign a b
  have hneg := @prod_sign' a b
  obtain ⟨p, hp⟩ : ∃ p, p = a.natAbs * b.natAbs := ⟨_, rfl⟩
  rw [← hp] at hP hpos hneg ⊢
  have hs := neg_split p
  obtain ⟨h, hh⟩ : ∃ h, h = p / 18446744073709551616 := ⟨_, rfl⟩
  obtain ⟨l, hl⟩ : ∃ l, l = p % 18446744073709551616 := ⟨_, rfl⟩
  have hl2 : l < 18446744073709551616 := by omega
  have hh2 : h ≤ 4611686018427387904 := by omega
  have hpl : p = h * 18446744073709551616 + l := by omega
  rw [← hh, ← hl] at hs ⊢
  refine V.ite (!(decide (a < 0) == decide (b < 0))) (by kernel_rfl) (fun h1 => ?_) (fun h1 => ?_)
  · have h1 : (decide (a < 0) == decide (b < 0)) = false := by simpa using h1
    have hab := hneg h1
    refine V.norm 24 (.int .u64 (bnot64 (l : Int))) (.int .u64 ((18446744073709551615 - l : Nat) : Int)) (by kernel_rfl) (vInt (bnot64_eq l hl2)) ?_
    refine V.val (.tuple #[.int .u64 (Int.ofNat ((18446744073709551615 - l + 1 + 0) % 18446744073709551616)), .int .u64 (Int.ofNat ((18446744073709551615 - l + 1 + 0) / 18446744073709551616))]) (by kernel_rfl) ?_
    refine V.retp (.tuple #[.int .i64 (w64 (u64 (bnot64 (h : Int) + Int.ofNat ((18446744073709551615 - l + 1 + 0) / 18446744073709551616)))), .int .u64 (Int.ofNat ((18446744073709551615 - l + 1 + 0) % 18446744073709551616))]) (by kernel_rfl) (by kernel_rfl) ?_
    have e1 : Int.ofNat ((18446744073709551615 - l + 1 + 0) % 18446744073709551616) = a * b % 18446744073709551616 := by
      rw [hab, hs.2]
      show (((18446744073709551615 - l + 1 + 0) % 18446744073709551616 : Nat) : Int) = _
      split <;> omega
    have e2 : w64 (u64 (bnot64 (h : Int) + Int.ofNat ((18446744073709551615 - l + 1 + 0) / 18446744073709551616))) = a * b / 18446744073709551616 := by
      rw [hab, hs.1, bnot64_eq h (by omega)]
      show w64 (u64 (_ + (((18446744073709551615 - l + 1 + 0) / 18446744073709551616 : Nat) : Int))) = _
      refine w64_of ?_ ?_ ?_
      · rw [u64_eq, Int.emod_emod_of_dvd _ (Int.dvd_refl _)]
        clear hpos hneg hab hs
        split <;> omega
      · clear hpos hneg hab hs; split <;> omega
      · clear hpos hneg hab hs; split <;> omega
    rw [e1, e2]
  · have h1 : (decide (a < 0) == decide (b < 0)) = true := by simpa using h1
    have hab := hpos h1
    refine V.retp (.tuple #[.int .i64 (w64 (h : Int)), .int .u64 (l : Int)]) (by kernel_rfl) (by kernel_rfl) ?_
    rw [hab, w64_id (by omega) (by omega)]
    have e1 : (p : Int) / 18446744073709551616 = (h : Int) := by omega
    have e2 : (p : Int) % 18446744073709551616 = (l : Int) := by omega
    rw [e1, e2]
theorem bor_add' {m n s : Nat} (hb : n < 2 ^ s) (hs : m * 2 ^ s + n < 18446744073709551616) : bor64 ((n : Nat) : Int) ((m * 2 ^ s : Nat) : Int) = ((m * 2 ^ s + n : Nat) : Int) := by
  rw [← bor_add hb hs]
  unfold bor64
  rw [BitVec.or_comm]
theorem low_sum (X h l : Int) (hX : X = h * 18446744073709551616 + l) (hl0 : 0 ≤ l) (hl : l < 18446744073709551616) :
    bor64 (Int.fdiv l 65536) (u64 (u64 h * 281474976710656)) = X / 65536 % 18446744073709551616 := by
  obtain ⟨n, hn⟩ : ∃ n : Nat, (n : Int) = Int.fdiv l 65536 := ⟨(l / 65536).toNat, by rw [Int.fdiv_eq_ediv_of_nonneg _ (by decide)]; omega⟩
  obtain ⟨m, hm⟩ : ∃ m : Nat, (m : Int) = h % 65536 := ⟨(h % 65536).toNat, by omega⟩
  rw [Int.fdiv_eq_ediv_of_nonneg _ (by decide)] at hn
  have e : u64 (u64 h * 281474976710656) = ((m * 2 ^ 48 : Nat) : Int) := by
    rw [u64_eq, u64_eq]
    have : ((m * 2 ^ 48 : Nat) : Int) = (m : Int) * 281474976710656 := by rw [Int.natCast_mul]; rfl
    rw [this]
    omega
  rw [e, Int.fdiv_eq_ediv_of_nonneg _ (by decide), ← hn, bor_add' (s := 48) (by omega) (by omega)]
  omega
theorem shifted_low (X : Int) : (Int.fdiv (X / 18446744073709551616) 65536 != Int.fdiv (w64 (X / 65536 % 18446744073709551616)) 9223372036854775808) = !in64 (X / 65536) := by
  rw [Int.fdiv_eq_ediv_of_nonneg _ (by decide), Int.fdiv_eq_ediv_of_nonneg _ (by decide), w64_eq, Int.emod_emod_of_dvd _ (Int.dvd_refl _)]
  have e : X / 18446744073709551616 / 65536 = X / 65536 / 18446744073709551616 := by
    rw [Int.ediv_ediv_of_nonneg (by decide), Int.ediv_ediv_of_nonneg (by decide)]
    rfl
  rw [e]
  generalize X / 65536 = q
  by_cases h : -9223372036854775808 ≤ q ∧ q < 9223372036854775808
  · rw [in64_yes h.1 h.2]
    have : q / 18446744073709551616 = (if q % 18446744073709551616 ≥ 9223372036854775808 then q % 18446744073709551616 - 18446744073709551616 else q % 18446744073709551616) / 9223372036854775808 := by split <;> omega
    rw [this]
    simp
  · have hf : in64 q = false := by
      by_cases h2 : q < -9223372036854775808
      · exact in64_lo h2
      · exact in64_hi (by omega)
    rw [hf]
    have : q / 18446744073709551616 ≠ (if q % 18446744073709551616 ≥ 9223372036854775808 then q % 18446744073709551616 - 18446744073709551616 else q % 18446744073709551616) / 9223372036854775808 := by split <;> omega
    simpa using this
theorem mulShift_f (a b : Int) (ha : -9223372036854775808 ≤ a ∧ a < 9223372036854775808) (hb : -9223372036854775808 ≤ b ∧ b < 9223372036854775808) :
   PF 128 #[.int .i64 a, .int .i64 b, .int .i64 16] (.tuple #[.int .i64 (shf a b), .int .i64 (if in64 (a * b / 65536) = true then 0 else 3)]) := by
  refine PureFn.enter Tryz.func128 (by kernel_rfl) (by kernel_rfl) fun w => ?_
  refine V.grdb 13 (decide ((16 : Int) < 0)) false (by kernel_rfl) rfl ?_
  refine V.ifb (decide ((16 : Int) ≥ 64)) false (by kernel_rfl) rfl ?_
  refine V.callp (mul_f a b ha hb) (by kernel_rfl) ?_
  refine V.shr .u64 .u64 (a * b % 18446744073709551616) 16 (Int.fdiv (a * b % 18446744073709551616) 65536) (by kernel_rfl) (by decide) rfl ?_
  refine V.shl .u64 .u64 (u64 (a * b / 18446744073709551616)) 48 (u64 (u64 (a * b / 18446744073709551616) * 281474976710656)) (by kernel_rfl) (by decide) rfl ?_
  refine V.norm 10 (.int .i64 (w64 (bor64 (Int.fdiv (a * b % 18446744073709551616) 65536) (u64 (u64 (a * b / 18446744073709551616) * 281474976710656))))) (.int .i64 (w64 (a * b / 65536 % 18446744073709551616))) (by kernel_rfl) (vInt ?_) ?_
  · rw [low_sum (a * b) _ _ (by omega) (by omega) (by omega)]
  refine V.ifb ((16 : Int) == 0) false (by kernel_rfl) rfl ?_
  refine V.shr .i64 .u64 (a * b / 18446744073709551616) 16 (Int.fdiv (a * b / 18446744073709551616) 65536) (by kernel_rfl) (by decide) rfl ?_
  have hX := shifted_low (a * b)
  generalize a * b / 18446744073709551616 = h at *
  have hlow : in64 (a * b / 65536) = true → w64 (a * b / 65536 % 18446744073709551616) = a * b / 65536 := fun h => by
    simp only [in64, Bool.and_eq_true, decide_eq_true_eq] at h
    exact w64_of (Int.emod_emod_of_dvd _ (Int.dvd_refl _)) h.1 h.2
  refine V.ite (Int.fdiv h 65536 != Int.fdiv (w64 (a * b / 65536 % 18446744073709551616)) 9223372036854775808) (by kernel_rfl) (fun h1 => ?_) (fun h1 => ?_)
  · rw [hX] at h1
    have h1 : in64 (a * b / 65536) = false := by simpa using h1
    exact V.retp (.tuple #[.int .i64 0, .int .i64 3]) (by kernel_rfl) (by kernel_rfl) (by rw [shf, if_neg (by rw [h1]; decide), if_neg (by rw [h1]; decide)])
  · rw [hX] at h1
    have h1 : in64 (a * b / 65536) = true := by simpa using h1
    exact V.retp (.tuple #[.int .i64 (w64 (a * b / 65536 % 18446744073709551616)), .int .i64 0]) (by kernel_rfl) (by kernel_rfl) (by rw [shf, if_pos h1, if_pos h1, hlow h1])
theorem shifted_f (a b : Int) (ha : -9223372036854775808 ≤ a ∧ a < 9223372036854775808) (hb : -9223372036854775808 ≤ b ∧ b < 9223372036854775808) : PF 113 #[.int .i64 a, .int .i64 b] (.int .i64 (shf a b)) := by
  refine PureFn.enter Tryz.func113 (by kernel_rfl) (by kernel_rfl) fun w => ?_
  refine V.callp (mulShift_f a b ha hb) (by kernel_rfl) ?_
  exact V.retp _ (by kernel_rfl) (by kernel_rfl) rfl
theorem shf_range (a b : Int) : -9223372036854775808 ≤ shf a b ∧ shf a b < 9223372036854775808 := by
  unfold shf
  split
  · rename_i h
    simp only [in64, Bool.and_eq_true, decide_eq_true_eq] at h
    exact h
  · exact ⟨by decide, by decide⟩
theorem along_f (k n : Int) (b0 : Nat) (hk : -9223372036854775808 ≤ k ∧ k < 9223372036854775808) : PX [cell1 b0 (.int .i64 k) 2] 114 #[.int .i32 n, ptr b0] (.int .i64 (shf k (w64 n))) := by
  refine PureFn.enter Tryz.func114 (by kernel_rfl) (by kernel_rfl) fun w => ?_
  refine V.loads [1002] (by kernel_rfl) ?_
  refine V.callp (shifted_f k (w64 n) hk (w64_range _)).weak (by kernel_rfl) ?_
  exact V.retp _ (by kernel_rfl) (by kernel_rfl) rfl
theorem change_f (j inv : Int) (n : Vec) (hj : -9223372036854775808 ≤ j ∧ j < 9223372036854775808) : PF 100 #[.int .i64 j, .int .i32 inv, n.v] (.tuple #[.int .i64 (change j inv n.x), .int .i64 (change j inv n.y)]) := by
  refine PureFn.enter Tryz.func100 (by kernel_rfl) (by kernel_rfl) fun w => ?_
  refine V.new (fun _ => by kernel_rfl) fun b0 => ?_
  refine V.callp (shifted_f j (w64 inv) hj (w64_range _)) (by kernel_rfl) ?_
  refine V.new (fun _ => by kernel_rfl) fun b1 => ?_
  refine V.store 1 (by kernel_rfl) (by kernel_rfl) (by kernel_rfl) ?_
  refine V.drawn mix (by kernel_rfl) ?_
  refine VD.loads [0, 0] (by kernel_rfl) ?_
  refine VD.callg [1000, 1001, 1] (along_f (shf j (w64 inv)) n.x b1 (shf_range _ _)) (by kernel_rfl) (by kernel_rfl) 3 (by kernel_rfl) (by kernel_rfl) (by kernel_rfl) ?_
  refine VD.callg [1000, 1001, 1] (along_f (shf j (w64 inv)) n.y b1 (shf_range _ _)) (by kernel_rfl) (by kernel_rfl) 7 (by kernel_rfl) (by kernel_rfl) (by kernel_rfl) ?_
  refine VD.done (by kernel_rfl) ?_
  exact V.retp _ (by kernel_rfl) (by kernel_rfl) rfl
theorem approach_f (c : Contact) (a b : Body) : PF 111 #[c.v, a.v, b.v] (.int .i64 (approach c a b)) := by
  refine PureFn.enter Tryz.func111 (by kernel_rfl) (by kernel_rfl) fun w => ?_
  refine V.new (fun _ => by kernel_rfl) fun b0 => ?_
  refine V.new (fun _ => by kernel_rfl) fun b1 => ?_
  refine V.new (fun _ => by kernel_rfl) fun b2 => ?_
  refine V.drawn mix (by kernel_rfl) ?_
  refine VD.loads [2, 1, 2, 1] (by kernel_rfl) ?_
  refine VD.done (by kernel_rfl) ?_
  refine V.loads [0, 0] (by kernel_rfl) ?_
  exact V.retp _ (by kernel_rfl) (by kernel_rfl) rfl
theorem bounce_f (a b : Body) : PF 112 #[a.v, b.v] (.int .i32 (bounce a b)) := by
  refine PureFn.enter Tryz.func112 (by kernel_rfl) (by kernel_rfl) fun w => ?_
  refine V.new (fun _ => by kernel_rfl) fun b0 => ?_
  refine V.new (fun _ => by kernel_rfl) fun b1 => ?_
  refine V.loads [0, 1] (by kernel_rfl) ?_
  exact V.retp _ (by kernel_rfl) (by kernel_rfl) rfl
theorem strength_f (c : Contact) (a b : Body) : PF 99 #[c.v, a.v, b.v] (.int .i64 (strength c a b)) := by
  refine PureFn.enter Tryz.func99 (by kernel_rfl) (by kernel_rfl) fun w => ?_
  refine V.new (fun _ => by kernel_rfl) fun b0 => ?_
  refine V.new (fun _ => by kernel_rfl) fun b1 => ?_
  refine V.new (fun _ => by kernel_rfl) fun b2 => ?_
  refine V.loads [0, 1, 2] (by kernel_rfl) ?_
  refine V.callp (approach_f c a b) (by kernel_rfl) ?_
  refine V.loads [1, 2] (by kernel_rfl) ?_
  refine V.grd 24 (decide (approach c a b ≥ 0)) (by kernel_rfl) (fun h => ?_) (fun h => ?_)
  · refine V.ifb true true (by kernel_rfl) rfl ?_
    exact V.retp (.int .i64 0) (by kernel_rfl) (by kernel_rfl) (by rw [strength, if_pos (of_decide_eq_true h)])
  · have h := of_decide_eq_false h
    refine V.ite (invs a b == 0) (by kernel_rfl) (fun h1 => ?_) (fun h1 => ?_)
    · exact V.retp (.int .i64 0) (by kernel_rfl) (by kernel_rfl) (by rw [strength, if_neg h, if_pos (by simpa using h1)])
    · have h1 : invs a b ≠ 0 := by simpa using h1
      refine V.loads [1, 2] (by kernel_rfl) ?_
      refine V.callp (bounce_f a b) (by kernel_rfl) ?_
      refine V.callp (muldiv_f (w64 (0 - approach c a b)) (w64 (65536 + w64 (bounce a b))) (invs a b) (w64_range _) (w64_range _) (w64_range _)) (by kernel_rfl) ?_
      exact V.retp (.int .i64 (mulDiv (w64 (0 - approach c a b)) (w64 (65536 + w64 (bounce a b))) (invs a b)).1) (by kernel_rfl) (by kernel_rfl) (by rw [strength, if_neg h, if_neg h1])
theorem strength_range (c : Contact) (a b : Body) : -9223372036854775808 ≤ strength c a b ∧ strength c a b < 9223372036854775808 := by
  unfold strength
  split
  · exact ⟨by decide, by decide⟩
  · split
    · exact ⟨by decide, by decide⟩
    · exact mulDiv_range _ _ _
theorem amount_f (c : Contact) (a b : Body) : PF 61 #[c.v, a.v, b.v] (.int .i64 (amount c a b)) := by
  refine PureFn.enter Tryz.func61 (by kernel_rfl) (by kernel_rfl) fun w => ?_
  refine V.new (fun _ => by kernel_rfl) fun b0 => ?_
  refine V.new (fun _ => by kernel_rfl) fun b1 => ?_
  refine V.new (fun _ => by kernel_rfl) fun b2 => ?_
  refine V.loads [0] (by kernel_rfl) ?_
  refine V.grd 14 (decide (extra c ≤ 0)) (by kernel_rfl) (fun h => ?_) (fun h => ?_)
  · refine V.gadd 18 ?_
    refine V.ifb true true (by kernel_rfl) rfl ?_
    exact V.retp (.int .i64 0) (by kernel_rfl) (by kernel_rfl) (by rw [amount, if_pos (of_decide_eq_true h)])
  · have h := of_decide_eq_false h
    refine V.loads [1] (by kernel_rfl) ?_
    refine V.grd 18 (a.inv == 0) (by kernel_rfl) (fun h1 => ?_) (fun h1 => ?_)
    · have h1 : a.inv = 0 := by simpa using h1
      refine V.loads [2] (by kernel_rfl) ?_
      refine V.ite (b.inv == 0) (by kernel_rfl) (fun h2 => ?_) (fun h2 => ?_)
      · have h2 : b.inv = 0 := by simpa using h2
        exact V.retp (.int .i64 0) (by kernel_rfl) (by kernel_rfl) (by rw [amount, if_neg h, if_pos ⟨h1, h2⟩])
      · have h2 : b.inv ≠ 0 := by simpa using h2
        exact V.retp (.int .i64 (Int.fdiv (w64 (extra c * 26214)) 65536)) (by kernel_rfl) (by kernel_rfl) (by rw [amount, if_neg h, if_neg (fun hh => h2 hh.2)])
    · have h1 : a.inv ≠ 0 := by simpa using h1
      refine V.ifb false false (by kernel_rfl) rfl ?_
      exact V.retp (.int .i64 (Int.fdiv (w64 (extra c * 26214)) 65536)) (by kernel_rfl) (by kernel_rfl) (by rw [amount, if_neg h, if_neg (fun hh => h1 hh.1)])
theorem amount_range (c : Contact) (a b : Body) : -9223372036854775808 ≤ amount c a b ∧ amount c a b < 9223372036854775808 := by
  unfold amount
  split
  · exact ⟨by decide, by decide⟩
  · split
    · exact ⟨by decide, by decide⟩
    · have := w64_range (extra c * 26214)
      rw [Int.fdiv_eq_ediv_of_nonneg _ (by decide)]
      omega
theorem max1_range (x : Int) (h : -9223372036854775808 ≤ x ∧ x < 9223372036854775808) : -9223372036854775808 ≤ mx 1 x ∧ mx 1 x < 9223372036854775808 := by
  unfold mx
  split <;> omega
theorem share_f (c : Contact) (a b : Body) (hi : Bool) : PF 47 #[c.v, a.v, b.v, .bool hi] (.int .i64 (share c a b hi)) := by
  refine PureFn.enter Tryz.func47 (by kernel_rfl) (by kernel_rfl) fun w => ?_
  refine V.new (fun _ => by kernel_rfl) fun b0 => ?_
  refine V.new (fun _ => by kernel_rfl) fun b1 => ?_
  refine V.new (fun _ => by kernel_rfl) fun b2 => ?_
  refine V.loads [1] (by kernel_rfl) ?_
  cases hi with
  | true =>
    refine V.ifb true true (by kernel_rfl) rfl ?_
    refine V.loads [2] (by kernel_rfl) ?_
    refine V.drawn mix (by kernel_rfl) ?_
    refine VD.loads [0, 1, 2, 1, 2] (by kernel_rfl) ?_
    refine VD.callp (amount_f c a b) 3 (by kernel_rfl) (by kernel_rfl) (by kernel_rfl) ?_
    refine VD.callp (muldiv_f (amount c a b) (w64 b.inv) (mx 1 (invs a b)) (amount_range c a b) (w64_range _) (max1_range _ (w64_range _))) 14 (by kernel_rfl) (by kernel_rfl) (by kernel_rfl) ?_
    refine VD.done (by kernel_rfl) ?_
    exact V.retp _ (by kernel_rfl) (by kernel_rfl) rfl
  | false =>
    refine V.ifb false false (by kernel_rfl) rfl ?_
    refine V.drawn mix (by kernel_rfl) ?_
    refine VD.loads [0, 1, 2, 1, 2] (by kernel_rfl) ?_
    refine VD.callp (amount_f c a b) 3 (by kernel_rfl) (by kernel_rfl) (by kernel_rfl) ?_
    refine VD.callp (muldiv_f (amount c a b) (w64 a.inv) (mx 1 (invs a b)) (amount_range c a b) (w64_range _) (max1_range _ (w64_range _))) 14 (by kernel_rfl) (by kernel_rfl) (by kernel_rfl) ?_
    refine VD.done (by kernel_rfl) ?_
    exact V.retp _ (by kernel_rfl) (by kernel_rfl) rfl
theorem isStatic_f (b : Body) : PF 37 #[b.v] (.bool (b.inv == 0)) := by
  refine PureFn.enter Tryz.func37 (by kernel_rfl) (by kernel_rfl) fun w => ?_
  refine V.new (fun _ => by kernel_rfl) fun b0 => ?_
  refine V.loads [0] (by kernel_rfl) ?_
  exact V.retp _ (by kernel_rfl) (by kernel_rfl) rfl
end Go.Ev

namespace Go.Ev
open Go Proofs Bil

/-- a contract over this program and over what is only read -/
abbrev SX {X : Type} (Y : Gls) (g : Nat) (args : Array Value) (C : List Ent) (val : X → Value) (C' : X → List Ent) : Prop := Spec Tryz.prog Y g args (fun _ => True) C val (fun _ => True) C'
theorem limited_f (n l : Int) (y : Bool) (bf bs : Nat) : SX (GLS ++ [.blk bs (.cells #[ptr bf] 72 (0, 0))]) 38 #[.int .i64 n, .int .i64 l, .slice (some ⟨bs, 0, none⟩) 1 1] [cell1 bf (.bool y) 4]
    (fun _ : Unit => .int .i32 (w32 (limit n l).1)) (fun _ => [cell1 bf (.bool (y || (limit n l).2)) 4]) := by
  refine Spec.enter Tryz.func38 (by kernel_rfl) (by kernel_rfl) fun w _ _ => ?_
  refine V.callp (limit_f n l).weak (by kernel_rfl) ?_
  refine V.roll (by kernel_rfl) ?_
  refine V.ifb (decide ((0 : Int) < 1)) true (by kernel_rfl) rfl ?_
  refine V.idx bs 0 1 1 0 .i64 (by kernel_rfl) (by decide) ?_
  refine V.loads [1002, 0] (by kernel_rfl) ?_
  refine V.grd 27 y (by kernel_rfl) (fun h => ?_) (fun h => ?_)
  · subst h
    refine V.store 0 (by kernel_rfl) (by kernel_rfl) (by kernel_rfl) ?_
    refine V.again (by kernel_rfl) ?_
    refine V.ifb (decide ((1 : Int) < 1)) false (by kernel_rfl) rfl ?_
    exact V.rete () _ [0] (by kernel_rfl) (by kernel_rfl) (by kernel_rfl) (by kernel_rfl) rfl trivial
  · subst h
    refine V.store 0 (by kernel_rfl) (by kernel_rfl) (by kernel_rfl) ?_
    refine V.again (by kernel_rfl) ?_
    refine V.ifb (decide ((1 : Int) < 1)) false (by kernel_rfl) rfl ?_
    exact V.rete () _ [0] (by kernel_rfl) (by kernel_rfl) (by kernel_rfl) (by kernel_rfl) rfl trivial
theorem fall1_f (i : Int) (b : Body) (y : Bool) (bf : Nat) (X : Gls) : SX (GLS ++ X) 36 #[.int .i64 i, b.v, ptr bf] [cell1 bf (.bool y) 4] (fun _ : Unit => (fallB b).v) (fun _ => [cell1 bf (.bool (y || fallH b)) 4]) := by
  refine Spec.enter Tryz.func36 (by kernel_rfl) (by kernel_rfl) fun w _ _ => ?_
  refine V.new (fun _ => by kernel_rfl) fun b0 => ?_
  refine V.new (fun _ => by kernel_rfl) fun b1 => ?_
  refine V.loads [1] (by kernel_rfl) ?_
  refine V.callp (isStatic_f b).weak (by kernel_rfl) ?_
  refine V.ite (!(b.inv == 0)) (by kernel_rfl) (fun h => ?_) (fun h => ?_)
  · have h : b.inv ≠ 0 := by simpa using h
    have e1 : fallB b = ⟨b.key, b.rad, b.ax, b.ay, b.inv, b.bo, b.px, b.py, b.vx, w32 (fallV b).1⟩ := by rw [fallB, if_neg h]
    have e2 : fallH b = (fallV b).2 := by rw [fallH, if_neg h]
    rw [e1, e2]
    refine V.loads [1] (by kernel_rfl) ?_
    refine V.new (fun _ => by kernel_rfl) fun b2 => ?_
    refine V.callcg [1000, 1001, 3] 1 (limited_f (w64 (w64 b.vy - 1024)) 16777216 y bf b2) rfl (by kernel_rfl) (by kernel_rfl) (by kernel_rfl) (by kernel_rfl) (fun _ _ => trivial) fun _ _ => ?_
    refine V.store 1 (by kernel_rfl) (by kernel_rfl) (by kernel_rfl) ?_
    refine V.loads [1] (by kernel_rfl) ?_
    refine V.store 2 (by kernel_rfl) (by kernel_rfl) (by kernel_rfl) ?_
    exact V.retle [2, 2, 2, 2, 2, 2, 2, 2, 2, 2] () (Body.v ⟨b.key, b.rad, b.ax, b.ay, b.inv, b.bo, b.px, b.py, b.vx, w32 (fallV b).1⟩) [0] (by kernel_rfl) (by kernel_rfl) (by kernel_rfl) (by kernel_rfl) (by kernel_rfl) rfl trivial
  · have h : b.inv = 0 := by simpa using h
    have e1 : fallB b = b := by rw [fallB, if_pos h]
    have e2 : fallH b = false := by rw [fallH, if_pos h]
    rw [e1, e2, Bool.or_false]
    refine V.loads [1] (by kernel_rfl) ?_
    refine V.store 2 (by kernel_rfl) (by kernel_rfl) (by kernel_rfl) ?_
    exact V.retle [2, 2, 2, 2, 2, 2, 2, 2, 2, 2] () b.v [0] (by kernel_rfl) (by kernel_rfl) (by kernel_rfl) (by kernel_rfl) (by kernel_rfl) rfl trivial
theorem move1_f (i : Nat) (s : Shift) (b : Body) (y : Bool) (bl bf : Nat) (a : Option Addr) (n cap : Nat) (xs : List Value) (hi : i < n) (hs : (xs.drop (i * 2)).take 2 = s.cells) (X : Gls) :
    SX (.row (.slice a n cap) 75 2 n xs :: cell1 bl (.slice a n cap) 58 :: (GLS ++ X)) 39 #[.int .i64 (i : Int), b.v, ptr bl, ptr bf] [cell1 bf (.bool y) 4] (fun _ : Unit => (moveB s b).v) (fun _ => [cell1 bf (.bool (y || moveH s b)) 4]) := by
  refine Spec.enter Tryz.func39 (by kernel_rfl) (by kernel_rfl) fun w _ _ => ?_
  refine V.new (fun _ => by kernel_rfl) fun b0 => ?_
  refine V.new (fun _ => by kernel_rfl) fun b1 => ?_
  refine V.part 1000 i s.cells (.slice a n cap) 75 2 n xs (by kernel_rfl) (by kernel_rfl) hi hs ?_
  refine V.drawn mix (by kernel_rfl) ?_
  refine VD.loads [1, 1002, 1] (by kernel_rfl) ?_
  refine VD.rix 6 1001 i .i64 (.slice a n cap) 75 2 n xs (by kernel_rfl) (by kernel_rfl) (by kernel_rfl) (by kernel_rfl) hi ?_
  refine VD.loads [2000] (by kernel_rfl) ?_
  refine VD.done (by kernel_rfl) ?_
  refine V.drawn mix (by kernel_rfl) ?_
  refine VD.loads [1, 1002, 1] (by kernel_rfl) ?_
  refine VD.rix 6 1001 i .i64 (.slice a n cap) 75 2 n xs (by kernel_rfl) (by kernel_rfl) (by kernel_rfl) (by kernel_rfl) hi ?_
  refine VD.loads [3000] (by kernel_rfl) ?_
  refine VD.done (by kernel_rfl) ?_
  refine V.new (fun _ => by kernel_rfl) fun b2 => ?_
  refine V.callcg [1003, 1004, 3] 1 (limited_f (w64 (w64 (w64 b.px + s.x) + w64 (Int.fdiv b.vx 64))) 1073741824 y bf b2) rfl (by kernel_rfl) (by kernel_rfl) (by kernel_rfl) (by kernel_rfl) (fun _ _ => trivial) fun _ _ => ?_
  refine V.new (fun _ => by kernel_rfl) fun b3 => ?_
  refine V.callcg [1003, 1004, 4] 1 (limited_f (w64 (w64 (w64 b.py + s.y) + w64 (Int.fdiv b.vy 64))) 1073741824 (y || (moveX s b).2) bf b3) rfl (by kernel_rfl) (by kernel_rfl) (by kernel_rfl) (by kernel_rfl) (fun _ _ => trivial) fun _ _ => ?_
  refine V.store 1 (by kernel_rfl) (by kernel_rfl) (by kernel_rfl) ?_
  refine V.loads [1] (by kernel_rfl) ?_
  refine V.store 2 (by kernel_rfl) (by kernel_rfl) (by kernel_rfl) ?_
  rw [moveH, ← Bool.or_assoc]
  exact V.retle [2, 2, 2, 2, 2, 2, 2, 2, 2, 2] () (Body.v ⟨b.key, b.rad, b.ax, b.ay, b.inv, b.bo, w32 (moveX s b).1, w32 (moveY s b).1, b.vx, b.vy⟩) [0] (by kernel_rfl) (by kernel_rfl) (by kernel_rfl) (by kernel_rfl) (by kernel_rfl) rfl trivial

/-- a slice of bodies -/
abbrev rowB (a : Option Addr) (cap : Nat) (bs : List Body) : Ent := .row (.slice a bs.length cap) 38 10 bs.length (flat Body.cells bs)
theorem one_body : ∀ x : Body, ∀ u ∈ x.cells, u.oneCell' = true := by
  intro x u hu
  simp only [Body.cells, List.mem_cons, List.not_mem_nil, or_false] at hu
  rcases hu with rfl | rfl | rfl | rfl | rfl | rfl | rfl | rfl | rfl | rfl <;> rfl
theorem take_succ_get {α : Type} {l : List α} {k : Nat} (h : k < l.length) : l.take (k + 1) = l.take k ++ [l[k]] := by
  rw [List.take_add_one, List.getElem?_eq_getElem h]; rfl
theorem w64_succ {k : Nat} (h : k < 4611686018427387904) : IntKind.wrap .i64 ((k : Int) + 1) = ((k + 1 : Nat) : Int) := by
  have := w64_id (x := (k : Int) + 1) (by omega) (by omega)
  exact this
theorem transform_f (X : Gls) (g : Nat) (caps : Array Value) (hg : enterB Tryz.prog g = true) (bc : Nat) (f : Nat → Body → Body) (h : Nat → Body → Bool) (bs : List Body) (a : Option Addr) (cap : Nat) (y : Bool) (hn : bs.length ≤ 65536)
    (hf : ∀ (i : Nat) (b : Body) (y : Bool), bs[i]? = some b → SX (rowB a cap bs :: X) g (#[.int .i64 (i : Int), b.v] ++ caps) [cell1 bc (.bool y) 4] (fun _ : Unit => (f i b).v) (fun _ => [cell1 bc (.bool (y || h i b)) 4])) :
    SX (rowB a cap bs :: X) 35 #[.slice a bs.length cap, .func (.func g) #[] caps] [cell1 bc (.bool y) 4] (fun x : Option Addr × Nat => .slice x.1 bs.length x.2)
      (fun x => [cell1 bc (.bool (y || anyI h 0 bs)) 4, rowB x.1 x.2 (mapI f 0 bs)]) := by
  refine Spec.enter Tryz.func35 (by kernel_rfl) (by kernel_rfl) fun w _ _ => ?_
  refine V.nilrow 38 10 ?_
  refine V.cut 1 [5] (fun x : Option Addr × Nat => [.slice x.1 bs.length x.2]) (fun x => [cell1 bc (.bool (y || anyI h 0 bs)) 4, rowB x.1 x.2 (mapI f 0 bs)]) (fun _ => True) (fun F x _ => ?_) (fun after => ?_)
  · exact V.rete x _ [0, 1] (by kernel_rfl) (by kernel_rfl) (by kernel_rfl) (by kernel_rfl) rfl trivial
  refine V.loop [5, 8, 9, 10, 1] (fun x : Nat × Option Addr × Nat => [.slice x.2.1 x.1 x.2.2, .slice a bs.length cap, .int .i64 (bs.length : Int), .int .i64 (x.1 : Int), .func (.func g) #[] caps])
    (fun x => [cell1 bc (.bool (y || anyI h 0 (bs.take x.1))) 4, .row (.slice x.2.1 x.1 x.2.2) 38 10 x.1 (flat Body.cells (mapI f 0 (bs.take x.1)))]) (fun x => x.1 ≤ bs.length) (fun x => bs.length - x.1) (0, none, 0)
    (by kernel_rfl) (by kernel_rfl) ?_ (Nat.zero_le _) ?_
  · show [cell1 bc (.bool y) 4, _] = [cell1 bc (.bool (y || false)) 4, _]
    rw [Bool.or_false]
    rfl
  rintro F ⟨k, a', cap'⟩ hk again
  have hk : k ≤ bs.length := hk
  refine V.ite (decide ((k : Int) < (bs.length : Int))) (by kernel_rfl) (fun hlt => ?_) (fun hlt => ?_)
  · have hlt : (k : Int) < (bs.length : Int) := of_decide_eq_true hlt
    have hlt : k < bs.length := by omega
    have hb : bs[k]? = some bs[k] := List.getElem?_eq_getElem hlt
    have htk := take_succ_get hlt
    revert hb htk
    generalize bs[k] = b
    intro hb htk
    refine V.rix 1000 k .i64 (.slice a bs.length cap) 38 10 bs.length (flat Body.cells bs) (by kernel_rfl) (by kernel_rfl) (by kernel_rfl) hlt ?_
    refine V.part 1000 k b.cells (.slice a bs.length cap) 38 10 bs.length (flat Body.cells bs) (by kernel_rfl) (by kernel_rfl) hlt (flat_at Body.cells 10 Body.cells_length bs k b hb) ?_
    refine V.loads [2000] (by kernel_rfl) ?_
    refine V.unpart ?_
    refine V.new (fun _ => by kernel_rfl) fun b7 => ?_
    refine V.store 2 (by kernel_rfl) (by kernel_rfl) (by kernel_rfl) ?_
    refine V.loads [2] (by kernel_rfl) ?_
    refine V.callc 1 (hf k b (y || anyI h 0 (bs.take k)) hb) rfl (callV_callH (by kernel_rfl) hg) (fun _ _ => trivial) fun _ _ => ?_
    refine V.new (fun _ => by kernel_rfl) fun b9 => ?_
    refine V.append 1 3 40 (t := 22) (e := 38) (size := 10) (n := k) (m := 1) (b := b9) (c := 1) (T := 38) (v := .slice a' k cap') (xs := flat Body.cells (mapI f 0 (bs.take k))) (cs := (f k b).cells.toArray)
      (by kernel_rfl) (by kernel_rfl) (by kernel_rfl) (by kernel_rfl) (by kernel_rfl) (by kernel_rfl) (by simp only [maxLen]; omega) (by omega) fun a2 cap2 => ?_
    refine V.keep [0, 1] (by kernel_rfl) ?_
    refine V.norm 10 (.int .i64 (IntKind.wrap .i64 ((k : Int) + 1))) (.int .i64 ((k + 1 : Nat) : Int)) (by kernel_rfl) (vInt (w64_succ (by omega))) ?_
    refine V.conv ((show _ = [cell1 bc (.bool (y || anyI h 0 (bs.take k) || h k b)) 4, .row (.slice a2 (k + 1) cap2) 38 10 (k + 1) (flat Body.cells (mapI f 0 (bs.take k)) ++ (f k b).cells)] by kernel_rfl).trans ?_) rfl (again (k + 1, a2, cap2) _ (show k + 1 ≤ _ by omega) (show bs.length - (k + 1) < bs.length - k by omega) (by kernel_rfl) (by kernel_rfl))
    have hl : (bs.take k).length = k := by rw [List.length_take]; omega
    show _ = [cell1 bc (.bool (y || anyI h 0 (bs.take (k + 1)))) 4, .row (.slice a2 (k + 1) cap2) 38 10 (k + 1) (flat Body.cells (mapI f 0 (bs.take (k + 1))))]
    rw [htk, anyI_append, mapI_append, flat_append, hl, Nat.zero_add, ← Bool.or_assoc]
    have e1 : flat Body.cells (mapI f k [b]) = (f k b).cells := by simp [mapI, flat]
    have e2 : anyI h k [b] = h k b := by simp [anyI]
    rw [e1, e2]
  · have hlt : ¬ (k : Int) < (bs.length : Int) := of_decide_eq_false hlt
    have hk2 : k = bs.length := by omega
    subst hk2
    have e : bs.take bs.length = bs := List.take_length
    refine V.conv ((show _ = [cell1 bc (.bool (y || anyI h 0 (bs.take bs.length))) 4, .row (.slice a' bs.length cap') 38 10 bs.length (flat Body.cells (mapI f 0 (bs.take bs.length)))] by kernel_rfl).trans ?_) rfl (after (a', cap') _ trivial (by kernel_rfl) (by kernel_rfl))
    rw [e, rowB, mapI_length]
abbrev rowS (a : Option Addr) (cap : Nat) (ss : List Shift) : Ent := .row (.slice a ss.length cap) 75 2 ss.length (flat Shift.cells ss)
theorem gravity_f (bs : List Body) (a : Option Addr) (cap : Nat) (hn : bs.length ≤ 65536) :
    SX (GLS ++ [rowB a cap bs]) 23 #[.slice a bs.length cap] [] (fun x : Option Addr × Nat => .tuple #[.slice x.1 bs.length x.2, .bool (gravH bs)]) (fun x => [rowB x.1 x.2 (gravB bs)]) := by
  refine Spec.enter Tryz.func23 (by kernel_rfl) (by kernel_rfl) fun w _ _ => ?_
  refine V.new (fun _ => by kernel_rfl) fun b0 => ?_
  refine V.store 0 (by kernel_rfl) (by kernel_rfl) (by kernel_rfl) ?_
  refine V.callcg [1002, 1000, 1001] 1 (transform_f GLS 36 #[ptr b0] (by kernel_rfl) b0 (fun _ b => fallB b) (fun _ b => fallH b) bs a cap false hn (fun i b y _ => (fall1_f (i : Int) b y b0 []).cons)) (by kernel_rfl) (by kernel_rfl) (by kernel_rfl) (by kernel_rfl) (by kernel_rfl) (fun _ _ => trivial) fun x _ => ?_
  refine V.drawn mix (by kernel_rfl) ?_
  refine VD.loads [0] (by kernel_rfl) ?_
  refine VD.done (by kernel_rfl) ?_
  exact V.rete x (.tuple #[.slice x.1 bs.length x.2, .bool (gravH bs)]) [1] (by kernel_rfl) (by kernel_rfl) (by kernel_rfl) (by kernel_rfl) rfl trivial
theorem moves_f (bs : List Body) (a : Option Addr) (cap : Nat) (ss : List Shift) (a2 : Option Addr) (cap2 : Nat) (hn : bs.length ≤ 65536) (hs : ss.length = bs.length) :
    SX (GLS ++ [rowB a cap bs, rowS a2 cap2 ss]) 24 #[.slice a bs.length cap, .slice a2 ss.length cap2] [] (fun x : Option Addr × Nat => .tuple #[.slice x.1 bs.length x.2, .bool (movH ss bs)]) (fun x => [rowB x.1 x.2 (movB ss bs)]) := by
  refine Spec.enter Tryz.func24 (by kernel_rfl) (by kernel_rfl) fun w _ _ => ?_
  refine V.new (fun _ => by kernel_rfl) fun b0 => ?_
  refine V.new (fun _ => by kernel_rfl) fun b1 => ?_
  refine V.store 1 (by kernel_rfl) (by kernel_rfl) (by kernel_rfl) ?_
  refine V.keep [1, 0] (by kernel_rfl) ?_
  refine V.callcg [1002, 1003, 1, 1000, 1001] 1 (transform_f (rowS a2 cap2 ss :: cell1 b0 (.slice a2 ss.length cap2) 58 :: GLS) 39 #[ptr b0, ptr b1] (by kernel_rfl) b1 (fun i b => moveB (shiftAt ss i) b) (fun i b => moveH (shiftAt ss i) b) bs a cap false hn
    (fun i b y hb => (move1_f i (shiftAt ss i) b y b0 b1 a2 ss.length cap2 (flat Shift.cells ss) ?_ ?_ []).cons)) (by kernel_rfl) (by kernel_rfl) (by kernel_rfl) (by kernel_rfl) (by kernel_rfl) (fun _ _ => trivial) fun x _ => ?_
  · rw [hs]; exact (List.getElem?_eq_some_iff.1 hb).1
  · have hi : i < ss.length := by rw [hs]; exact (List.getElem?_eq_some_iff.1 hb).1
    refine flat_at Shift.cells 2 Shift.cells_length ss i _ ?_
    rw [shiftAt, List.getD_eq_getElem?_getD, List.getElem?_eq_getElem hi]
    rfl
  refine V.drawn mix (by kernel_rfl) ?_
  refine VD.loads [0] (by kernel_rfl) ?_
  refine VD.done (by kernel_rfl) ?_
  exact V.rete x (.tuple #[.slice x.1 bs.length x.2, .bool (movH ss bs)]) [1] (by kernel_rfl) (by kernel_rfl) (by kernel_rfl) (by kernel_rfl) rfl trivial
end Go.Ev

namespace Go.Ev
open Go Proofs Bil

theorem isNaN_f (x : Int) : PF 80 #[.int .u32 x] (.bool false) := by
  refine PureFn.enter Tryz.func80 (by kernel_rfl) (by kernel_rfl) fun w => ?_
  exact V.retp (.bool (x != x)) (by kernel_rfl) (by kernel_rfl) (by simp)
theorem compare_f (x y : Int) : PF 59 #[.int .u32 x, .int .u32 y] (.int .i64 (cmpI x y)) := by
  refine PureFn.enter Tryz.func59 (by kernel_rfl) (by kernel_rfl) fun w => ?_
  refine V.callp (isNaN_f x) (by kernel_rfl) ?_
  refine V.callp (isNaN_f y) (by kernel_rfl) ?_
  refine V.ifb false false (by kernel_rfl) rfl ?_
  refine V.ifb false false (by kernel_rfl) rfl ?_
  refine V.ite (decide (x < y)) (by kernel_rfl) (fun h => ?_) (fun h => ?_)
  · exact V.retp (.int .i64 (-1)) (by kernel_rfl) (by kernel_rfl) (by rw [cmpI, if_pos (of_decide_eq_true h)])
  refine V.ite (decide (x > y)) (by kernel_rfl) (fun h2 => ?_) (fun h2 => ?_)
  · exact V.retp (.int .i64 1) (by kernel_rfl) (by kernel_rfl) (by rw [cmpI, if_neg (of_decide_eq_false h), if_pos (of_decide_eq_true h2)])
  · exact V.retp (.int .i64 0) (by kernel_rfl) (by kernel_rfl) (by rw [cmpI, if_neg (of_decide_eq_false h), if_neg (of_decide_eq_false h2)])
theorem find1_f (b : Body) (key : Int) : PF 58 #[b.v, .int .u32 key] (.int .i64 (cmpI b.key key)) := by
  refine PureFn.enter Tryz.func58 (by kernel_rfl) (by kernel_rfl) fun w => ?_
  refine V.new (fun _ => by kernel_rfl) fun b0 => ?_
  refine V.loads [0] (by kernel_rfl) ?_
  refine V.callp (compare_f b.key key) (by kernel_rfl) ?_
  exact V.retp _ (by kernel_rfl) (by kernel_rfl) rfl
theorem cmpI_neg {x y : Int} : cmpI x y < 0 ↔ x < y := by unfold cmpI; split <;> (try split) <;> omega
theorem cmpI_zero {x y : Int} : cmpI x y = 0 ↔ x = y := by unfold cmpI; split <;> (try split) <;> omega
theorem half_eq {i j : Nat} (h : i + j < 9223372036854775808) : IntKind.wrap .i64 (Int.fdiv (IntKind.wrap .u64 (IntKind.wrap .i64 ((i : Int) + (j : Int)))) (2 ^ 1)) = (((i + j) / 2 : Nat) : Int) := by
  have e1 : IntKind.wrap .i64 ((i : Int) + (j : Int)) = (i : Int) + (j : Int) := w64_id (by omega) (by omega)
  have e2 : IntKind.wrap .u64 ((i : Int) + (j : Int)) = (i : Int) + (j : Int) := u64_id (by omega) (by omega)
  rw [e1, e2, Int.fdiv_eq_ediv_of_nonneg _ (by decide)]
  have e3 : ((i : Int) + (j : Int)) / (2 ^ 1) = (((i + j) / 2 : Nat) : Int) := by omega
  rw [e3]
  exact w64_id (by omega) (by omega)
theorem bsearch_f (v : List Body) (a : Option Addr) (cap : Nat) (key : Int) (hs : Srt v) (hn : v.length ≤ 65536) :
    PX [rowB a cap v] 57 #[.slice a v.length cap, .int .u32 key, .func (.func 58) #[] #[]] (.tuple #[.int .i64 (lb v key : Int), .bool (hasKey v key)]) := by
  refine PureFn.enter Tryz.func57 (by kernel_rfl) (by kernel_rfl) fun w => ?_
  refine V.cut 1 [9, 8, 2, 0, 1] (fun _ : Unit => [.int .i64 (lb v key : Int), .int .i64 (v.length : Int), .func (.func 58) #[] #[], .slice a v.length cap, .int .u32 key]) (fun _ => []) (fun _ => True) (fun F x _ => ?_) (fun after => ?_)
  · refine V.grd 39 (decide ((lb v key : Int) < (v.length : Int))) (by kernel_rfl) (fun h => ?_) (fun h => ?_)
    · have h : (lb v key : Int) < (v.length : Int) := of_decide_eq_true h
      have h : lb v key < v.length := by omega
      have hb : v[lb v key]? = some v[lb v key] := List.getElem?_eq_getElem h
      have hk : hasKey v key = (v[lb v key].key == key) := by unfold hasKey; rw [hb]
      rw [hk]
      revert hb
      generalize v[lb v key] = b
      intro hb
      refine V.rix 1002 (lb v key) .i64 (.slice a v.length cap) 38 10 v.length (flat Body.cells v) (by kernel_rfl) (by kernel_rfl) (by kernel_rfl) h ?_
      refine V.part 1002 (lb v key) b.cells (.slice a v.length cap) 38 10 v.length (flat Body.cells v) (by kernel_rfl) (by kernel_rfl) h (flat_at Body.cells 10 Body.cells_length v _ b hb) ?_
      refine V.loads [2000] (by kernel_rfl) ?_
      refine V.unpart ?_
      refine V.callp (find1_f b key).weak (by kernel_rfl) ?_
      refine V.retp (.tuple #[.int .i64 (lb v key : Int), .bool (cmpI b.key key == 0)]) (by kernel_rfl) (by kernel_rfl) ?_
      have : (cmpI b.key key == 0) = (b.key == key) := by
        rw [Bool.eq_iff_iff]; simp [cmpI_zero]
      rw [this]
    · have h : ¬ (lb v key : Int) < (v.length : Int) := of_decide_eq_false h
      have hb : v[lb v key]? = none := List.getElem?_eq_none (by omega)
      exact V.retp (.tuple #[.int .i64 (lb v key : Int), .bool false]) (by kernel_rfl) (by kernel_rfl) (by unfold hasKey; rw [hb])
  refine V.loop [9, 10, 8, 2, 0, 1] (fun x : Nat × Nat => [.int .i64 (x.1 : Int), .int .i64 (x.2 : Int), .int .i64 (v.length : Int), .func (.func 58) #[] #[], .slice a v.length cap, .int .u32 key]) (fun _ => [])
    (fun x => x.1 ≤ lb v key ∧ lb v key ≤ x.2 ∧ x.2 ≤ v.length) (fun x => x.2 - x.1) (0, v.length) (by kernel_rfl) (by kernel_rfl) rfl ⟨Nat.zero_le _, lb_le _ _, Nat.le_refl _⟩ ?_
  rintro F ⟨i, j⟩ ⟨h1, h2, h3⟩ again
  have h1 : i ≤ lb v key := h1
  have h2 : lb v key ≤ j := h2
  have h3 : j ≤ v.length := h3
  refine V.ite (decide ((i : Int) < (j : Int))) (by kernel_rfl) (fun h => ?_) (fun h => ?_)
  · have h : (i : Int) < (j : Int) := of_decide_eq_true h
    obtain ⟨m, hm⟩ : ∃ m, m = (i + j) / 2 := ⟨_, rfl⟩
    have hmv : m < v.length := by omega
    have hb : v[m]? = some v[m] := List.getElem?_eq_getElem hmv
    revert hb
    generalize v[m] = b
    intro hb
    have hlt := lb_lt (key := key) hs hb
    refine V.norm 11 (.int .i64 (IntKind.wrap .i64 (Int.fdiv (IntKind.wrap .u64 (IntKind.wrap .i64 ((i : Int) + (j : Int)))) (2 ^ 1)))) (.int .i64 (m : Int)) (by kernel_rfl) (vInt (by rw [hm]; exact half_eq (by omega))) ?_
    refine V.norm 26 (.int .i64 (IntKind.wrap .i64 (Int.fdiv (IntKind.wrap .u64 (IntKind.wrap .i64 ((i : Int) + (j : Int)))) (2 ^ 1)))) (.int .i64 (m : Int)) (by kernel_rfl) (vInt (by rw [hm]; exact half_eq (by omega))) ?_
    refine V.rix 1002 m .i64 (.slice a v.length cap) 38 10 v.length (flat Body.cells v) (by kernel_rfl) (by kernel_rfl) (by kernel_rfl) hmv ?_
    refine V.part 1002 m b.cells (.slice a v.length cap) 38 10 v.length (flat Body.cells v) (by kernel_rfl) (by kernel_rfl) hmv (flat_at Body.cells 10 Body.cells_length v m b hb) ?_
    refine V.loads [2000] (by kernel_rfl) ?_
    refine V.unpart ?_
    refine V.callp (find1_f b key).weak (by kernel_rfl) ?_
    refine V.ite (decide (cmpI b.key key < 0)) (by kernel_rfl) (fun hc => ?_) (fun hc => ?_)
    · have hc := hlt.1 (cmpI_neg.1 (of_decide_eq_true hc))
      refine V.norm 9 (.int .i64 (IntKind.wrap .i64 ((m : Int) + 1))) (.int .i64 ((m + 1 : Nat) : Int)) (by kernel_rfl) (vInt (w64_succ (by omega))) ?_
      exact again (m + 1, j) _ ⟨hc, h2, h3⟩ (show j - (m + 1) < j - i by omega) (by kernel_rfl) (by kernel_rfl)
    · have hc : ¬ m < lb v key := fun hh => (of_decide_eq_false hc) (cmpI_neg.2 (hlt.2 hh))
      exact again (i, m) _ ⟨h1, (show lb v key ≤ m by omega), (show m ≤ v.length by omega)⟩ (show m - i < j - i by omega) (by kernel_rfl) (by kernel_rfl)
  · have h : ¬ (i : Int) < (j : Int) := of_decide_eq_false h
    have e : i = lb v key := by omega
    subst e
    exact after () _ trivial (by kernel_rfl) (by kernel_rfl)
theorem find_f (v : List Body) (a : Option Addr) (cap : Nat) (key : Int) (hs : Srt v) (hn : v.length ≤ 65536) :
    PX [rowB a cap v] 45 #[.slice a v.length cap, .int .u32 key] (.tuple #[.int .i64 (lb v key : Int), .bool (hasKey v key)]) := by
  refine PureFn.enter Tryz.func45 (by kernel_rfl) (by kernel_rfl) fun w => ?_
  refine V.callg [1000, 1001, 1002] (bsearch_f v a cap key hs hn) (by kernel_rfl) (by kernel_rfl) (by kernel_rfl) ?_
  exact V.retp _ (by kernel_rfl) (by kernel_rfl) rfl
end Go.Ev
