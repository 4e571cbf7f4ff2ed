/- Shown here: What the grid, the pairs and the contacts compute, as plain functions. Walks: cell.cells, its iterator, cell.All. Walks: cell.Bucket. Conditions: none beyond those in each theorem. -/
import Derived.Test.YtpnknnlnkmhgpaaGreatDoorK12
namespace Go.Bil
open Go

/-- the numbers from a to b -/
def span (a b : Int) : List Int := (List.range (b + 1 - a).toNat).map (fun (i : Nat) => a + (i : Int))
def cLo (a : Box) : Vec := if boxEmpty a = true then ⟨0, 0⟩ else spanLo a
def cHi (a : Box) : Vec := if boxEmpty a = true then ⟨0, 0⟩ else spanHi a
/-- the cells of row y, up to column number i -/
def crow (a : Box) (y : Int) (i : Nat) : List Vec := (List.range i).map (fun (k : Nat) => ⟨(cLo a).x + (k : Int), y⟩)
def cnx (a : Box) : Nat := ((cHi a).x + 1 - (cLo a).x).toNat
def cny (a : Box) : Nat := ((cHi a).y + 1 - (cLo a).y).toNat
/-- the first j rows -/
def crows (a : Box) : Nat → List Vec
  | 0 => []
  | j + 1 => crows a j ++ crow a ((cLo a).y + (j : Int)) (cnx a)
/-- cell.All -/
def cellsOf (a : Box) : List Vec := if boxEmpty a = true then [] else crows a (cny a)
theorem crow_succ (a : Box) (y : Int) (i : Nat) : crow a y (i + 1) = crow a y i ++ [⟨(cLo a).x + (i : Int), y⟩] := by
  simp [crow, List.range_succ]
theorem crow_length (a : Box) (y : Int) (i : Nat) : (crow a y i).length = i := by simp [crow]
theorem crows_length (a : Box) : ∀ j, (crows a j).length = j * cnx a
  | 0 => by simp [crows]
  | j + 1 => by rw [crows, List.length_append, crows_length a j, crow_length, Nat.add_mul, Nat.one_mul]
structure BoxOk (a : Box) : Prop where
  x0 : -2147483648 ≤ a.x0 ∧ a.x0 < 2147483648
  y0 : -2147483648 ≤ a.y0 ∧ a.y0 < 2147483648
  x1 : -2147483648 ≤ a.x1 ∧ a.x1 < 2147483648
  y1 : -2147483648 ≤ a.y1 ∧ a.y1 < 2147483648
theorem cell_bound {x : Int} (h : -2147483648 ≤ x ∧ x < 2147483648) : -512 ≤ Int.fdiv x 4194304 ∧ Int.fdiv x 4194304 ≤ 511 := by
  rw [Int.fdiv_eq_ediv_of_nonneg _ (by decide)]; omega
theorem cLo_bound {a : Box} (h : BoxOk a) : (-512 ≤ (cLo a).x ∧ (cLo a).x ≤ 511) ∧ -512 ≤ (cLo a).y ∧ (cLo a).y ≤ 511 := by
  unfold cLo spanLo cellX
  split
  · simp
  · exact ⟨cell_bound h.x0, cell_bound h.y0⟩
theorem cHi_bound {a : Box} (h : BoxOk a) : (-512 ≤ (cHi a).x ∧ (cHi a).x ≤ 511) ∧ -512 ≤ (cHi a).y ∧ (cHi a).y ≤ 511 := by
  unfold cHi spanHi cellX
  split
  · simp
  · exact ⟨cell_bound h.x1, cell_bound h.y1⟩
theorem cnx_le {a : Box} (h : BoxOk a) : cnx a ≤ 1024 := by have := cLo_bound h; have := cHi_bound h; unfold cnx; omega
theorem cny_le {a : Box} (h : BoxOk a) : cny a ≤ 1024 := by have := cLo_bound h; have := cHi_bound h; unfold cny; omega
theorem cellsOf_length {a : Box} (h : BoxOk a) : (cellsOf a).length ≤ 1048576 := by
  unfold cellsOf
  split
  · simp
  · rw [crows_length]
    calc cny a * cnx a ≤ 1024 * 1024 := Nat.mul_le_mul (cny_le h) (cnx_le h)
      _ = 1048576 := rfl
theorem Vec.cells_length (b : Vec) : b.cells.length = 2 := rfl
theorem crows_prefix (a : Box) : ∀ {j k : Nat}, j ≤ k → crows a j <+: crows a k
  | j, 0, h => by obtain rfl : j = 0 := by omega
                  exact List.prefix_refl _
  | j, k + 1, h => by
    rcases Nat.lt_or_ge j (k + 1) with h1 | h1
    · exact (crows_prefix a (by omega : j ≤ k)).trans ⟨_, rfl⟩
    · obtain rfl : j = k + 1 := by omega
      exact List.prefix_refl _
theorem crow_prefix (a : Box) (y : Int) {i k : Nat} (h : i ≤ k) : crow a y i <+: crow a y k := by
  unfold crow
  refine List.IsPrefix.map _ ?_
  refine ⟨List.range' i (k - i), ?_⟩
  have := List.range'_append_1 (s := 0) (m := i) (n := k - i)
  rw [List.range_eq_range', List.range_eq_range']
  rw [Nat.zero_add] at this
  rw [this]
  congr 1
  omega

/-- cell.Bucket -/
def bucket (c : Vec) : Nat := ((BitVec.ofInt 32 (u32 (u32 c.x * 73856093)) ^^^ BitVec.ofInt 32 (u32 (u32 c.y * 19349663))) &&& 1023#32).toNat
theorem bucket_lt (c : Vec) : bucket c < 1024 := by
  unfold bucket
  rw [BitVec.toNat_and]
  have h : (1023#32).toNat = 1023 := rfl
  rw [h]
  have := Nat.and_le_right (n := (BitVec.ofInt 32 (u32 (u32 c.x * 73856093)) ^^^ BitVec.ofInt 32 (u32 (u32 c.y * 19349663))).toNat) (m := 1023)
  omega
theorem bv_back (x : BitVec 32) : BitVec.ofInt 32 (IntKind.wrap .u32 (x.toNat : Int)) = x := by
  have e : IntKind.wrap .u32 (x.toNat : Int) = (x.toNat : Int) := u32_id (by omega) (by have := x.isLt; omega)
  rw [e]
  have : BitVec.ofInt 32 (x.toNat : Int) = BitVec.ofNat 32 x.toNat := by simp
  rw [this, BitVec.ofNat_toNat, BitVec.setWidth_eq]
theorem bucket_eq (c : Vec) : IntKind.wrap .i64 (IntKind.wrap .u32 ((BitVec.ofInt IntKind.u32.bits (IntKind.wrap .u32 ((BitVec.ofInt IntKind.u32.bits (IntKind.wrap .u32 (IntKind.wrap .u32 c.x * 73856093)) ^^^
    BitVec.ofInt IntKind.u32.bits (IntKind.wrap .u32 (IntKind.wrap .u32 c.y * 19349663))).toNat : Int)) &&& BitVec.ofInt IntKind.u32.bits 1023).toNat : Int)) = (bucket c : Int) := by
  have hb : IntKind.u32.bits = 32 := rfl
  have h1 : BitVec.ofInt 32 1023 = 1023#32 := rfl
  have hlt := bucket_lt c
  have e : (BitVec.ofInt 32 (IntKind.wrap .u32 ((BitVec.ofInt 32 (IntKind.wrap .u32 (IntKind.wrap .u32 c.x * 73856093)) ^^^
    BitVec.ofInt 32 (IntKind.wrap .u32 (IntKind.wrap .u32 c.y * 19349663))).toNat : Int)) &&& BitVec.ofInt 32 1023).toNat = bucket c := by rw [bv_back]; rfl
  show IntKind.wrap .i64 (IntKind.wrap .u32 ((BitVec.ofInt 32 (IntKind.wrap .u32 ((BitVec.ofInt 32 (IntKind.wrap .u32 (IntKind.wrap .u32 c.x * 73856093)) ^^^
    BitVec.ofInt 32 (IntKind.wrap .u32 (IntKind.wrap .u32 c.y * 19349663))).toNat : Int)) &&& BitVec.ofInt 32 1023).toNat : Int)) = (bucket c : Int)
  rw [e]
  have e2 : IntKind.wrap .u32 (bucket c : Int) = (bucket c : Int) := u32_id (by omega) (by omega)
  rw [e2]
  exact w64_id (by omega) (by omega)
end Go.Bil
namespace Go.Bil
open Go
/-! the grid -/
structure Buck where
  a : Option Addr
  cap : Nat
  l : List Int
def Buck.v (b : Buck) : Value := .slice b.a b.l.length b.cap
def gcells (g : List Buck) (cnt : Int) : List Value := g.map Buck.v ++ [.int .i64 cnt]
/-- the buckets' keys behind a body's cells -/
def insG (key : Int) (cs : List Vec) (bs : List (List Int)) : List (List Int) := mapI (fun n l => if n ∈ cs.map bucket then l ++ [key] else l) 0 bs
theorem mapI_get {α β : Type} (f : Nat → α → β) : ∀ (i : Nat) (l : List α) (j : Nat), (mapI f i l)[j]? = l[j]?.map (f (i + j))
  | _, [], j => by simp [mapI]
  | i, b :: l, 0 => by simp [mapI]
  | i, b :: l, j + 1 => by
    simp only [mapI, List.getElem?_cons_succ]
    rw [mapI_get f (i + 1) l j, show i + 1 + j = i + (j + 1) by omega]
theorem insG_nil (key : Int) (bs : List (List Int)) : insG key [] bs = bs := by
  apply List.ext_getElem?
  intro j
  rw [insG, mapI_get]
  cases bs[j]? <;> simp
theorem insG_old (key : Int) (cs : List Vec) (c : Vec) (bs : List (List Int)) (h : bucket c ∈ cs.map bucket) : insG key (cs ++ [c]) bs = insG key cs bs := by
  apply List.ext_getElem?
  intro j
  rw [insG, insG, mapI_get, mapI_get]
  congr 1
  funext l
  have : (0 + j ∈ (cs ++ [c]).map bucket) ↔ (0 + j ∈ cs.map bucket) := by
    rw [List.map_append, List.mem_append]
    constructor
    · rintro (h1 | h1)
      · exact h1
      · simp only [List.map_cons, List.map_nil, List.mem_singleton] at h1
        rw [h1]; exact h
    · exact Or.inl
  simp only [this]
theorem insG_new (key : Int) (cs : List Vec) (c : Vec) (bs : List (List Int)) (h : bucket c ∉ cs.map bucket) (l : List Int) (hl : (insG key cs bs)[bucket c]? = some l) : insG key (cs ++ [c]) bs = (insG key cs bs).set (bucket c) (l ++ [key]) := by
  have hlt : bucket c < (insG key cs bs).length := (List.getElem?_eq_some_iff.1 hl).1
  apply List.ext_getElem?
  intro j
  by_cases hj : bucket c = j
  · subst hj
    rw [List.getElem?_set_self hlt]
    rw [insG, mapI_get] at hl ⊢
    cases hb : bs[bucket c]? with
    | none => rw [hb] at hl; cases hl
    | some x =>
      rw [hb] at hl
      simp only [Option.map_some, Nat.zero_add, if_neg h, Option.some.injEq] at hl
      subst hl
      simp
  · rw [List.getElem?_set_ne hj, insG, insG, mapI_get, mapI_get]
    congr 1
    funext l
    have : (0 + j ∈ (cs ++ [c]).map bucket) ↔ (0 + j ∈ cs.map bucket) := by
      rw [List.map_append, List.mem_append]
      constructor
      · rintro (h1 | h1)
        · exact h1
        · simp only [List.map_cons, List.map_nil, List.mem_singleton] at h1
          omega
      · exact Or.inl
    simp only [this]
theorem insG_length (key : Int) (cs : List Vec) (bs : List (List Int)) : (insG key cs bs).length = bs.length := mapI_length _ _ _
theorem perm_eraseIdx {α : Type} : ∀ (l : List α) (n : Nat) (x : α), l[n]? = some x → l.Perm (x :: l.eraseIdx n)
  | [], n, x, h => by simp at h
  | y :: l, 0, x, h => by simp at h; subst h; exact List.Perm.refl _
  | y :: l, n + 1, x, h => by
    have := perm_eraseIdx l n x (by simpa using h)
    exact (this.cons y).trans (List.Perm.swap x y _)
theorem perm_set {α : Type} (l : List α) (n : Nat) (x : α) (h : n < l.length) : (l.set n x).Perm (x :: l.eraseIdx n) := by
  have := perm_eraseIdx (l.set n x) n x (List.getElem?_set_self h)
  have e : (l.set n x).eraseIdx n = l.eraseIdx n := by
    induction l generalizing n with
    | nil => rfl
    | cons y l ih =>
      cases n with
      | zero => rfl
      | succ n => simp only [List.set_cons_succ, List.eraseIdx_cons_succ]; rw [ih n (by simpa using h) (perm_eraseIdx (l.set n x) n x (List.getElem?_set_self (by simpa using h)))]
  rw [e] at this
  exact this
end Go.Bil
namespace Go.Bil
open Go
/-! the candidates -/
/-- the pairs of key a with earlier ones -/
def pairsWith (a : Int) (l : List Int) : List Pair := l.filterMap fun b => if a ≠ b then some (pairOf a b) else none
def pairsAt (l : List Int) (i : Nat) : List Pair := pairsWith (l.getD i 0) (l.take i)
/-- the pairs of a bucket up to index i -/
def pairsTo (l : List Int) (i : Nat) : List Pair := (List.range i).flatMap (pairsAt l)
def pairsIn (l : List Int) : List Pair := pairsTo l l.length
def pairsOf (bs : List (List Int)) : List Pair := bs.flatMap pairsIn
theorem pairsTo_succ (l : List Int) (i : Nat) : pairsTo l (i + 1) = pairsTo l i ++ pairsAt l i := by
  simp [pairsTo, List.range_succ]
theorem pairsWith_snoc (a : Int) (l : List Int) (b : Int) : pairsWith a (l ++ [b]) = pairsWith a l ++ (if a ≠ b then [pairOf a b] else []) := by
  unfold pairsWith
  rw [List.filterMap_append]
  by_cases h : a = b <;> simp [h]
def unitV : Value := .agg #[]
/-- the set of pairs, as the map's entries -/
def setP (ps : List Pair) : List (Pair × Value) := (ps.foldl (fun ks p => if p ∈ ks then ks else ks ++ [p]) []).map fun p => (p, unitV)
end Go.Bil

namespace Go.Ev
open Go Proofs Bil

abbrev cblk (b : Nat) (c : Vec) : Ent := .blk b (.cells c.cells.toArray 130 (0, 0))
theorem cells_f (a : Box) : SX GLS 86 #[a.v] [] (fun b : Nat × Nat × Nat => .func (.func 105) #[] #[ptr b.1, ptr b.2.1, ptr b.2.2])
    (fun b => [cblk b.1 (cLo a), cell1 b.2.1 (.bool (!boxEmpty a)) 4, cblk b.2.2 (cHi a)]) := by
  refine Spec.enter Tryz.func86 (by kernel_rfl) (by kernel_rfl) fun w _ _ => ?_
  refine V.new (fun _ => by kernel_rfl) fun b0 => ?_
  refine V.loads [0] (by kernel_rfl) ?_
  have hs : PF 104 #[a.v] (.tuple #[(cLo a).v, (cHi a).v, .bool (!boxEmpty a)]) := by
    have := span_f a
    unfold cLo cHi
    cases h : boxEmpty a with
    | true => rw [h] at this; exact this
    | false => rw [h] at this; exact this
  refine V.callp hs (by kernel_rfl) ?_
  refine V.new (fun _ => by kernel_rfl) fun b1 => ?_
  refine V.new (fun _ => by kernel_rfl) fun b2 => ?_
  refine V.new (fun _ => by kernel_rfl) fun b3 => ?_
  refine V.store 1 (by kernel_rfl) (by kernel_rfl) (by kernel_rfl) ?_
  refine V.store 2 (by kernel_rfl) (by kernel_rfl) (by kernel_rfl) ?_
  refine V.store 3 (by kernel_rfl) (by kernel_rfl) (by kernel_rfl) ?_
  exact V.rete (b1, b3, b2) _ [1, 3, 2] (by kernel_rfl) (by kernel_rfl) (by kernel_rfl) (by kernel_rfl) rfl trivial

/-- what the rounds of a loop hold: entries by what has come; each round appends -/
structure Rounds (P : Program) (l : Nat) (α : Type) (enc : α → Value) (xs : List α) (Z : Type) (E : List α → Z → List Ent) (c : Nat) : Prop where
  len : ∀ pre z, (E pre z).length = c
  yields : ∀ pre z x, pre ++ [x] <+: xs → YSpec P [] l #[enc x] (E pre z) (fun z' => E (pre ++ [x]) z')
theorem take_all {α : Type} {l : List α} {c : Nat} (h : l.length = c) : l.take c = l := List.take_of_length_le (by omega)
theorem drop_all {α : Type} {l : List α} {c : Nat} (h : l.length = c) : l.drop c = [] := List.drop_of_length_le (by omega)
theorem w32_add {a : Int} {k : Nat} (h0 : -512 ≤ a) (h1 : a ≤ 511) (hk : k ≤ 1024) : IntKind.wrap .i32 (a + (k : Int) + 1) = a + ((k + 1 : Nat) : Int) := by
  have e : a + (k : Int) + 1 = a + ((k + 1 : Nat) : Int) := by omega
  rw [e]
  exact w32_id (by omega) (by omega)
theorem cells1_f (a : Box) (ha : BoxOk a) (l b1 b2 b3 : Nat) {Z : Type} {E : List Vec → Z → List Ent} {c : Nat} (hr : Rounds Tryz.prog l Vec Vec.v (cellsOf a) Z E c) (z0 : Z) :
    SX [cblk b1 (cLo a), cell1 b2 (.bool (!boxEmpty a)) 4, cblk b3 (cHi a)] 105 #[.func (.yield l) #[] #[], ptr b1, ptr b2, ptr b3] (E [] z0) (fun _ : Z => .tuple #[]) (fun z => E (cellsOf a) z) := by
  refine Spec.enter Tryz.func105 (by kernel_rfl) (by kernel_rfl) fun w _ _ => ?_
  refine V.loads [1000] (by kernel_rfl) ?_
  have hlo := cLo_bound ha
  have hhi := cHi_bound ha
  refine V.loop [0, 1, 2, 3, 5] (fun x : Nat × Z => [.func (.yield l) #[] #[], ptr b1, ptr b2, ptr b3, .int .i32 ((cLo a).y + (x.1 : Int))]) (fun x => E (crows a x.1) x.2) (fun x => x.1 ≤ cny a ∧ (boxEmpty a = true → x.1 = 0)) (fun x => cny a - x.1) (0, z0)
    (by kernel_rfl) ?_ (by kernel_rfl) ⟨Nat.zero_le _, fun _ => rfl⟩ ?_
  · refine (show _ = [.func (.yield l) #[] #[], ptr b1, ptr b2, ptr b3, .int .i32 (cLo a).y] by kernel_rfl).trans ?_
    rw [show (cLo a).y + ((0 : Nat) : Int) = (cLo a).y by omega]
  rintro F ⟨j, z⟩ ⟨hj, hj0⟩ again
  have hj : j ≤ cny a := hj
  refine V.loads [1001] (by kernel_rfl) ?_
  rcases (by cases boxEmpty a <;> simp : boxEmpty a = true ∨ boxEmpty a = false) with he | he
  · have e : cellsOf a = [] := by unfold cellsOf; rw [if_pos he]
    obtain rfl : j = 0 := hj0 he
    refine V.grdb 10 (!boxEmpty a) false (by kernel_rfl) (by rw [he]; rfl) ?_
    refine V.ifb false false (by kernel_rfl) rfl ?_
    exact V.retx z (.tuple #[]) (by kernel_rfl) (by kernel_rfl) rfl trivial (fun w h => by rw [e]; exact h)
  · have e : cellsOf a = crows a (cny a) := by unfold cellsOf; rw [if_neg (by rw [he]; decide)]
    refine V.grdb 10 (!boxEmpty a) true (by kernel_rfl) (by rw [he]; rfl) ?_
    refine V.loads [1002] (by kernel_rfl) ?_
    refine V.ite (decide ((cLo a).y + (j : Int) ≤ (cHi a).y)) (by kernel_rfl) (fun h => ?_) (fun h => ?_)
    · have h := of_decide_eq_true h
      have hjl : j < cny a := by unfold cny; omega
      refine V.loads [1000] (by kernel_rfl) ?_
      refine V.loop [0, 1, 2, 3, 5, 6] (fun x : Nat × Z => [.func (.yield l) #[] #[], ptr b1, ptr b2, ptr b3, .int .i32 ((cLo a).y + (j : Int)), .int .i32 ((cLo a).x + (x.1 : Int))]) (fun x => E (crows a j ++ crow a ((cLo a).y + (j : Int)) x.1) x.2) (fun x => x.1 ≤ cnx a) (fun x => cnx a - x.1) (0, z)
        (by kernel_rfl) ?_ (by simp [crow]) (Nat.zero_le _) ?_
      · refine (show _ = [.func (.yield l) #[] #[], ptr b1, ptr b2, ptr b3, .int .i32 ((cLo a).y + (j : Int)), .int .i32 (cLo a).x] by kernel_rfl).trans ?_
        rw [show (cLo a).x + ((0 : Nat) : Int) = (cLo a).x by omega]
      rintro F ⟨i, z⟩ hi again2
      have hi : i ≤ cnx a := hi
      refine V.loads [1002] (by kernel_rfl) ?_
      refine V.ite (decide ((cLo a).x + (i : Int) ≤ (cHi a).x)) (by kernel_rfl) (fun h2 => ?_) (fun h2 => ?_)
      · have h2 := of_decide_eq_true h2
        have hil : i < cnx a := by unfold cnx; omega
        have hp : crows a j ++ crow a ((cLo a).y + (j : Int)) i ++ [⟨(cLo a).x + (i : Int), (cLo a).y + (j : Int)⟩] <+: cellsOf a := by
          rw [e, List.append_assoc, ← crow_succ]
          refine List.IsPrefix.trans ?_ (crows_prefix a (show j + 1 ≤ cny a by omega))
          rw [crows]
          exact List.prefix_append_right_inj _ |>.2 (crow_prefix a _ (by omega))
        refine V.yield [] c (hr.yields _ z ⟨(cLo a).x + (i : Int), (cLo a).y + (j : Int)⟩ hp) (take_all (hr.len _ _)) (by kernel_rfl) (by kernel_rfl) (by kernel_rfl) (by kernel_rfl) fun z' => ?_
        refine V.conv (L' := E (crows a j ++ crow a ((cLo a).y + (j : Int)) (i + 1)) z') (by rw [drop_all (hr.len _ _), List.append_nil, List.append_assoc, ← crow_succ]) rfl ?_
        refine V.ifb false false (by kernel_rfl) rfl ?_
        refine V.norm 6 (.int .i32 (IntKind.wrap .i32 ((cLo a).x + (i : Int) + 1))) (.int .i32 ((cLo a).x + ((i + 1 : Nat) : Int))) (by kernel_rfl) (vInt (w32_add hlo.1.1 hlo.1.2 (by have := cnx_le ha; omega))) ?_
        exact again2 (i + 1, z') _ (show i + 1 ≤ cnx a by omega) (show cnx a - (i + 1) < cnx a - i by omega) (by kernel_rfl) (by kernel_rfl)
      · have h2 := of_decide_eq_false h2
        have : i = cnx a := by unfold cnx at *; omega
        subst this
        refine V.norm 5 (.int .i32 (IntKind.wrap .i32 ((cLo a).y + (j : Int) + 1))) (.int .i32 ((cLo a).y + ((j + 1 : Nat) : Int))) (by kernel_rfl) (vInt (w32_add hlo.2.1 hlo.2.2 (by have := cny_le ha; omega))) ?_
        refine V.conv (L' := E (crows a (j + 1)) z) rfl rfl ?_
        exact again (j + 1, z) _ ⟨(show j + 1 ≤ cny a by omega), fun h => by rw [he] at h; cases h⟩ (show cny a - (j + 1) < cny a - j by omega) (by kernel_rfl) (by kernel_rfl)
    · have h := of_decide_eq_false h
      have : j = cny a := by unfold cny at *; omega
      subst this
      exact V.retx z (.tuple #[]) (by kernel_rfl) (by kernel_rfl) rfl trivial (fun w h => by rw [e]; exact h)

abbrev rowV (a : Option Addr) (cap : Nat) (cs : List Vec) : Ent := .row (.slice a cs.length cap) 130 2 cs.length (flat Vec.cells cs)
theorem cellAll_f (a : Box) (ha : BoxOk a) : SX GLS 63 #[a.v] [] (fun x : Option Addr × Nat => .slice x.1 (cellsOf a).length x.2) (fun x => [rowV x.1 x.2 (cellsOf a)]) := by
  refine Spec.enter Tryz.func63 (by kernel_rfl) (by kernel_rfl) fun w _ _ => ?_
  refine V.new (fun _ => by kernel_rfl) fun b1 => ?_
  refine V.new (fun _ => by kernel_rfl) fun b3 => ?_
  refine V.loads [0] (by kernel_rfl) ?_
  refine V.call0 [1000, 1001] (cells_f a) (by kernel_rfl) (by kernel_rfl) (by kernel_rfl) (fun _ _ => trivial) fun bb _ => ?_
  obtain ⟨bl, bo, bh⟩ := bb
  refine V.nilrow 130 2 ?_
  refine V.rangeFunc 105 (fun l => #[.func (.yield l) #[] #[], ptr bl, ptr bo, ptr bh]) [7, 1, 5, 2, 3, 4, 6] 3
    (fun D l r => [.blk l (.loop r), cell1 b3 (.slice none 0 0) 128, rowV none 0 [], cblk bl (cLo a), cell1 bo (.bool (!boxEmpty a)) 4, cblk bh (cHi a), .blk D (.deferred (some []))])
    (by kernel_rfl) (by kernel_rfl) (fun _ => by kernel_rfl) (by kernel_rfl) (fun _ _ _ => by kernel_rfl) fun D l r hr hrel => ?_
  refine ⟨Option Addr × Nat, _, _, _, _, [3, 4, 5], cells1_f a ha l bl bo bh (Z := Option Addr × Nat) (E := fun pre z => [.blk l (.loop r), cell1 b3 (.slice z.1 pre.length z.2) 128, rowV z.1 z.2 pre]) (c := 3) ⟨fun _ _ => rfl, fun pre z x hp => ?_⟩ (none, 0), by kernel_rfl, by kernel_rfl, by kernel_rfl, fun y _ => ⟨rfl, ?_⟩⟩
  · have hlen : pre.length + 1 ≤ 1048576 := by
      have := hp.length_le
      have := cellsOf_length ha
      simp at *
      omega
    refine YSpec.of_VR hr Tryz.f63 7 x.v rfl (by kernel_rfl) (by decide) hrel fun w1 => ?_
    refine VR.new (fun _ => by kernel_rfl) fun b4 => ?_
    refine VR.store 3 (by kernel_rfl) (by kernel_rfl) (by kernel_rfl) ?_
    refine VR.begin 0 (r := r) (by kernel_rfl) (by kernel_rfl) hr.state ?_
    refine VR.loads [1, 3] (by kernel_rfl) ?_
    refine VR.new (fun _ => by kernel_rfl) fun b5 => ?_
    refine VR.append 2 4 8 (t := 128) (e := 130) (size := 2) (n := pre.length) (m := 1) (b := b5) (c := 1) (T := 130) (v := .slice z.1 pre.length z.2) (xs := flat Vec.cells pre) (cs := x.cells.toArray) (by kernel_rfl) (by kernel_rfl) (by kernel_rfl) (by kernel_rfl) (by kernel_rfl) (by kernel_rfl) (by unfold maxLen; omega) (by omega) fun a' cap' => ?_
    refine VR.store 1 (by kernel_rfl) (by kernel_rfl) (by kernel_rfl) ?_
    refine VR.done 0 (r := { r with state := .busy }) (by kernel_rfl) (by kernel_rfl) (rec_back hr) fun w2 h2 => ⟨(a', cap'), rfl, ?_⟩
    have e : [.blk l (.loop r), cell1 b3 (.slice a' (pre.length + 1) cap') 128, .row (.slice a' (pre.length + 1) cap') 130 2 (pre.length + 1) (flat Vec.cells pre ++ x.cells)] =
        [.blk l (.loop r), cell1 b3 (.slice a' (pre ++ [x]).length cap') 128, rowV a' cap' (pre ++ [x])] := by simp [flat_append, flat, rowV]
    exact e ▸ h2.picked [0, 1, 2] (by kernel_rfl) (by kernel_rfl)
  · refine VM.loads [1] (by kernel_rfl) ?_
    exact VM.ret 6 (.slice y.1 (cellsOf a).length y.2) (by kernel_rfl) (by kernel_rfl) (by kernel_rfl) fun w2 h2 => ⟨y, rfl, trivial, h2.picked [2] (by kernel_rfl) (by kernel_rfl)⟩
end Go.Ev

namespace Go.Ev
open Go Proofs Bil
theorem bucket_f (c : Vec) : PF 64 #[c.v] (.int .i64 (bucket c : Int)) := by
  refine PureFn.enter Tryz.func64 (by kernel_rfl) (by kernel_rfl) fun w => ?_
  refine V.new (fun _ => by kernel_rfl) fun b0 => ?_
  refine V.loads [0, 1001, 0, 1001] (by kernel_rfl) ?_
  refine V.retp (.int .i64 (IntKind.wrap .i64 (IntKind.wrap .u32 ((BitVec.ofInt IntKind.u32.bits (IntKind.wrap .u32 ((BitVec.ofInt IntKind.u32.bits (IntKind.wrap .u32 (IntKind.wrap .u32 c.x * 73856093)) ^^^
    BitVec.ofInt IntKind.u32.bits (IntKind.wrap .u32 (IntKind.wrap .u32 c.y * 19349663))).toNat : Int)) &&& BitVec.ofInt IntKind.u32.bits 1023).toNat : Int)))) (by kernel_rfl) (by kernel_rfl) (vInt (bucket_eq c))
end Go.Ev
