/- Shown here: A framework for walks over the loaded program: straight-line code is run by the kernel on a frame that is a function; what is left to say are the events (calls, memory, branches, loops). Conditions: none beyond those in each theorem. -/
import Derived.Calls
import Derived.Orders
import Derived.OrdersHeld
import Derived.Laws.AppendOwn
import Derived.KernelRfl
import Derived.RangeFuncRecord
namespace Go.Ev
open Go

abbrev Fr := Nat → Value
def upd (F : Fr) (d : Nat) (v : Value) : Fr := fun i => bif Nat.beq i d then v else F i
def evl (F : Fr) : Operand → Value
  | .tmp t => F t
  | .const v => v
  | .global g => .pointer (some ⟨g, 0, none⟩)
  | .func f => .func (.func f) #[] #[]

structure Rel (n : Nat) (F : Fr) (ds : List Deferred) (a : Act) : Prop where
  size : a.tmps.size = n
  val : ∀ i, a.tmps.getD i undef = F i
  defs : a.defers = ds

variable {n : Nat} {F : Fr} {ds : List Deferred} {a : Act}

theorem Rel.eval (h : Rel n F ds a) : a.eval = evl F := by
  funext x
  cases x with
  | tmp t => exact h.val t
  | _ => rfl

theorem Rel.put (h : Rel n F ds a) {d : Nat} (hd : d < n) (v : Value) : Rel n (upd F d v) ds (a.put (some d) v) := by
  refine ⟨by simp [Act.put, h.size], fun i => ?_, h.defs⟩
  simp only [Act.put, upd]
  by_cases hi : i = d
  · subst hi
    have : i < a.tmps.size := by rw [h.size]; exact hd
    simp [this]
  · have hb : Nat.beq i d = false := by
      cases h : Nat.beq i d with
      | false => rfl
      | true => exact absurd (Nat.eq_of_beq_eq_true h) hi
    rw [hb, ← h.val i]
    simp only [Array.getD_eq_getD_getElem?, cond_false]
    rw [Array.getElem?_setIfInBounds_ne (Ne.symm hi)]

def putOk (n : Nat) : Option Nat → Bool
  | some d => Nat.blt d n
  | none => true
def updo (F : Fr) : Option Nat → Value → Fr
  | some d, v => upd F d v
  | none, _ => F
theorem Rel.puto (h : Rel n F ds a) {d : Option Nat} (hd : putOk n d = true) (v : Value) : Rel n (updo F d v) ds (a.put d v) := by
  cases d with
  | none => exact h
  | some d => exact h.put (Nat.le_of_ble_eq_true hd) v

def dstOf (ops : Array Oper) (j : Nat) : Option Nat := (ops[j]?).bind (·.dst)
def asB : Value → Option Bool
  | .bool b => some b
  | _ => none
def yF (ops : Array Oper) (F : Fr) (j : Nat) : Option Bool := (dstOf ops j).bind fun t => asB (F t)
theorem Rel.yielded (h : Rel n F ds a) (ops : Array Oper) : yielded ops a.tmps = yF ops F := by
  funext j
  unfold Go.yielded yF dstOf
  cases (ops[j]?).bind (·.dst) with
  | none => rfl
  | some t =>
    simp only [Option.bind_some]
    have hv := h.val t
    rw [Array.getD_eq_getD_getElem?] at hv
    rw [← hv]
    cases a.tmps[t]? with
    | none => rfl
    | some v => cases v <;> rfl

def wantF (ops : Array Oper) (F : Fr) (o : Oper) : Bool := Region.wanted o (yF ops F)
theorem Rel.wanted (h : Rel n F ds a) (ops : Array Oper) (o : Oper) : Region.wanted o (Go.yielded ops a.tmps) = wantF ops F o := by rw [h.yielded]; rfl

/-! ### the machine -/
def MW (P : Program) (Q : Exit → Act → World → Prop) (k : List Item) (a : Act) (w : World) : Prop :=
  ∀ b cs, ∃ e a' w', Q e a' w' ∧ Arrives P (lone (b.at a k) cs w) b [] cs e a' w'

def contQ (P : Program) (Q : Exit → Act → World → Prop) (k : List Item) : Exit → Act → World → Prop
  | .normal, a, w => MW P Q k a w
  | .panic c, a, w => Q (.panic c) a w
  | .outgrown, a, w => Q .outgrown a w
  | _, _, _ => False

abbrev Wk (P : Program) (Q : Exit → Act → World → Prop) : List Item → Act → World → Prop := MW P Q

variable {P : Program} {Q : Exit → Act → World → Prop} {w : World}

theorem Arrives.nil {m : Machine} {b : Frame} {k : List Item} {cs : List Frame} {e : Exit} {a : Act} {w : World}
    (h : Arrives P m b k cs e a w) (he : (∃ c, e = .panic c) ∨ e = .outgrown) : Arrives P m b [] cs e a w := by
  rcases he with ⟨c, rfl⟩ | rfl
  · exact h
  · exact h

theorem MW.steps {k k' : List Item} {a a' : Act} {w w' : World} (h : ∀ (b : Frame) (cs : List Frame), Steps P (lone (b.at a k) cs w) (lone (b.at a' k') cs w')) (hw : MW P Q k' a' w') : MW P Q k a w := by
  intro b cs
  obtain ⟨e, a₂, w₂, hq, harr⟩ := hw b cs
  exact ⟨e, a₂, w₂, hq, .of_steps (h b cs) harr⟩

theorem MW.of_cont {m : Machine} {b : Frame} {k : List Item} {cs : List Frame} {e : Exit} {a' : Act} {w' : World}
    (hq : contQ P Q k e a' w') (harr : Arrives P m b k cs e a' w') : ∃ e a' w', Q e a' w' ∧ Arrives P m b [] cs e a' w' := by
  cases e with
  | normal =>
    obtain ⟨e, a₂, w₂, hq₂, harr₂⟩ := hq b cs
    exact ⟨e, a₂, w₂, hq₂, .of_steps harr harr₂⟩
  | panic c => exact ⟨_, _, _, hq, Ev.Arrives.nil harr (.inl ⟨c, rfl⟩)⟩
  | outgrown => exact ⟨_, a', w', hq, Ev.Arrives.nil harr (.inr rfl)⟩
  | exit id => exact hq.elim
  | goto l => exact hq.elim
  | ret => exact hq.elim

theorem MW.of_wp {c : Code} {k : List Item} (h : c.wp P (contQ P Q k) a w) : MW P Q (.code c :: k) a w := by
  intro b cs
  obtain ⟨e, a', w', hq, harr⟩ := h b k cs
  exact MW.of_cont hq harr

theorem Wk.mw {k : List Item} {a : Act} {w : World} (h : Wk P Q k a w) : MW P Q k a w := h

/-! ### one operation of a region -/
section ops
variable {ops : Array Oper} {i : Nat} {rest : List Nat} {o : Oper} {k : List Item} {b : Frame} {cs : List Frame} {w' : World} {v : Value}
theorem fin_at (ho : ops[i]? = some o) (v : Value) : (b.at a (.inRegion ops (i :: rest) :: k)).finish v = b.at (a.put o.dst v) (.inRegion ops rest :: k) := by rw [Frame.finish_at, ho]; rfl
theorem step_value (ho : ops[i]? = some o) (hw : Region.wanted o (Go.yielded ops a.tmps) = true) (hr : (execOp a.eval o).run P w = .ok (.value v) w') :
    step P (lone (b.at a (.inRegion ops (i :: rest) :: k)) cs w) = .next (lone (b.at (a.put o.dst v) (.inRegion ops rest :: k)) cs w') :=
  step_lone_go (by rw [stepG_op ho hw, ← fin_at ho]; simp [stepG.apply, hr])
theorem step_skipped (ho : ops[i]? = some o) (hw : Region.wanted o (Go.yielded ops a.tmps) = true) (hr : (execOp a.eval o).run P w = .ok .skip w') :
    step P (lone (b.at a (.inRegion ops (i :: rest) :: k)) cs w) = .next (lone (b.at (a.put o.dst undef) (.inRegion ops rest :: k)) cs w') :=
  step_lone_go (by rw [stepG_op ho hw, ← fin_at ho]; simp [stepG.apply, hr])
theorem step_unwanted (ho : ops[i]? = some o) (hw : Region.wanted o (Go.yielded ops a.tmps) = false) :
    step P (lone (b.at a (.inRegion ops (i :: rest) :: k)) cs w) = .next (lone (b.at (a.put o.dst undef) (.inRegion ops rest :: k)) cs w) := by
  have h := step_op_skip (P := P) (b := b) (a := a) (k := k) (cs := cs) (w := w) (ops := ops) (i := i) (rest := rest) (by simp [ho, hw])
  simpa [ho] using h
theorem steps_enter {g : FuncId} {args : Array Value} {R' : Ending → World → Prop} (ho : ops[i]? = some o) (hw : Region.wanted o (Go.yielded ops a.tmps) = true) (hr : (execOp a.eval o).run P w = .ok (.enter g args) w')
    (hc : Calls P g args w' R') (k0 : ∀ e w'', R' e w'' → ∃ v, e = .returned v) (b : Frame) (cs : List Frame) :
    ∃ v w'', R' (.returned v) w'' ∧ Steps P (lone (b.at a (.inRegion ops (i :: rest) :: k)) cs w) (lone (b.at (a.put o.dst v) (.inRegion ops rest :: k)) cs w'') := by
  obtain ⟨e, w'', fr, hR, hsteps, _, hleave⟩ := hc (b.at a (.inRegion ops (i :: rest) :: k) :: cs)
  have henter : step P (lone (b.at a (.inRegion ops (i :: rest) :: k)) cs w) =
      .next (lone (Frame.enter P g args .normal) (b.at a (.inRegion ops (i :: rest) :: k) :: cs) w') :=
    step_lone_go (by rw [stepG_op ho hw]; simp [stepG.apply, hr, Frame.at])
  obtain ⟨v, rfl⟩ := k0 e w'' hR
  refine ⟨v, w'', hR, .head henter (hsteps.trans (.one ?_))⟩
  rw [← fin_at ho]; exact step_leave_returned hleave
/-- a round of a range over a function: it hands back a value -/
def RoundC (P : Program) (l : Nat) (f : FuncId) (tmps : Array Value) (assign body : Code) (w : World) (R : Ending → World → Prop) : Prop :=
  ∀ c cs, ∃ v w', R (.returned v) w' ∧ Steps P (lone (Frame.round l f tmps assign body .normal) (c :: cs) w) (lone (c.finish v) cs w')
theorem steps_round {l : Nat} {f : FuncId} {tmps : Array Value} {assign body : Code} {R' : Ending → World → Prop} (ho : ops[i]? = some o) (hw : Region.wanted o (Go.yielded ops a.tmps) = true)
    (hr : (execOp a.eval o).run P w = .ok (.round l f tmps assign body) w') (hc : RoundC P l f tmps assign body w' R') (b : Frame) (cs : List Frame) :
    ∃ v w'', R' (.returned v) w'' ∧ Steps P (lone (b.at a (.inRegion ops (i :: rest) :: k)) cs w) (lone (b.at (a.put o.dst v) (.inRegion ops rest :: k)) cs w'') := by
  obtain ⟨v, w'', hR, hsteps⟩ := hc (b.at a (.inRegion ops (i :: rest) :: k)) cs
  have henter : step P (lone (b.at a (.inRegion ops (i :: rest) :: k)) cs w) =
      .next (lone (Frame.round l f tmps assign body .normal) (b.at a (.inRegion ops (i :: rest) :: k) :: cs) w') :=
    step_lone_go (by rw [stepG_op ho hw]; simp [stepG.apply, hr, Frame.at])
  refine ⟨v, w'', hR, .head henter ?_⟩
  rw [← fin_at ho]; exact hsteps
end ops
theorem MW.of_steps {k k' : List Item} {a' : Act} {w' : World} {b : Frame} {cs : List Frame} (hs : Steps P (lone (b.at a k) cs w) (lone (b.at a' k') cs w')) (h : MW P Q k' a' w') :
    ∃ e a' w', Q e a' w' ∧ Arrives P (lone (b.at a k) cs w) b [] cs e a' w' := by
  obtain ⟨e, a₂, w₂, hq, harr⟩ := h b cs
  exact ⟨e, a₂, w₂, hq, .of_steps hs harr⟩

/-- what a body must achieve: as bodyPost, or with one mark of a range over a function among the deferred calls -/
def bPost (P : Program) (fn : Func) (R : Ending → World → Prop) : Exit → Act → World → Prop
  | .normal, a, w | .ret, a, w =>
    (a.defers = [] ∧ ∃ v, (results fn a.tmps).run P w = .ok v w ∧ R (.returned v) w) ∨
    (∃ D, a.defers = [{ target := .collected D, args := #[] }] ∧ w.heap[D]? = some (.deferred (some [])) ∧
      ∃ v, (results fn a.tmps).run P (w.putObj D (.deferred none)) = .ok v (w.putObj D (.deferred none)) ∧ R (.returned v) (w.putObj D (.deferred none)))
  | .panic chain, a, w => a.defers = [] ∧ R (.panicked chain) w
  | .outgrown, _, w => R .outgrown w
  | _, _, _ => False

/-! ### states: what is to be done, the frame, the slots of guards that are decided -/
structure St where
  todo : List Item
  F : Fr
  G : List Nat
  fl : Nat
def lenI : List Item → Nat
  | [] => 0
  | _ :: k => (lenI k).succ

def W (P : Program) (Q : Exit → Act → World → Prop) (n : Nat) (ds : List Deferred) (S : St) (w : World) : Prop :=
  ∀ a, Rel n S.F ds a → Wk P Q S.todo a w

def memN (i : Nat) : List Nat → Bool
  | [] => false
  | x :: l => bif Nat.beq i x then true else memN i l

/-- what comes of a computation that asks the program alone -/
def pureVal {α : Type} (p : Program) : Sem α → Option α
  | .pure a => some a
  | .program k => pureVal p (k p)
  | .mark _ k => pureVal p k
  | _ => none
theorem pureVal_run {α : Type} {p : Program} {s : Sem α} : ∀ {x : α}, pureVal p s = some x → ∀ w, s.run p w = .ok x w := by
  induction s with
  | pure a => intro x h w; simp only [pureVal, Option.some.injEq] at h; subst h; rfl
  | program k ih => intro x h w; exact ih p (x := x) h w
  | mark m k ih => intro x h w; exact ih (x := x) h w
  | _ => intro x h; cases h

def pureNext (p : Program) (s : Sem Next) : Option Value :=
  match pureVal p s with
  | some (.value v) => some v
  | _ => none
theorem pureNext_run {p : Program} {s : Sem Next} {v : Value} (h : pureNext p s = some v) (w : World) : s.run p w = .ok (.value v) w := by
  unfold pureNext at h
  split at h
  · rename_i u hu
    cases h
    exact pureVal_run hu w
  · cases h

def isConstOp : Operand → Bool
  | .const _ => true
  | _ => false
def isInt : Value → Bool
  | .int .. => true
  | _ => false
def isBoolV : Value → Bool
  | .bool _ => true
  | _ => false
def isPtr : Value → Bool
  | .pointer (some _) => true
  | _ => false
def isArg1 : Value → Bool
  | .slice .. => true
  | .string _ => true
  | .int .. => true
  | _ => false
/-- the operations that are carried out without a word -/
def autoOp (F : Fr) (op : Op) : Bool :=
  match op with
  | .move _ | .assign _ | .extract _ _ | .pick .. | .unOp .. | .build .. | .makeFunc .. => true
  | .convert _ _ x => isInt (evl F x)
  | .fieldAddr _ x _ => isPtr (evl F x)
  | .nilCheck x => match evl F x with
    | .pointer (some _) => true
    | .func (.func _) _ _ => true
    | _ => false
  | .binOp op _ x y _ => match op with
    | .quo | .rem | .shl | .shr => isConstOp y
    | _ => bif isInt (evl F x) then isInt (evl F y) else bif isBoolV (evl F x) then isBoolV (evl F y) else false
  | .indexAddr _ x i => bif isConstOp i then isPtr (evl F x) else false
  | .call c => match c.callee with
    | .builtin b => match b with
      | .len | .cap | .min | .max => isArg1 (evl F (c.args.getD 0 (.const .nilFunc)))
      | _ => false
    | _ => false
  | _ => false

/-- one operation that asks nothing of memory -/
def opOut (P : Program) (n : Nat) (ops : Array Oper) (F : Fr) (G : List Nat) (o : Oper) : Option Value :=
  bif putOk n o.dst then
    match o.guard with
    | none => bif autoOp F o.op then pureNext P (execOp (evl F) o) else none
    | some (j, _) => match dstOf ops j with
      | none => none
      | some t => bif memN t G then
          bif wantF ops F o then
            bif autoOp F o.op then pureNext P (execOp (evl F) o) else none
          else some undef
        else none
  else none
def stCode (c : Code) (k : List Item) : Option (List Item) :=
  match c with
  | .skip => some k
  | .label _ => some k
  | .seq a b => some (.code a :: .code b :: k)
  | .block id body => some (.code body :: .inBlock id :: k)
  | .exit id => exitTo id k
  | .region _ ops draw => bif draw then none else some (.inRegion ops (List.range ops.size) :: k)
  | _ => none
/-- one step of the machine that asks nothing of memory; none: stop here -/
def st1 (P : Program) (n : Nat) (S : St) : Option St :=
  bif Nat.ble (lenI S.todo) S.fl then none else
  match S.todo with
  | [] => none
  | x :: k => match x with
    | .code c => match stCode c k with
      | some k' => some ⟨k', S.F, S.G, S.fl⟩
      | none => none
    | .inBlock _ => some ⟨k, S.F, S.G, S.fl⟩
    | .inRegion ops l => match l with
      | [] => some ⟨k, S.F, S.G, S.fl⟩
      | i :: is => match ops[i]? with
        | none => none
        | some o => match opOut P n ops S.F S.G o with
          | some v => some ⟨.inRegion ops is :: k, updo S.F o.dst v, S.G, S.fl⟩
          | none => none
    | _ => none

theorem wk_value {ops : Array Oper} {i : Nat} {is : List Nat} {k : List Item} {o : Oper} {v : Value} {w' : World} (ho : ops[i]? = some o) (hr : Rel n F ds a)
    (hw : wantF ops F o = true) (hv : (execOp (evl F) o).run P w = .ok (.value v) w') (h : Wk P Q (.inRegion ops is :: k) (a.put o.dst v) w') :
    Wk P Q (.inRegion ops (i :: is) :: k) a w := by
  exact MW.steps (fun b cs => .one (step_value ho (by rw [hr.wanted, hw]) (by rw [hr.eval]; exact hv))) h
theorem wk_skip {ops : Array Oper} {i : Nat} {is : List Nat} {k : List Item} {o : Oper} (ho : ops[i]? = some o) (hr : Rel n F ds a)
    (hw : wantF ops F o = false) (h : Wk P Q (.inRegion ops is :: k) (a.put o.dst undef) w) : Wk P Q (.inRegion ops (i :: is) :: k) a w := by
  exact MW.steps (fun b cs => .one (step_unwanted ho (by rw [hr.wanted, hw]))) h
theorem wantF_noguard {ops : Array Oper} {o : Oper} (h : o.guard = none) : wantF ops F o = true := by unfold wantF Region.wanted; rw [h]

theorem opOut_spec {ops : Array Oper} {G : List Nat} {o : Oper} {v : Value} (h : opOut P n ops F G o = some v) :
    putOk n o.dst = true ∧ ((wantF ops F o = true ∧ ∀ w, (execOp (evl F) o).run P w = .ok (.value v) w) ∨ (wantF ops F o = false ∧ v = undef)) := by
  unfold opOut at h
  cases hp : putOk n o.dst with
  | false => rw [hp] at h; cases h
  | true =>
    rw [hp] at h
    simp only [cond_true] at h
    refine ⟨rfl, ?_⟩
    cases hg : o.guard with
    | none =>
      rw [hg] at h
      simp only at h
      cases hau : autoOp F o.op with
      | false => rw [hau] at h; cases h
      | true => rw [hau] at h; exact .inl ⟨wantF_noguard hg, pureNext_run h⟩
    | some g =>
      obtain ⟨j, want⟩ := g
      rw [hg] at h
      simp only at h
      cases ht : dstOf ops j with
      | none => rw [ht] at h; cases h
      | some t =>
        rw [ht] at h
        simp only at h
        cases hm : memN t G with
        | false => rw [hm] at h; cases h
        | true =>
          rw [hm] at h
          simp only [cond_true] at h
          cases hwn : wantF ops F o with
          | false => rw [hwn] at h; cases h; exact .inr ⟨rfl, rfl⟩
          | true =>
            rw [hwn] at h
            simp only [cond_true] at h
            cases hau : autoOp F o.op with
            | false => rw [hau] at h; cases h
            | true => rw [hau] at h; exact .inl ⟨rfl, pureNext_run h⟩

theorem stCode_spec {c : Code} {k k' : List Item} (h : stCode c k = some k') (b : Frame) (cs : List Frame) :
    Steps P (lone (b.at a (.code c :: k)) cs w) (lone (b.at a k') cs w) := by
  cases c with
  | skip => cases h; exact .one step_skip
  | label l => cases h; exact .one step_label
  | seq x y => cases h; exact .one step_seq
  | block id body => cases h; exact .one step_block
  | exit id => exact .one (step_exit h)
  | region id ops draw =>
    cases draw with
    | true => cases h
    | false => cases h; exact .one step_region
  | cond c x y => cases h
  | loop c => cases h
  | rangeFunc f p x y => cases h
  | scope c => cases h
  | goto l => cases h
  | ret => cases h
  | refuse s => cases h

theorem W.st1 {S S' : St} (h : st1 P n S = some S') (hw : W P Q n ds S' w) : W P Q n ds S w := by
  intro a ha
  obtain ⟨todo, F, G, fl⟩ := S
  unfold Ev.st1 at h
  cases hfl : Nat.ble (lenI todo) fl with
  | true => simp only [hfl, cond_true] at h; cases h
  | false =>
  simp only [hfl, cond_false] at h
  cases todo with
  | nil => cases h
  | cons x k =>
    cases x with
    | code c =>
      simp only at h
      cases hc : stCode c k with
      | none => rw [hc] at h; cases h
      | some k' =>
        rw [hc] at h
        cases h
        exact MW.steps (fun b cs => stCode_spec hc b cs) (hw a ha).mw
    | inBlock id => cases h; exact MW.steps (fun b cs => .one step_inBlock) (hw a ha).mw
    | inRegion ops l =>
      cases l with
      | nil =>
        cases h
        exact MW.steps (fun b cs => .one step_region_end) (hw a ha)
      | cons i is =>
        simp only at h
        cases ho : ops[i]? with
        | none => rw [ho] at h; cases h
        | some o =>
          rw [ho] at h
          simp only at h
          cases hv : opOut P n ops F G o with
          | none => rw [hv] at h; cases h
          | some v =>
            rw [hv] at h
            cases h
            obtain ⟨hp, hwn, hr⟩ | ⟨hp, hwn, rfl⟩ := (opOut_spec hv).imp id id |> fun h => (h.2.imp (fun x => And.intro h.1 x) (fun x => And.intro h.1 x))
            · exact wk_value ho ha hwn (hr w) (hw _ (ha.puto hp v))
            · exact wk_skip ho ha hwn (hw _ (ha.puto hp undef))
    | _ => cases h

/-- as far as it goes by itself -/
noncomputable def adv (P : Program) (n : Nat) (m : Nat) : St → St :=
  Nat.rec (motive := fun _ => St → St) (fun S => S) (fun _ ih S => match st1 P n S with | some S' => ih S' | none => S) m
theorem W.adv {m : Nat} : ∀ {S : St}, W P Q n ds (adv P n m S) w → W P Q n ds S w := by
  induction m with
  | zero => intro S h; exact h
  | succ m ih =>
    intro S h
    show W P Q n ds S w
    have hd : Ev.adv P n (m + 1) S = (match Ev.st1 P n S with | some S' => Ev.adv P n m S' | none => S) := rfl
    rw [hd] at h
    split at h
    · rename_i S' hs; exact W.st1 hs (ih h)
    · exact h
attribute [irreducible] adv
end Go.Ev
