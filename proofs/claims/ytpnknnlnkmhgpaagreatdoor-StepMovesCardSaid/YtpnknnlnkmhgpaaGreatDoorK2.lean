/- Shown here: Walks, second part: what is known of memory, as a list of entries; the events that change it. Conditions: none beyond those in each theorem. -/
import Derived.Laws.NewBlocks
import Derived.RangeFuncLeaves
import Derived.Test.YtpnknnlnkmhgpaaGreatDoorK1
namespace Go.Ev
open Go

/-! ### entering and leaving a function -/
def argF (args : Array Value) : Fr := fun i => args.getD i undef
def bodyOf (fn : Func) : Code := fn.body.getD .skip
def enterB (P : Program) (g : Nat) : Bool :=
  match P.funcs[g]? with
  | some fn => bif fn.name == "runtime.NumGoroutine" then false else fn.body.isSome
  | none => false

variable {n : Nat} {F : Fr} {ds : List Deferred} {a : Act} {P : Program} {Q : Exit → Act → World → Prop} {w : World}

theorem rel_args (args : Array Value) (n : Nat) (h : args.size ≤ n) : Rel n (argF args) [] { tmps := args ++ Array.replicate (n - args.size) undef, defers := [] } := by
  refine ⟨by simp; omega, fun i => ?_, rfl⟩
  simp only [argF, Array.getD_eq_getD_getElem?]
  by_cases hi : i < args.size
  · rw [Array.getElem?_append_left hi]
  · rw [Array.getElem?_append_right (by omega), Array.getElem?_eq_none (show args.size ≤ i by omega)]
    by_cases h2 : i - args.size < n - args.size
    · simp [h2]
    · rw [Array.getElem?_eq_none (by simp; omega)]

theorem calls_of_W {f : FuncId} {fn : Func} {args : Array Value} {w : World} {R : Ending → World → Prop}
    (hf : P.funcs[f]? = some fn) (hb : fn.body = some (bodyOf fn)) (hs : args.size ≤ fn.ntmps)
    (h : W P (bPost P fn R) fn.ntmps [] ⟨[.code (bodyOf fn)], argF args, [], 0⟩ w) : Calls P f args w R := by
  intro cs
  have hrel := rel_args args fn.ntmps hs
  have hm : MW P (bPost P fn R) [.code (bodyOf fn)] _ w := (h _ hrel).mw
  let b : Frame := { (default : Frame) with fn := f, kind := .normal }
  have henter : Frame.enter P f args .normal =
      b.at { tmps := args ++ Array.replicate (fn.ntmps - args.size) undef, defers := [] } [.code (bodyOf fn)] := by
    simp [Frame.enter, Frame.at, hf, hb, b]
  obtain ⟨e, a', w', hq, harr⟩ := hm b cs
  rw [← henter] at harr
  have key : ∀ (a' : Act) (w' : World) (todo : List Item), bPost P fn R .ret a' w' → Steps P (lone (Frame.enter P f args .normal) cs w) (lone { b.at a' todo with mode := .returning } cs w') →
      ∃ e w' fr, R e w' ∧ Comes P (lone (Frame.enter P f args .normal) cs w) (lone fr cs w') e ∧ fr.fn = f ∧ fr.leaving P w' e := by
    intro a' w' todo hq hs
    rcases hq with ⟨hd, v, hr, hR⟩ | ⟨D, hd, hD, v, hr, hR⟩
    · exact ⟨.returned v, w', _, hR, hs, rfl, rfl, hd, rfl, fn, hf, hr⟩
    · have h1 := step_collected (P := P) (fr := { b.at a' todo with mode := .returning }) (cs := cs) (w := w') (d := { target := .collected D, args := #[] }) (r := D) (ds := []) (calls := []) (by simp) hd rfl (run_takeDeferred hD)
      exact ⟨.returned v, _, _, hR, Steps.trans hs (.one h1), rfl, rfl, rfl, rfl, fn, hf, hr⟩
  cases e with
  | normal => exact key a' w' [] hq (Steps.trans harr (.one step_end))
  | ret =>
    obtain ⟨todo, hs⟩ := harr
    exact key a' w' todo hq hs
  | panic chain =>
    obtain ⟨hd, hR⟩ := hq
    obtain ⟨todo, hs⟩ := harr
    exact ⟨.panicked chain, w', _, hR, hs, rfl, rfl, hd, fn, hf⟩
  | exit id => exact hq.elim
  | goto l => exact hq.elim
  | outgrown => exact ⟨.outgrown, w', b, hq, harr.resolve_left (by simp [b]), rfl, trivial⟩

def resF (fn : Func) (F : Fr) : Sem Value := do
  let vs ← fn.results.mapM fun
    | .tmp t => pure (F t)
    | .cell a t => do loadVar t (← asAddr (F a))
  pure (if h : vs.size = 1 then vs[0] else .tuple vs)
theorem Rel.results (h : Rel n F ds a) (fn : Func) : results fn a.tmps = resF fn F := by
  unfold Go.results resF
  congr 1
  · congr 1
    funext r
    cases r with
    | tmp t => simp only [h.val]
    | cell x t => simp only [h.val]

def atEnd (S : St) : Bool :=
  match S.todo with
  | [] => true
  | .code .ret :: _ => true
  | _ => false
theorem W.ret {fn : Func} {R : Ending → World → Prop} {S : St} {v : Value} (h : atEnd S = true) (hv : (resF fn S.F).run P w = .ok v w) (hR : R (.returned v) w) :
    W P (bPost P fn R) n [] S w := by
  intro a ha
  obtain ⟨todo, F, G, fl⟩ := S
  have hq : bPost P fn R .ret a w := .inl ⟨ha.defs, v, by rw [ha.results]; exact hv, hR⟩
  cases todo with
  | nil => exact fun b cs => ⟨.normal, a, w, hq, .refl ..⟩
  | cons x k =>
    cases x with
    | code c =>
      cases c with
      | ret => exact fun b cs => ⟨.ret, a, w, hq, _, .one step_ret⟩
      | _ => cases h
    | _ => cases h

/-! ### the operation at the head -/
def opOf (n : Nat) (S : St) : Option Oper :=
  match S.todo with
  | [] => none
  | x :: _ => match x with
    | .inRegion ops l => match l with
      | [] => none
      | i :: _ => match ops[i]? with
        | some o => bif putOk n o.dst then (bif wantF ops S.F o then some o else none) else none
        | none => none
    | _ => none
def nx (S : St) (v : Value) : St :=
  match S.todo with
  | [] => S
  | x :: k => match x with
    | .inRegion ops l => match l with
      | [] => S
      | i :: is => ⟨.inRegion ops is :: k, updo S.F (dstOf ops i) v, S.G, S.fl⟩
    | _ => S

theorem opOf_spec {S : St} {o : Oper} (h : opOf n S = some o) : ∃ ops i is k, S.todo = .inRegion ops (i :: is) :: k ∧ ops[i]? = some o ∧ putOk n o.dst = true ∧ wantF ops S.F o = true ∧
    ∀ v, nx S v = ⟨.inRegion ops is :: k, updo S.F o.dst v, S.G, S.fl⟩ := by
  obtain ⟨todo, F, G, fl⟩ := S
  cases todo with
  | nil => cases h
  | cons x k =>
    cases x with
    | inRegion ops l =>
      cases l with
      | nil => cases h
      | cons i is =>
        simp only [opOf] at h
        cases ho : ops[i]? with
        | none => rw [ho] at h; cases h
        | some o' =>
          rw [ho] at h
          simp only at h
          cases hp : putOk n o'.dst with
          | false => rw [hp] at h; cases h
          | true =>
            rw [hp] at h
            cases hw : wantF ops F o' with
            | false => rw [hw] at h; cases h
            | true =>
              rw [hw] at h
              cases h
              exact ⟨ops, i, is, k, rfl, ho, hp, hw, fun v => by simp [nx, dstOf, ho]⟩
    | _ => cases h

theorem W.op {S : St} {o : Oper} {v : Value} {w' : World} (h : opOf n S = some o) (hr : (execOp (evl S.F) o).run P w = .ok (.value v) w') (k : W P Q n ds (nx S v) w') :
    W P Q n ds S w := by
  obtain ⟨ops, i, is, kk, htodo, ho, hp, hwn, hnx⟩ := opOf_spec h
  rw [hnx] at k
  intro a ha
  rw [htodo]
  exact wk_value ho ha hwn hr (k _ (ha.puto hp v))
theorem W.opSkip {S : St} {o : Oper} {w' : World} (h : opOf n S = some o) (hr : (execOp (evl S.F) o).run P w = .ok .skip w') (k : W P Q n ds (nx S undef) w') :
    W P Q n ds S w := by
  obtain ⟨ops, i, is, kk, htodo, ho, hp, hwn, hnx⟩ := opOf_spec h
  rw [hnx] at k
  intro a ha
  rw [htodo]
  exact MW.steps (fun b cs => .one (step_skipped ho (by rw [ha.wanted, hwn]) (by rw [ha.eval]; exact hr))) (k _ (ha.puto hp undef))
theorem W.opEnter {S : St} {o : Oper} {g : FuncId} {args : Array Value} {w' : World} {R' : Ending → World → Prop} (h : opOf n S = some o)
    (hr : (execOp (evl S.F) o).run P w = .ok (.enter g args) w') (hc : Calls P g args w' R') (k : ∀ e w'', R' e w'' → ∃ v, e = .returned v ∧ W P Q n ds (nx S v) w'') :
    W P Q n ds S w := by
  obtain ⟨ops, i, is, kk, htodo, ho, hp, hwn, hnx⟩ := opOf_spec h
  intro a ha
  rw [htodo]
  intro b cs
  obtain ⟨v, w'', hR, hs⟩ := steps_enter ho (by rw [ha.wanted, hwn]) (by rw [ha.eval]; exact hr) hc (fun e w'' he => let ⟨v, hv, _⟩ := k e w'' he; ⟨v, hv⟩) b cs
  obtain ⟨v', hv', hk⟩ := k _ _ hR
  cases hv'
  rw [hnx] at hk
  exact MW.of_steps hs (hk _ (ha.puto hp v))
theorem W.opRound {S : St} {o : Oper} {l : Nat} {f : FuncId} {tmps : Array Value} {assign body : Code} {w' : World} {R' : Ending → World → Prop} (h : opOf n S = some o)
    (hr : (execOp (evl S.F) o).run P w = .ok (.round l f tmps assign body) w') (hc : RoundC P l f tmps assign body w' R') (k : ∀ e w'', R' e w'' → ∃ v, e = .returned v ∧ W P Q n ds (nx S v) w'') :
    W P Q n ds S w := by
  obtain ⟨ops, i, is, kk, htodo, ho, hp, hwn, hnx⟩ := opOf_spec h
  intro a ha
  rw [htodo]
  intro b cs
  obtain ⟨v, w'', hR, hs⟩ := steps_round ho (by rw [ha.wanted, hwn]) (by rw [ha.eval]; exact hr) hc b cs
  obtain ⟨v', hv', hk⟩ := k _ _ hR
  cases hv'
  rw [hnx] at hk
  exact MW.of_steps hs (hk _ (ha.puto hp v))

def callOf (P : Program) (n : Nat) (S : St) : Option (Nat × Array Value) :=
  match opOf n S with
  | none => none
  | some o => match o.op with
    | .call c => match c.callee with
      | .value f => match evl S.F f with
        | .func fn first captured => match fn with
          | .func g => bif enterB P g then some (g, first ++ c.args.map (evl S.F) ++ captured) else none
          | _ => none
        | _ => none
      | _ => none
    | _ => none
theorem callOf_spec {S : St} {g : Nat} {args : Array Value} (h : callOf P n S = some (g, args)) (w : World) :
    ∃ o, opOf n S = some o ∧ (execOp (evl S.F) o).run P w = .ok (.enter g args) w := by
  unfold callOf at h
  cases ho : opOf n S with
  | none => rw [ho] at h; cases h
  | some o =>
    rw [ho] at h
    simp only at h
    refine ⟨o, rfl, ?_⟩
    split at h
    · rename_i c hop
      split at h
      · rename_i f hcal
        split at h
        · rename_i fn first cap hev
          split at h
          · rename_i g'
            cases he : enterB P g' with
            | false => rw [he] at h; cases h
            | true =>
              rw [he] at h
              simp only [cond_true, Option.some.injEq, Prod.mk.injEq] at h
              obtain ⟨rfl, rfl⟩ := h
              unfold enterB at he
              split at he
              · rename_i fn hfn
                cases hnm : fn.name == "runtime.NumGoroutine" with
                | true => rw [hnm] at he; cases he
                | false =>
                  rw [hnm] at he
                  simp only [cond_false] at he
                  have hno : ¬ fn.body = none := by intro h0; rw [h0] at he; cases he
                  have hnm' : ¬ fn.name = "runtime.NumGoroutine" := by simpa using hnm
                  simp [execOp, hop, resolve, hcal, hev, Deferred.ofValue, invoke, callFunc, program, hfn, hnm', hno, pure, bind, Sem.bind, Sem.run]
              · cases he
          · cases h
        · cases h
      · cases h
    · cases h

/-- a test at the head: what it asks -/
def condOf (S : St) : Option Bool :=
  match S.todo with
  | .code c :: _ => match c with
    | .cond x _ _ => asB (evl S.F x)
    | _ => none
  | _ => none
def br (S : St) (t : Bool) : St :=
  match S.todo with
  | .code c :: k => match c with
    | .cond _ x y => ⟨.code (bif t then x else y) :: k, S.F, S.G, S.fl⟩
    | _ => S
  | _ => S
theorem asB_some {v : Value} {b : Bool} (h : asB v = some b) : v = .bool b := by
  cases v <;> simp [asB] at h
  subst h; rfl
theorem W.cond {S : St} {c : Bool} (h : condOf S = some c) (k : W P Q n ds (br S c) w) : W P Q n ds S w := by
  obtain ⟨todo, F, G, fl⟩ := S
  intro a ha
  cases todo with
  | nil => cases h
  | cons x kk =>
    cases x with
    | code co =>
      cases co with
      | cond x t e =>
        simp only [condOf] at h
        have hx := asB_some h
        refine MW.steps (fun b cs => .one (step_cond (t := c) (by rw [ha.eval]; exact hx))) ?_
        have := (k a ha).mw
        simp only [br] at this
        cases c <;> exact this
      | _ => cases h
    | _ => cases h

/-- a guard that isn't decided yet: its slot and what it holds -/
def guardOf (S : St) : Option (Nat × Bool) :=
  match S.todo with
  | [] => none
  | x :: _ => match x with
    | .inRegion ops l => match l with
      | [] => none
      | i :: _ => match ops[i]? with
        | some o => match o.guard with
          | some (j, _) => match dstOf ops j with
            | some t => match asB (S.F t) with
              | some b => some (t, b)
              | none => none
            | none => none
          | none => none
        | none => none
    | _ => none
def setG (S : St) (t : Nat) (b : Bool) : St := ⟨S.todo, upd S.F t (.bool b), t :: S.G, S.fl⟩
theorem Rel.same {F' : Fr} (h : Rel n F ds a) (e : F' = F) : Rel n F' ds a := e ▸ h
theorem upd_same {F : Fr} {t : Nat} {v : Value} (h : F t = v) : upd F t v = F := by
  funext i
  simp only [upd]
  cases hb : Nat.beq i t with
  | false => rfl
  | true =>
    have : i = t := Nat.eq_of_beq_eq_true hb
    rw [this, h]; rfl
theorem W.guard {S : St} {t : Nat} {c : Bool} (h : guardOf S = some (t, c)) (k : W P Q n ds (setG S t c) w) : W P Q n ds S w := by
  obtain ⟨todo, F, G, fl⟩ := S
  have hF : F t = .bool c := by
    cases todo with
    | nil => cases h
    | cons x kk =>
      cases x with
      | inRegion ops l =>
        cases l with
        | nil => cases h
        | cons i is =>
          simp only [guardOf] at h
          split at h
          · split at h
            · split at h
              · split at h
                · rename_i b hb
                  simp only [Option.some.injEq, Prod.mk.injEq] at h
                  obtain ⟨rfl, rfl⟩ := h
                  exact asB_some hb
                · cases h
              · cases h
            · cases h
          · cases h
      | _ => cases h
  intro a ha
  exact k a (ha.same (by simp only [setG]; exact upd_same hF))

/-- a slot's value, said otherwise -/
theorem W.norm {S : St} {t : Nat} {v : Value} (h : S.F t = v) (k : W P Q n ds ⟨S.todo, upd S.F t v, S.G, S.fl⟩ w) : W P Q n ds S w :=
  fun a ha => k a (ha.same (upd_same h))

/-! ### what is known of memory -/
inductive Ent where
  | blk (b : Nat) (o : Obj)
  | gen (b : Nat) (φ : Obj → Prop)
  | row (v : Value) (e size n : Nat) (xs : List Value)
  | part (b o : Nat) (cs : List Value)
  | rowf (v : Value) (e size n : Nat) (xs : List Value) (o : Nat) (cs : List Value)
def Ent.foot : Ent → Option Nat
  | .blk b _ => some b
  | .gen b _ => some b
  | .row v _ _ _ _ => v.ownBlock
  | .part b _ _ => some b
  | .rowf v _ _ _ _ _ _ => v.ownBlock
def Ent.holds (w : World) : Ent → Prop
  | .blk b o => w.heap[b]? = some o
  | .gen b φ => ∃ o, w.heap[b]? = some o ∧ φ o
  | .row v e size n xs => w.ownsRow 0 e size v n xs
  | .part b o cs => b < w.heap.size ∧ ∀ k x, cs[k]? = some x → w.cell? ⟨b, o + k, none⟩ = some x
  | .rowf v e size n xs o cs => w.ownsRow 0 e size v n xs ∧ 0 < n ∧ o + cs.length ≤ n * size ∧ (xs.drop o).take cs.length = cs
theorem Ent.lt {w : World} {E : Ent} (h : E.holds w) {b : Nat} (hb : E.foot = some b) : b < w.heap.size := by
  cases E with
  | blk b' o => cases hb; exact (Array.getElem?_eq_some_iff.1 h).1
  | gen b' φ => cases hb; obtain ⟨o, ho, _⟩ := h; exact (Array.getElem?_eq_some_iff.1 ho).1
  | row v e size n xs => exact (World.ownsRow.lt h b hb).2
  | part b' o cs => cases hb; exact h.1
  | rowf v e size n xs o cs => exact (World.ownsRow.lt h.1 b hb).2
theorem Ent.kept {w w' : World} {E : Ent} (h : E.holds w) (hb : ∀ b, E.foot = some b → w'.heap[b]? = w.heap[b]?) : E.holds w' := by
  cases E with
  | blk b o => exact (hb b rfl).trans h
  | gen b φ => obtain ⟨o, ho, hp⟩ := h; exact ⟨o, (hb b rfl).trans ho, hp⟩
  | row v e size n xs =>
    refine ⟨h.1, ?_⟩
    rcases h.2 with hn | ⟨g, cap, cur, rfl, h1, h2, rest⟩
    · exact .inl hn
    · exact .inr ⟨g, cap, cur, rfl, h1, (hb g rfl).trans h2, rest⟩
  | rowf v e size n xs o cs =>
    refine ⟨⟨h.1.1, ?_⟩, h.2⟩
    rcases h.1.2 with hn | ⟨g, cap, cur, rfl, h1, h2, rest⟩
    · exact .inl hn
    · exact .inr ⟨g, cap, cur, rfl, h1, (hb g rfl).trans h2, rest⟩
  | part b o cs =>
    have he := hb b rfl
    refine ⟨?_, fun k x hk => (World.cell?_of_block he).trans (h.2 k x hk)⟩
    have h1 := h.1
    rw [Array.getElem?_eq_getElem h1] at he
    exact (Array.getElem?_eq_some_iff.1 he).1

def feet (L : List Ent) : List Nat := L.filterMap Ent.foot
theorem mem_feet {L : List Ent} {b : Nat} : b ∈ feet L ↔ ∃ E ∈ L, E.foot = some b := by simp [feet]

structure Reach (M : List Nat) (w0 : World) (L : List Ent) (w : World) : Prop where
  os : w.os = w0.os
  tape : w.tape = w0.tape
  output : w.output = w0.output
  draws : w0.drawn ≤ w.drawn
  size : w0.heap.size ≤ w.heap.size
  old : ∀ b, b < w0.heap.size → b ∉ M → w.heap[b]? = w0.heap[b]?
  ents : ∀ E ∈ L, E.holds w
  nodup : (feet L).Nodup
  fresh : ∀ b ∈ feet L, w0.heap.size ≤ b ∨ b ∈ M

theorem Reach.refl (w : World) : Reach [] w [] w := ⟨rfl, rfl, rfl, Nat.le_refl _, Nat.le_refl _, fun _ _ _ => rfl, by simp, by simp [feet], by simp [feet]⟩
theorem Reach.lt {M w0 L w} (h : Reach M w0 L w) {b : Nat} (hb : b ∈ feet L) : b < w.heap.size := by
  obtain ⟨E, hE, hf⟩ := mem_feet.1 hb
  exact Ent.lt (h.ents E hE) hf
theorem Reach.drawn {M w0 L w} (h : Reach M w0 L w) (d : Nat) (hd : w.drawn ≤ d) : Reach M w0 L { w with drawn := d } :=
  ⟨h.os, h.tape, h.output, Nat.le_trans h.draws hd, h.size, h.old, fun E hE => Ent.kept (h.ents E hE) (fun _ _ => rfl), h.nodup, h.fresh⟩
theorem feet_append (L L2 : List Ent) : feet (L ++ L2) = feet L ++ feet L2 := by simp [feet]
/-- what a call leaves that changes nothing of what was -/
theorem Reach.call0 {M w0 L w L2 w'} (h : Reach M w0 L w) (k : Reach [] w L2 w') : Reach M w0 (L ++ L2) w' := by
  have hk : ∀ b, b ∈ feet L → w'.heap[b]? = w.heap[b]? := fun b hb => k.old b (h.lt hb) (by simp)
  have hf : ∀ b ∈ feet L2, w.heap.size ≤ b := fun b hb => (k.fresh b hb).resolve_right (by simp)
  refine ⟨k.os.trans h.os, k.tape.trans h.tape, k.output.trans h.output, Nat.le_trans h.draws k.draws, Nat.le_trans h.size k.size, fun b hb hM => ?_, fun E hE => ?_, ?_, fun b hb => ?_⟩
  · exact (k.old b (Nat.lt_of_lt_of_le hb h.size) (by simp)).trans (h.old b hb hM)
  · rcases List.mem_append.1 hE with hE | hE
    · exact Ent.kept (h.ents E hE) (fun b hb => hk b (mem_feet.2 ⟨E, hE, hb⟩))
    · exact k.ents E hE
  · rw [feet_append, List.nodup_append]
    refine ⟨h.nodup, k.nodup, fun x hx y hy => ?_⟩
    have := h.lt hx
    have := hf y hy
    omega
  · rw [feet_append] at hb
    rcases List.mem_append.1 hb with hb | hb
    · exact h.fresh b hb
    · exact .inl (Nat.le_trans h.size (hf b hb))

theorem feet_split (L1 : List Ent) (E : Ent) (L3 : List Ent) : feet (L1 ++ E :: L3) = feet L1 ++ (E.foot.toList ++ feet L3) := by
  cases h : E.foot <;> simp [feet, h]
/-- what a call leaves that changes the block of one entry -/
theorem Reach.call1 {M w0 L1 L3 w w' E E' L2 b} (h : Reach M w0 (L1 ++ E :: L3) w) (hE : E.foot = some b) (k : Reach [b] w (E' :: L2) w') :
    Reach M w0 (L1 ++ E' :: L3 ++ L2) w' := by
  have hnd := h.nodup
  rw [feet_split, hE] at hnd
  simp only [Option.toList_some, List.singleton_append] at hnd
  have hb1 : b ∉ feet L1 := fun hb => (List.nodup_append.1 hnd).2.2 b hb b (by simp) rfl
  have hb3 : b ∉ feet L3 := (List.nodup_cons.1 (List.nodup_append.1 hnd).2.1).1
  have hlt1 : ∀ x ∈ feet L1, x < w.heap.size := fun x hx => h.lt (by rw [feet_split]; simp [hx])
  have hlt3 : ∀ x ∈ feet L3, x < w.heap.size := fun x hx => h.lt (by rw [feet_split]; simp [hx])
  have hltb : b < w.heap.size := h.lt (by rw [feet_split, hE]; simp)
  have hfr : ∀ x ∈ feet (E' :: L2), w.heap.size ≤ x ∨ x = b := fun x hx => (k.fresh x hx).imp id (by simp)
  have hfb : w0.heap.size ≤ b ∨ b ∈ M := h.fresh b (by rw [feet_split, hE]; simp)
  refine ⟨k.os.trans h.os, k.tape.trans h.tape, k.output.trans h.output, Nat.le_trans h.draws k.draws, Nat.le_trans h.size k.size, fun x hx hM => ?_, fun E2 hE2 => ?_, ?_, fun x hx => ?_⟩
  · by_cases hxb : x = b
    · subst hxb
      rcases hfb with h1 | h1
      · omega
      · exact absurd h1 hM
    · exact (k.old x (Nat.lt_of_lt_of_le hx h.size) (by simpa using hxb)).trans (h.old x hx hM)
  · rw [List.mem_append, List.mem_append, List.mem_cons] at hE2
    rcases hE2 with (h1 | rfl | h1) | h1
    · refine Ent.kept (h.ents E2 (by simp [h1])) (fun x hx => k.old x (hlt1 x (mem_feet.2 ⟨E2, h1, hx⟩)) ?_)
      intro hxb
      simp only [List.mem_singleton] at hxb
      subst hxb
      exact hb1 (mem_feet.2 ⟨E2, h1, hx⟩)
    · exact k.ents E2 (by simp)
    · refine Ent.kept (h.ents E2 (by simp [h1])) (fun x hx => k.old x (hlt3 x (mem_feet.2 ⟨E2, h1, hx⟩)) ?_)
      intro hxb
      simp only [List.mem_singleton] at hxb
      subst hxb
      exact hb3 (mem_feet.2 ⟨E2, h1, hx⟩)
    · exact k.ents E2 (by simp [h1])
  · have hk2 : (feet (E' :: L2)).Nodup := k.nodup
    have e2 : feet (E' :: L2) = E'.foot.toList ++ feet L2 := by cases h : E'.foot <;> simp [feet, h]
    rw [feet_append, feet_split, List.append_assoc, List.append_assoc]
    rw [e2] at hk2 hfr
    have n1 : (feet L1).Nodup := (List.nodup_append.1 hnd).1
    have n3 : (feet L3).Nodup := (List.nodup_cons.1 (List.nodup_append.1 hnd).2.1).2
    have d13 : ∀ x ∈ feet L1, ∀ y ∈ feet L3, x ≠ y := fun x hx y hy => (List.nodup_append.1 hnd).2.2 x hx y (by simp [hy])
    obtain ⟨ke, kl, kd⟩ := List.nodup_append.1 hk2
    have q1 : ∀ y, y ∈ E'.foot.toList ∨ y ∈ feet L2 → ∀ x ∈ feet L1, x ≠ y := by
      intro y hy x hx e
      subst e
      have := hlt1 x hx
      rcases hfr x (by simpa using hy) with h1 | h1
      · omega
      · subst h1; exact hb1 hx
    have q3 : ∀ y, y ∈ E'.foot.toList ∨ y ∈ feet L2 → ∀ x ∈ feet L3, x ≠ y := by
      intro y hy x hx e
      subst e
      have := hlt3 x hx
      rcases hfr x (by simpa using hy) with h1 | h1
      · omega
      · subst h1; exact hb3 hx
    refine List.nodup_append.2 ⟨n1, List.nodup_append.2 ⟨ke, List.nodup_append.2 ⟨n3, kl, fun x hx y hy => q3 y (.inr hy) x hx⟩, fun x hx y hy => ?_⟩, fun x hx y hy => ?_⟩
    · rcases List.mem_append.1 hy with hy | hy
      · exact fun e => q3 x (.inl hx) y hy e.symm
      · exact kd x hx y hy
    · rcases List.mem_append.1 hy with hy | hy
      · exact q1 y (.inl hy) x hx
      · rcases List.mem_append.1 hy with hy | hy
        · exact d13 x hx y hy
        · exact q1 y (.inr hy) x hx
  · rw [feet_append, feet_split] at hx
    have hgo : ∀ y, w.heap.size ≤ y ∨ y = b → w0.heap.size ≤ y ∨ y ∈ M := by
      rintro y (h1 | rfl)
      · exact .inl (Nat.le_trans h.size h1)
      · exact hfb
    have e2 : feet (E' :: L2) = E'.foot.toList ++ feet L2 := by cases h : E'.foot <;> simp [feet, h]
    rw [e2] at hfr
    simp only [List.mem_append] at hx
    rcases hx with (h1 | h1 | h1) | h1
    · exact h.fresh x (by rw [feet_split]; simp [h1])
    · exact hgo x (hfr x (by simp [h1]))
    · exact h.fresh x (by rw [feet_split]; simp [h1])
    · exact hgo x (hfr x (by simp [h1]))

theorem Reach.sub {M w0 L w} (h : Reach M w0 L w) {L' : List Ent} (hs : List.Sublist L' L) : Reach M w0 L' w :=
  ⟨h.os, h.tape, h.output, h.draws, h.size, h.old, fun E hE => h.ents E (hs.subset hE), h.nodup.sublist (hs.filterMap _), fun b hb => h.fresh b ((hs.filterMap Ent.foot).subset hb)⟩
theorem Reach.perm {M w0 L w} (h : Reach M w0 L w) {L' : List Ent} (hs : List.Perm L' L) : Reach M w0 L' w :=
  ⟨h.os, h.tape, h.output, h.draws, h.size, h.old, fun E hE => h.ents E (hs.subset hE), (hs.filterMap _).nodup_iff.2 h.nodup, fun b hb => h.fresh b ((hs.filterMap Ent.foot).subset hb)⟩
/-- a new block -/
theorem Reach.new (w : World) (o : Obj) : Reach [] w [.blk w.heap.size o] (w.alloc o) := by
  refine ⟨rfl, rfl, rfl, Nat.le_refl _, by simp, fun b hb _ => heap_alloc_old w o b hb, ?_, by simp [feet, Ent.foot], by simp [feet, Ent.foot]⟩
  intro E hE
  simp only [List.mem_singleton] at hE
  subst hE
  exact heap_alloc_new w o

attribute [irreducible] nx br setG atEnd condOf guardOf opOf argF bodyOf resF
end Go.Ev
