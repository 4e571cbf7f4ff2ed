/- Shown here: Walks: == at structs. Conditions: none beyond those in each theorem. -/
import Derived.Test.YtpnknnlnkmhgpaaGreatDoorK13
namespace Go.Ev
open Go
variable {P : Program}

def eqvF (P : Program) (q : TypeId → Value → Value → Option Bool) (xs ys : Array Value) : List Field → Option Bool
  | [] => some true
  | f :: fs => bif f.name == "_" then eqvF P q xs ys fs else
    match pureVal P (part f.type xs f.offset) with
    | none => none
    | some u => match pureVal P (part f.type ys f.offset) with
      | none => none
      | some v => match q f.type u v with
        | none => none
        | some b => match eqvF P q xs ys fs with
          | none => none
          | some c => some (b && c)
def eqv (P : Program) : Nat → TypeId → Value → Value → Option Bool
  | 0, _, _, _ => none
  | d + 1, t, x, y => match P.underlying t with
    | some (.struct fields) => match x, y with
      | .agg xs, .agg ys => bif P.stoodInHeld t then none else eqvF P (eqv P d) xs ys fields.toList
      | _, _ => none
    | some (.int _) => match x, y with
      | .int k a, .int k' b => if k = k' then some (a == b) else none
      | _, _ => none
    | some .bool => match x, y with
      | .bool a, .bool b => some (a == b)
      | _, _ => none
    | _ => none
def eqBody (d : Nat) (xs ys : Array Value) (f : Field) (_ : Option Bool × Unit) : Sem (ForInStep (Option Bool × Unit)) :=
  if f.name ≠ "_" then do
    let __do_lift ← part f.type xs f.offset
    let __do_lift_1 ← part f.type ys f.offset
    let __do_lift ← Op.equalIn d f.type __do_lift __do_lift_1
    if (!__do_lift) = true then pure (ForInStep.done (some false, ()))
      else pure (ForInStep.yield (none, ()))
  else pure (ForInStep.yield (none, ()))
theorem eqF_run {d : Nat} (ih : ∀ (t : TypeId) (x y : Value) (b : Bool), eqv P d t x y = some b → ∀ w, (Op.equalIn d t x y).run P w = .ok b w) (xs ys : Array Value) (w : World) :
    ∀ (l : List Field) (b : Bool), eqvF P (eqv P d) xs ys l = some b → (forIn l ((none : Option Bool), ()) (eqBody d xs ys)).run P w = .ok (if b = true then (none, ()) else (some false, ())) w := by
  intro l
  induction l with
  | nil =>
    intro b h
    simp only [eqvF, Option.some.injEq] at h
    subst h
    rfl
  | cons f fs ihl =>
    intro b h
    simp only [eqvF] at h
    rw [List.forIn_cons, Sem.run_bind]
    cases hn : f.name == "_" with
    | true =>
      rw [hn] at h
      have hn' : f.name = "_" := by simpa using hn
      have e : (eqBody d xs ys f ((none : Option Bool), ())).run P w = .ok (.yield (none, ())) w := by simp [eqBody, hn', Sem.run_pure]
      rw [e]
      exact ihl b h
    | false =>
      rw [hn] at h
      have hn' : f.name ≠ "_" := by simpa using hn
      simp only [cond_false] at h
      split at h
      · cases h
      · rename_i u hu
        split at h
        · cases h
        · rename_i v hv
          split at h
          · cases h
          · rename_i b1 hb1
            split at h
            · cases h
            · rename_i c hc
              simp only [Option.some.injEq] at h
              subst h
              have hq := ih f.type u v b1 hb1 w
              have hp1 := pureVal_run hu w
              have hp2 := pureVal_run hv w
              cases b1 with
              | true =>
                have e : (eqBody d xs ys f ((none : Option Bool), ())).run P w = .ok (.yield (none, ())) w := by
                  simp [eqBody, hn', Sem.run_bind, hp1, hp2, hq, Result.andThen]
                rw [e]
                simpa using ihl c hc
              | false =>
                have e : (eqBody d xs ys f ((none : Option Bool), ())).run P w = .ok (.done (some false, ())) w := by
                  simp [eqBody, hn', Sem.run_bind, hp1, hp2, hq, Result.andThen]
                rw [e]
                rfl
theorem eqv_run : ∀ (d : Nat) (t : TypeId) (x y : Value) (b : Bool), eqv P d t x y = some b → ∀ w, (Op.equalIn d t x y).run P w = .ok b w := by
  intro d
  induction d with
  | zero => intro t x y b h; cases h
  | succ d ih =>
    intro t x y b h w
    unfold eqv at h
    split at h
    · rename_i fields hu
      split at h
      · rename_i xs ys
        cases hs : P.stoodInHeld t with
        | true => rw [hs] at h; cases h
        | false =>
          rw [hs] at h
          simp only [cond_false] at h
          have hf := eqF_run ih xs ys w fields.toList b h
          unfold Op.equalIn
          simp only [Sem.run_bind, run_underlying hu, Result.andThen_ok, program, Sem.run, hs]
          rw [if_neg (by decide)]
          rw [← Array.forIn_toList]
          have hf' : (forIn fields.toList ((none : Option Bool), ()) fun (f : Field) (_ : Option Bool × Unit) =>
              if f.name ≠ "_" then do
                let __do_lift ← part f.type xs f.offset
                let __do_lift_1 ← part f.type ys f.offset
                let __do_lift ← Op.equalIn d f.type __do_lift __do_lift_1
                if (!__do_lift) = true then pure (ForInStep.done (some false, ()))
                  else pure (ForInStep.yield (none, ()))
              else pure (ForInStep.yield (none, ()))).run P w = .ok (if b = true then (none, ()) else (some false, ())) w := hf
          rw [Sem.run_bind, hf']
          cases b <;> rfl
      · cases h
    · rename_i kd hu
      split at h
      · rename_i k a k' c
        by_cases hk : k = k'
        · subst hk
          rw [if_pos rfl] at h
          simp only [Option.some.injEq] at h
          subst h
          unfold Op.equalIn
          simp [Sem.run_bind, run_underlying hu, Result.andThen_ok]
        · rw [if_neg hk] at h; cases h
      · cases h
    · rename_i hu
      split at h
      · simp only [Option.some.injEq] at h
        subst h
        unfold Op.equalIn
        simp [Sem.run_bind, run_underlying hu, Result.andThen_ok]
      · cases h
    · cases h

/-! ### the operation -/
def eqH (P : Program) (H : Hd) : Option (Bool × Bool) :=
  match H.2 with
  | none => none
  | some o => match o.op with
    | .binOp op t x y _ => match evl H.1 x with
      | .agg xs => match evl H.1 y with
        | .agg ys => bif P.eqGuardType P.depth t then none else match op with
          | .eql => match eqv P Op.maxDepth t (.agg xs) (.agg ys) with
            | some b => some (true, b)
            | none => none
          | .neq => match eqv P Op.maxDepth t (.agg xs) (.agg ys) with
            | some b => some (false, b)
            | none => none
          | _ => none
        | _ => none
      | _ => none
    | _ => none
theorem eqH_run {H : Hd} {e b : Bool} {w : World} (h : eqH P H = some (e, b)) : ∃ o, H.2 = some o ∧ (execOp (evl H.1) o).run P w = .ok (.value (.bool (if e = true then b else !b))) w := by
  obtain ⟨F, o⟩ := H
  unfold eqH at h
  cases o with
  | none => cases h
  | some o =>
    refine ⟨o, rfl, ?_⟩
    simp only at h
    split at h
    · rename_i op t x y ty hop
      split at h
      · rename_i xs hx
        split at h
        · rename_i ys hy
          cases hg : P.eqGuardType P.depth t with
          | true => rw [hg] at h; cases h
          | false =>
            rw [hg] at h
            simp only [cond_false] at h
            have hgu : (eqGuard op t x y (.agg xs) (.agg ys)).run P w = .ok () w := by
              unfold eqGuard
              cases op <;> first | rfl | simp [Sem.run_bind, program, Sem.run, hg, Result.andThen]
            have he : execOp (evl F) o = (do let v ← (do eqGuard op t x y (evl F x) (evl F y); binOp op t (evl F x) (evl F y)); pure (.value v) : Sem Next) := by simp [execOp, hop]
            rw [he, Sem.run_bind, Sem.run_bind, hx, hy, hgu]
            simp only [Result.andThen_ok]
            split at h
            · split at h
              · rename_i b' hb
                simp only [Option.some.injEq, Prod.mk.injEq] at h
                obtain ⟨rfl, rfl⟩ := h
                have hq := eqv_run _ _ _ _ _ hb w
                have hq' : (Op.equal t (.agg xs) (.agg ys)).run P w = .ok b' w := hq
                simp [binOp, Sem.run_bind, hq', Result.andThen]
              · cases h
            · split at h
              · rename_i b' hb
                simp only [Option.some.injEq, Prod.mk.injEq] at h
                obtain ⟨rfl, rfl⟩ := h
                have hq := eqv_run _ _ _ _ _ hb w
                have hq' : (Op.equal t (.agg xs) (.agg ys)).run P w = .ok b' w := hq
                simp [binOp, Sem.run_bind, hq', Result.andThen]
              · cases h
            · cases h
        · cases h
      · cases h
    · cases h
variable {fn : Func} {R : Ending → World → Prop} {gl : Gls} {M : List Nat} {w0 : World} {L Ls : List Ent} {S : St} {U : List Nat} {ops : Array Oper} {k : List Item}
def eqOut : Option (Bool × Bool) → Value
  | some (e, b) => .bool (if e = true then b else !b)
  | none => undef
/-- == or != at structs -/
theorem V.eqs (v : Value) (h : (eqH P (headS fn.ntmps (A P fn S))).isSome = true) (hv : eqOut (eqH P (headS fn.ntmps (A P fn S))) = v) (kk : V P fn R gl M w0 L (nx (A P fn S) v)) : V P fn R gl M w0 L S :=
  V.does fun hg hd w hw => by
    cases hh : eqH P (headS fn.ntmps (A P fn S)) with
    | none => rw [hh] at h; cases h
    | some eb =>
      obtain ⟨e, b⟩ := eb
      obtain ⟨o, ho, hr⟩ := eqH_run (w := w) hh
      rw [hh] at hv
      exact ⟨o, ho, .inl ⟨_, w, hr, by rw [show (Value.bool (if e = true then b else !b)) = v from hv]; exact kk hg hd w hw⟩⟩
/-! ### a slice against nil -/
def eqnH (P : Program) (H : Hd) : Option (Bool × Bool) :=
  match H.2 with
  | none => none
  | some o => match o.op with
    | .binOp op t x y _ => bif P.eqGuardType P.depth t then none else match P.underlying t with
      | some (.slice _) => match evl H.1 x with
        | .slice a _ _ => match evl H.1 y with
          | .slice none _ _ => match op with
            | .eql => some (true, a.isNone)
            | .neq => some (false, a.isNone)
            | _ => none
          | _ => none
        | _ => none
      | _ => none
    | _ => none
theorem eqnH_run {H : Hd} {e b : Bool} {w : World} (h : eqnH P H = some (e, b)) : ∃ o, H.2 = some o ∧ (execOp (evl H.1) o).run P w = .ok (.value (.bool (if e = true then b else !b))) w := by
  obtain ⟨F, o⟩ := H
  unfold eqnH at h
  cases o with
  | none => cases h
  | some o =>
    refine ⟨o, rfl, ?_⟩
    simp only at h
    split at h
    · rename_i op t x y ty hop
      cases hg : P.eqGuardType P.depth t with
      | true => rw [hg] at h; cases h
      | false =>
        rw [hg] at h
        simp only [cond_false] at h
        split at h
        · rename_i el hu
          split at h
          · rename_i a n1 c1 hx
            split at h
            · rename_i n2 c2 hy
              have hgu : (eqGuard op t x y (.slice a n1 c1) (.slice none n2 c2)).run P w = .ok () w := by
                unfold eqGuard
                cases op <;> first | rfl | simp [Sem.run_bind, program, Sem.run, hg, Result.andThen]
              have he : execOp (evl F) o = (do let v ← (do eqGuard op t x y (evl F x) (evl F y); binOp op t (evl F x) (evl F y)); pure (.value v) : Sem Next) := by simp [execOp, hop]
              have hq : (Op.equal t (.slice a n1 c1) (.slice none n2 c2)).run P w = .ok a.isNone w := by
                unfold Op.equal
                rw [show Op.maxDepth = 9999 + 1 from rfl]
                unfold Op.equalIn
                cases a <;> simp [Sem.run_bind, run_underlying hu, Result.andThen_ok]
              rw [he, Sem.run_bind, Sem.run_bind, hx, hy, hgu]
              simp only [Result.andThen_ok]
              split at h
              · simp only [Option.some.injEq, Prod.mk.injEq] at h
                obtain ⟨rfl, rfl⟩ := h
                simp [binOp, Sem.run_bind, hq, Result.andThen]
              · simp only [Option.some.injEq, Prod.mk.injEq] at h
                obtain ⟨rfl, rfl⟩ := h
                simp [binOp, Sem.run_bind, hq, Result.andThen]
              · cases h
            · cases h
          · cases h
        · cases h
    · cases h
/-- == or != of a slice and nil -/
theorem V.eqnil (v : Value) (h : (eqnH P (headS fn.ntmps (A P fn S))).isSome = true) (hv : eqOut (eqnH P (headS fn.ntmps (A P fn S))) = v) (kk : V P fn R gl M w0 L (nx (A P fn S) v)) : V P fn R gl M w0 L S :=
  V.does fun hg hd w hw => by
    cases hh : eqnH P (headS fn.ntmps (A P fn S)) with
    | none => rw [hh] at h; cases h
    | some eb =>
      obtain ⟨e, b⟩ := eb
      obtain ⟨o, ho, hr⟩ := eqnH_run (w := w) hh
      rw [hh] at hv
      exact ⟨o, ho, .inl ⟨_, w, hr, by rw [show (Value.bool (if e = true then b else !b)) = v from hv]; exact kk hg hd w hw⟩⟩
attribute [irreducible] eqH eqnH eqOut
end Go.Ev
