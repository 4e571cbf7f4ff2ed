/- Shown here: Walks, third part: the events at the level of what is known of memory. Conditions: none beyond those in each theorem. -/
import Derived.Laws.CopyRow
import Derived.Laws.Tables
import Derived.Test.YtpnknnlnkmhgpaaGreatDoorK2
namespace Go.Ev
open Go

/-- blocks that hold package-level variables, and what they hold -/
abbrev Gls := List Ent
def Gl (gl : Gls) (w : World) : Prop := ∀ E ∈ gl, E.holds w
def Dis (gl : Gls) (M : List Nat) : Prop := ∀ E ∈ gl, ∀ b, E.foot = some b → b ∉ M
theorem Dis.nil (gl : Gls) : Dis gl [] := fun _ _ => by simp
theorem Gl.reach {gl : Gls} {M w0 L w} (h : Gl gl w0) (hd : Dis gl M) (hw : Reach M w0 L w) : Gl gl w := fun E hE =>
  Ent.kept (h E hE) fun b hb => hw.old b (Ent.lt (h E hE) hb) (hd E hE b hb)
def V (P : Program) (fn : Func) (R : Ending → World → Prop) (gl : Gls) (M : List Nat) (w0 : World) (L : List Ent) (S : St) : Prop :=
  Gl gl w0 → Dis gl M → ∀ w, Reach M w0 L w → W P (bPost P fn R) fn.ntmps [] S w
noncomputable def A (P : Program) (fn : Func) (S : St) : St := adv P fn.ntmps 5000 S
def start (fn : Func) (args : Array Value) : St := ⟨[.code (bodyOf fn)], argF args, [], 0⟩

/-- what a function hands back: a value out of a family, facts, memory -/
def Post {X : Type} (M : List Nat) (w0 : World) (val : X → Value) (φ : X → Prop) (L2 : X → List Ent) : Ending → World → Prop :=
  fun e w' => ∃ x, e = .returned (val x) ∧ φ x ∧ Reach M w0 (L2 x) w'
/-- the entries of C are there, each in a block of its own -/
def Own (C : List Ent) (w : World) : Prop := Reach (feet C) w C w
/-- it returns this value, whatever memory is, and changes nothing of what was -/
def PureFn (P : Program) (gl : Gls) (g : Nat) (args : Array Value) (v : Value) : Prop :=
  ∀ w, Gl gl w → Calls P g args w fun e w' => e = .returned v ∧ Reach [] w [] w'
/-- it takes over the entries C and hands back C', under what Pw says of memory -/
def Spec {X : Type} (P : Program) (gl : Gls) (g : Nat) (args : Array Value) (Pw : World → Prop) (C : List Ent) (val : X → Value) (φ : X → Prop) (C' : X → List Ent) : Prop :=
  ∀ w, Gl gl w → Dis gl (feet C) → Own C w → Pw w → Calls P g args w (Post (feet C) w val φ C')

variable {P : Program} {fn : Func} {R : Ending → World → Prop} {gl : Gls} {M : List Nat} {w0 : World} {L : List Ent} {S : St}

theorem V.enter {f : Nat} {args : Array Value} (hf : P.funcs[f]? = some fn) (hb : fn.body = some (bodyOf fn)) (hs : Nat.ble args.size fn.ntmps = true)
    (hg : Gl gl w0) (hd : Dis gl M) (L : List Ent) (hL : Reach M w0 L w0) (h : V P fn R gl M w0 L (start fn args)) : Calls P f args w0 R :=
  calls_of_W hf hb (Nat.le_of_ble_eq_true hs) (h hg hd w0 hL)
/-- a function of which PureFn is to be shown -/
theorem PureFn.enter {f : Nat} {args : Array Value} {v : Value} (hf : P.funcs[f]? = some fn) (hb : fn.body = some (bodyOf fn)) (hs : Nat.ble args.size fn.ntmps = true)
    (h : ∀ w, V P fn (fun e w' => e = .returned v ∧ Reach [] w [] w') gl [] w [] (start fn args)) : PureFn P gl f args v :=
  fun w hg => V.enter hf hb hs hg (Dis.nil gl) [] (Reach.refl w) (h w)
theorem Spec.enter {X : Type} {f : Nat} {args : Array Value} {Pw : World → Prop} {C : List Ent} {val : X → Value} {φ : X → Prop} {C' : X → List Ent}
    (hf : P.funcs[f]? = some fn) (hb : fn.body = some (bodyOf fn)) (hs : Nat.ble args.size fn.ntmps = true)
    (h : ∀ w, Gl gl w → Pw w → V P fn (Post (feet C) w val φ C') gl (feet C) w C (start fn args)) : Spec P gl f args Pw C val φ C' :=
  fun w hg hd ho hp => V.enter hf hb hs hg hd C ho (h w hg hp)

theorem V.adv (h : V P fn R gl M w0 L (A P fn S)) : V P fn R gl M w0 L S := fun hg hd w hw => W.adv (h hg hd w hw)

def resP (P : Program) (fn : Func) (S : St) : Option Value := pureVal P (resF fn S.F)
theorem V.ret (v : Value) (h : atEnd (A P fn S) = true) (hv : resP P fn (A P fn S) = some v) (hR : ∀ w, Reach M w0 L w → R (.returned v) w) : V P fn R gl M w0 L S :=
  V.adv fun _ _ w hw => W.ret h (pureVal_run hv w) (hR w hw)
theorem V.retp {v0 : Value} (v : Value) (h : atEnd (A P fn S) = true) (hv : resP P fn (A P fn S) = some v) (e : v = v0) : V P fn (fun e w' => e = .returned v0 ∧ Reach [] w0 [] w') gl [] w0 L S := by
  subst e
  exact V.ret v h hv fun w hw => ⟨rfl, hw.sub (List.nil_sublist _)⟩

theorem V.retx {X : Type} {val : X → Value} {φ : X → Prop} {L2 : X → List Ent} (x : X) (v : Value) (h : atEnd (A P fn S) = true) (hv : resP P fn (A P fn S) = some v) (e : v = val x) (hφ : φ x)
    (hL : ∀ w, Reach M w0 L w → Reach M w0 (L2 x) w) : V P fn (Post M w0 val φ L2) gl M w0 L S :=
  V.ret v h hv fun w hw => ⟨x, by rw [e], hφ, hL w hw⟩

theorem V.ite (c : Bool) (h : condOf (A P fn S) = some c) (ht : c = true → V P fn R gl M w0 L (br (A P fn S) true)) (hf : c = false → V P fn R gl M w0 L (br (A P fn S) false)) : V P fn R gl M w0 L S :=
  V.adv fun hg hd w hw => W.cond h (by cases c; exact hf rfl hg hd w hw; exact ht rfl hg hd w hw)
theorem V.ifb (c t : Bool) (h : condOf (A P fn S) = some c) (hc : c = t) (k : V P fn R gl M w0 L (br (A P fn S) t)) : V P fn R gl M w0 L S :=
  V.adv fun hg hd w hw => W.cond h (by subst hc; exact k hg hd w hw)
theorem V.grd (t : Nat) (c : Bool) (h : guardOf (A P fn S) = some (t, c)) (ht : c = true → V P fn R gl M w0 L (setG (A P fn S) t true)) (hf : c = false → V P fn R gl M w0 L (setG (A P fn S) t false)) : V P fn R gl M w0 L S :=
  V.adv fun hg hd w hw => W.guard h (by cases c; exact hf rfl hg hd w hw; exact ht rfl hg hd w hw)
theorem V.grdb (t : Nat) (c b : Bool) (h : guardOf (A P fn S) = some (t, c)) (hc : c = b) (k : V P fn R gl M w0 L (setG (A P fn S) t b)) : V P fn R gl M w0 L S :=
  V.adv fun hg hd w hw => W.guard h (by subst hc; exact k hg hd w hw)
/-- a slot's value, said otherwise (here, before anything more is run) -/
def slot (S : St) (t : Nat) : Value := S.F t
def putS (S : St) (t : Nat) (v : Value) : St := ⟨S.todo, upd S.F t v, S.G, S.fl⟩
theorem V.norm (t : Nat) (v v' : Value) (h : slot (A P fn S) t = v) (e : v = v') (k : V P fn R gl M w0 L (putS (A P fn S) t v')) : V P fn R gl M w0 L S :=
  V.adv fun hg hd w hw => W.norm (h.trans e) (k hg hd w hw)

/-! ### what an operation does -/
abbrev Hd := Fr × Option Oper
def headS (n : Nat) (S : St) : Hd := (S.F, opOf n S)
/-- the operation at the head goes through, and K holds of what it yields and of the world then -/
def Does (P : Program) (H : Hd) (w : World) (K : Value → World → Prop) : Prop :=
  ∃ o, H.2 = some o ∧
    ((∃ v w', (execOp (evl H.1) o).run P w = .ok (.value v) w' ∧ K v w') ∨
     (∃ w', (execOp (evl H.1) o).run P w = .ok .skip w' ∧ K undef w') ∨
     (∃ g args w1 R', (execOp (evl H.1) o).run P w = .ok (.enter g args) w1 ∧ Calls P g args w1 R' ∧ ∀ e w', R' e w' → ∃ v, e = .returned v ∧ K v w'))
theorem Does.mono {H : Hd} {w : World} {K K' : Value → World → Prop} (h : Does P H w K) (hk : ∀ v w', K v w' → K' v w') : Does P H w K' := by
  obtain ⟨o, ho, h⟩ := h
  refine ⟨o, ho, ?_⟩
  rcases h with ⟨v, w', h1, h2⟩ | ⟨w', h1, h2⟩ | ⟨g, args, w1, R', h1, h2, h3⟩
  · exact .inl ⟨v, w', h1, hk _ _ h2⟩
  · exact .inr (.inl ⟨w', h1, hk _ _ h2⟩)
  · exact .inr (.inr ⟨g, args, w1, R', h1, h2, fun e w' he => by obtain ⟨v, hv, hK⟩ := h3 e w' he; exact ⟨v, hv, hk _ _ hK⟩⟩)
theorem W.does {n : Nat} {Q : Exit → Act → World → Prop} {ds : List Deferred} {w : World} (h : Does P (headS n S) w (fun v w' => W P Q n ds (nx S v) w')) : W P Q n ds S w := by
  obtain ⟨o, ho, h⟩ := h
  rcases h with ⟨v, w', h1, h2⟩ | ⟨w', h1, h2⟩ | ⟨g, args, w1, R', h1, h2, h3⟩
  · exact W.op ho h1 h2
  · exact W.opSkip ho h1 h2
  · exact W.opEnter ho h1 h2 h3

/-! ### calls -/
def callH (P : Program) (H : Hd) : Option (Nat × Array Value) :=
  match H.2 with
  | none => none
  | some o => match o.op with
    | .call c => match c.callee with
      | .value f => match evl H.1 f with
        | .func fn first captured => match fn with
          | .func g => bif enterB P g then some (g, first ++ c.args.map (evl H.1) ++ captured) else none
          | _ => none
        | _ => none
      | _ => none
    | _ => none
theorem does_call {H : Hd} {g : Nat} {args : Array Value} {w : World} {R' : Ending → World → Prop} {K : Value → World → Prop} (h : callH P H = some (g, args)) (hc : Calls P g args w R')
    (hk : ∀ e w', R' e w' → ∃ v, e = .returned v ∧ K v w') : Does P H w K := by
  obtain ⟨F, o⟩ := H
  unfold callH at h
  cases o with
  | none => cases h
  | some o =>
    refine ⟨o, rfl, .inr (.inr ⟨g, args, w, R', ?_, hc, hk⟩)⟩
    simp only at h ⊢
    split at h
    · rename_i c hop
      split at h
      · rename_i f hcal
        split at h
        · rename_i fn first cap hev
          split at h
          · rename_i g'
            cases he : enterB P g' with
            | false => rw [he] at h; cases h
            | true =>
              rw [he] at h
              simp only [cond_true, Option.some.injEq, Prod.mk.injEq] at h
              obtain ⟨rfl, rfl⟩ := h
              unfold enterB at he
              split at he
              · rename_i fn hfn
                cases hnm : fn.name == "runtime.NumGoroutine" with
                | true => rw [hnm] at he; cases he
                | false =>
                  rw [hnm] at he
                  simp only [cond_false] at he
                  have hno : ¬ fn.body = none := by intro h0; rw [h0] at he; cases he
                  have hnm' : ¬ fn.name = "runtime.NumGoroutine" := by simpa using hnm
                  simp [execOp, hop, resolve, hcal, hev, Deferred.ofValue, invoke, callFunc, program, hfn, hnm', hno, pure, bind, Sem.bind, Sem.run]
              · cases he
          · cases h
        · cases h
      · cases h
    · cases h
theorem Gl.append {gl X : Gls} {w : World} : Gl (gl ++ X) w ↔ Gl gl w ∧ Gl X w := by
  constructor
  · intro h; exact ⟨fun E hE => h E (List.mem_append_left _ hE), fun E hE => h E (List.mem_append_right _ hE)⟩
  · rintro ⟨h1, h2⟩ E hE
    rcases List.mem_append.1 hE with h | h
    · exact h1 E h
    · exact h2 E h
theorem PureFn.weak {X : Gls} {g : Nat} {args : Array Value} {v : Value} (h : PureFn P gl g args v) : PureFn P (gl ++ X) g args v := fun w hg => h w (Gl.append.1 hg).1
theorem Spec.weak {Y : Type} {X : Gls} {g : Nat} {args : Array Value} {Pw : World → Prop} {C : List Ent} {val : Y → Value} {φ : Y → Prop} {C' : Y → List Ent} (h : Spec P gl g args Pw C val φ C') : Spec P (gl ++ X) g args Pw C val φ C' :=
  fun w hg hd => h w (Gl.append.1 hg).1 (fun E hE => hd E (List.mem_append_left _ hE))
/-- the entry with a number; from 1000 on: of those that are only read -/
def lookE (L : List Ent) (gl : Gls) (i : Nat) : Ent := bif Nat.ble 1000 i then gl.getD (i - 1000) (.part 0 0 []) else L.getD i (.part 0 0 [])
def lookOk (L : List Ent) (gl : Gls) (i : Nat) : Bool := bif Nat.ble 1000 i then Nat.blt (i - 1000) gl.length else Nat.blt i L.length
theorem lookE_holds {i : Nat} (ho : lookOk L gl i = true) {w : World} (hg : Gl gl w) (hw : Reach M w0 L w) : (lookE L gl i).holds w := by
  unfold lookOk at ho
  unfold lookE
  cases hi : Nat.ble 1000 i with
  | true =>
    rw [hi] at ho
    have ho : i - 1000 < gl.length := Nat.le_of_ble_eq_true ho
    simp only [cond_true]
    rw [List.getD_eq_getElem?_getD, List.getElem?_eq_getElem ho]
    exact hg _ (List.getElem_mem ho)
  | false =>
    rw [hi] at ho
    have ho : i < L.length := Nat.le_of_ble_eq_true ho
    simp only [cond_false]
    rw [List.getD_eq_getElem?_getD, List.getElem?_eq_getElem ho]
    exact hw.ents _ (List.getElem_mem ho)
def lookL (L : List Ent) (gl : Gls) (is : List Nat) : List Ent := is.map (lookE L gl)
def lookB (L : List Ent) (gl : Gls) (is : List Nat) : Bool := is.all (lookOk L gl)
theorem look_gl {is : List Nat} (ho : lookB L gl is = true) {w : World} (hg : Gl gl w) (hw : Reach M w0 L w) : Gl (lookL L gl is) w := by
  intro E hE
  obtain ⟨i, hi, rfl⟩ := List.mem_map.1 hE
  exact lookE_holds (List.all_eq_true.1 ho i hi) hg hw
theorem does_callp {H : Hd} {g : Nat} {args : Array Value} {v : Value} (hc : PureFn P gl g args v) (h : callH P H = some (g, args)) {w : World} (hg : Gl gl w) (hw : Reach M w0 L w) :
    Does P H w (fun u w' => u = v ∧ Reach M w0 L w') :=
  does_call h (hc w hg) fun e w' he => ⟨v, he.1, rfl, by have := hw.call0 he.2; rwa [List.append_nil] at this⟩
theorem set_split {α : Type} : ∀ {L : List α} {i : Nat} {E : α}, L[i]? = some E → ∃ L1 L3, L = L1 ++ E :: L3 ∧ ∀ E', L.set i E' = L1 ++ E' :: L3
  | [], i, E, h => by simp at h
  | x :: L, 0, E, h => by simp at h; subst h; exact ⟨[], L, rfl, fun _ => rfl⟩
  | x :: L, i + 1, E, h => by
    obtain ⟨L1, L3, e, hs⟩ := set_split (L := L) (i := i) (by simpa using h)
    exact ⟨x :: L1, L3, by rw [e]; rfl, fun E' => by simp [hs]⟩
theorem Reach.set1 {M w0 L w w' E E' L2 b} {i : Nat} (h : Reach M w0 L w) (hi : L[i]? = some E) (hE : E.foot = some b) (k : Reach [b] w (E' :: L2) w') : Reach M w0 (L.set i E' ++ L2) w' := by
  obtain ⟨L1, L3, e, hs⟩ := set_split hi
  rw [hs]
  rw [e] at h
  exact h.call1 hE k
theorem Reach.own {M w0 C Rst w} (h : Reach M w0 (C ++ Rst) w) : Own C w :=
  ⟨rfl, rfl, rfl, Nat.le_refl _, Nat.le_refl _, fun _ _ _ => rfl, fun E hE => h.ents E (by simp [hE]), by have := h.nodup; rw [feet_append] at this; exact (List.nodup_append.1 this).1, fun b hb => .inr hb⟩
theorem Reach.dis {gl : Gls} {M w0 C Rst w} (h : Reach M w0 (C ++ Rst) w) (hg : Gl gl w0) (hd : Dis gl M) : Dis gl (feet C) := fun E hE b hf hb => by
  rcases h.fresh b (by rw [feet_append]; simp [hb]) with h1 | h1
  · have := Ent.lt (hg E hE) hf; omega
  · exact hd E hE b hf h1
/-- a call takes over the entries C and leaves C' -/
theorem Reach.callc {M w0 C Rst w C' w'} (h : Reach M w0 (C ++ Rst) w) (k : Reach (feet C) w C' w') : Reach M w0 (C' ++ Rst) w' := by
  have hnd := h.nodup
  rw [feet_append] at hnd
  obtain ⟨n1, n2, nd⟩ := List.nodup_append.1 hnd
  have hltC : ∀ x ∈ feet C, x < w.heap.size := fun x hx => h.lt (by rw [feet_append]; simp [hx])
  have hltR : ∀ x ∈ feet Rst, x < w.heap.size := fun x hx => h.lt (by rw [feet_append]; simp [hx])
  have hCf : ∀ x ∈ feet C, w0.heap.size ≤ x ∨ x ∈ M := fun x hx => h.fresh x (by rw [feet_append]; simp [hx])
  refine ⟨k.os.trans h.os, k.tape.trans h.tape, k.output.trans h.output, Nat.le_trans h.draws k.draws, Nat.le_trans h.size k.size, fun x hx hM => ?_, fun E hE => ?_, ?_, fun x hx => ?_⟩
  · refine (k.old x (Nat.lt_of_lt_of_le hx h.size) fun hc => ?_).trans (h.old x hx hM)
    rcases hCf x hc with h1 | h1
    · omega
    · exact hM h1
  · rcases List.mem_append.1 hE with hE | hE
    · exact k.ents E hE
    · refine Ent.kept (h.ents E (by simp [hE])) fun b hb => ?_
      have hbR : b ∈ feet Rst := mem_feet.2 ⟨E, hE, hb⟩
      exact k.old b (hltR b hbR) fun hc => nd b hc b hbR rfl
  · rw [feet_append, List.nodup_append]
    refine ⟨k.nodup, n2, fun x hx y hy e => ?_⟩
    subst e
    rcases k.fresh x hx with h1 | h1
    · have := hltR x hy; omega
    · exact nd x h1 x hy rfl
  · rw [feet_append] at hx
    rcases List.mem_append.1 hx with hx | hx
    · rcases k.fresh x hx with h1 | h1
      · exact .inl (Nat.le_trans h.size h1)
      · exact hCf x h1
    · exact h.fresh x (by rw [feet_append]; simp [hx])
theorem does_callc (c : Nat) {X : Type} {Pw : World → Prop} {C : List Ent} {val : X → Value} {φ : X → Prop} {C' : X → List Ent} {H : Hd} {g : Nat} {args : Array Value}
    (hc : Spec P gl g args Pw C val φ C') (hC : L.take c = C) {w : World} (hg : Gl gl w0) (hd : Dis gl M) (hw : Reach M w0 L w) (hp : Pw w) (h : callH P H = some (g, args)) :
    Does P H w (fun u w' => ∃ x, u = val x ∧ φ x ∧ Reach M w0 (C' x ++ L.drop c) w' ∧ Reach (feet C) w (C' x) w') := by
  subst hC
  have hw' : Reach M w0 (L.take c ++ L.drop c) w := by rw [List.take_append_drop]; exact hw
  refine does_call h (hc w (hg.reach hd hw) (hw'.dis hg hd) hw'.own hp) fun e w' he => ?_
  obtain ⟨x, he1, hφ, hr⟩ := he
  exact ⟨val x, he1, x, rfl, hφ, hw'.callc hr, hr⟩

/-! ### new memory -/
def newSem {α : Type} (p : Program) : Sem α → Option (Obj × (Nat → Option α))
  | .new o k => some (o, fun r => pureVal p (k r))
  | .program k => newSem p (k p)
  | .mark _ k => newSem p k
  | _ => none
theorem newSem_run {α : Type} {p : Program} {s : Sem α} : ∀ {o : Obj} {f : Nat → Option α} {x : α} {w : World}, newSem p s = some (o, f) → f w.heap.size = some x → s.run p w = .ok x (w.alloc o) := by
  induction s with
  | new o k ih =>
    intro o' f x w h hx
    simp only [newSem, Option.some.injEq, Prod.mk.injEq] at h
    obtain ⟨rfl, rfl⟩ := h
    exact pureVal_run hx _
  | program k ih => intro o f x w h hx; exact ih p (o := o) (f := f) (x := x) h hx
  | mark m k ih => intro o f x w h hx; exact ih (o := o) (f := f) (x := x) h hx
  | _ => intro o f x w h; cases h
def newH (P : Program) (H : Hd) : Option (Obj × (Nat → Option Next)) :=
  match H.2 with
  | some o => newSem P (execOp (evl H.1) o)
  | none => none
def newObj (P : Program) (H : Hd) : Obj :=
  match newH P H with
  | some (o, _) => o
  | none => .map #[] 0
def newVal (P : Program) (H : Hd) (b : Nat) : Value :=
  match newH P H with
  | some (_, f) => match f b with
    | some (.value v) => v
    | _ => undef
  | none => undef
def newChk (P : Program) (H : Hd) (b : Nat) : Bool :=
  match newH P H with
  | some (_, f) => match f b with
    | some (.value _) => true
    | _ => false
  | none => false
theorem does_new {H : Hd} {w : World} (h : newChk P H w.heap.size = true) (hw : Reach M w0 L w) :
    Does P H w (fun u w' => u = newVal P H w.heap.size ∧ Reach M w0 (L ++ [.blk w.heap.size (newObj P H)]) w') := by
  unfold newChk at h
  have hr : Reach M w0 (L ++ [.blk w.heap.size (newObj P H)]) (w.alloc (newObj P H)) := hw.call0 (Reach.new w _)
  unfold newVal newObj at *
  cases hn : newH P H with
  | none => rw [hn] at h; cases h
  | some of =>
    obtain ⟨o, f⟩ := of
    rw [hn] at h hr
    simp only at h hr ⊢
    cases hf : f w.heap.size with
    | none => rw [hf] at h; cases h
    | some nxt =>
      rw [hf] at h
      cases nxt with
      | value v =>
        unfold newH at hn
        cases ho : H.2 with
        | none => rw [ho] at hn; cases hn
        | some op =>
          rw [ho] at hn
          exact ⟨op, ho, .inl ⟨v, _, newSem_run hn hf, rfl, hr⟩⟩
      | _ => cases h

/-! ### loads and stores -/
def isRow (P : Program) (t : TypeId) : Option Bool :=
  match P.underlying t with
  | some (.struct _) => some true
  | some (.array _ _) => some true
  | some _ => some false
  | none => none
def sizeP (P : Program) (t : TypeId) : Nat := match P.info? t with | some i => i.size | none => 0
def hasT (P : Program) (t : TypeId) : Bool := (P.info? t).isSome
theorem run_isAgg' {P : Program} {t : TypeId} {b : Bool} (h : isRow P t = some b) (w : World) : (isAgg t).run P w = .ok b w := by
  unfold isRow at h
  unfold isAgg
  split at h <;> rename_i hu
  · cases h; rw [Sem.run_bind, run_underlying hu w]; rfl
  · cases h; rw [Sem.run_bind, run_underlying hu w]; rfl
  · cases h; rw [Sem.run_bind, run_underlying hu w]; rename_i d h1 h2; cases d <;> first | rfl | exact absurd rfl (h1 _) | exact absurd rfl (h2 _ _)
  · cases h
theorem run_sizeOf' {P : Program} {t : TypeId} (h : hasT P t = true) (w : World) : (sizeOf t).run P w = .ok (sizeP P t) w := by
  unfold hasT at h
  unfold sizeOf typeInfo sizeP
  cases hi : P.info? t with
  | none => rw [hi] at h; cases h
  | some i =>
    rw [Sem.run_bind, Sem.run_bind]
    show (Sem.run P (match P.info? t with | some i => pure i | none => stuck "no such type") w).andThen _ = _
    rw [hi]
    rfl
theorem add_mk (b o j : Nat) : (⟨b, o, none⟩ : Addr).add j = ⟨b, o + j, none⟩ := by unfold Addr.add; split <;> simp_all

/-- the value of a variable of type t that begins at cell o -/
def valAt (P : Program) (t : TypeId) (cs : Array Value) (o : Nat) : Value :=
  match isRow P t with
  | some true => .agg (cs.extract o (o + sizeP P t))
  | _ => cs.getD o undef
def valOk (P : Program) (t : TypeId) (len o : Nat) : Bool :=
  match isRow P t with
  | some true => bif hasT P t then Nat.ble (o + sizeP P t) len else false
  | some false => Nat.blt o len
  | none => false
theorem run_loadVar_at {t : TypeId} {w : World} {b o : Nat} {cs : Array Value} {T : TypeId} {fr : Nat × Nat} (hb : w.heap[b]? = some (.cells cs T fr)) (hk : valOk P t cs.size o = true) :
    (loadVar t ⟨b, o, none⟩).run P w = .ok (valAt P t cs o) w := by
  unfold valOk at hk
  unfold valAt
  split at hk
  · rename_i ha
    rw [ha]
    simp only
    cases ht : hasT P t with
    | false => rw [ht] at hk; cases hk
    | true =>
      rw [ht] at hk
      have hle : o + sizeP P t ≤ cs.size := Nat.le_of_ble_eq_true hk
      have hl := run_loadCells_list (P := P) w ⟨b, o, none⟩ (cs.extract o (o + sizeP P t)).toList (fun j v hv => by
        rw [add_mk, cell_of_row w b (o + j) cs T fr hb]
        rw [Array.getElem?_toList] at hv
        rw [Array.getElem?_extract] at hv
        split at hv
        · exact hv
        · cases hv)
      have hlen : (cs.extract o (o + sizeP P t)).toList.length = sizeP P t := by simp; omega
      rw [hlen] at hl
      simp only [Array.toArray_toList] at hl
      unfold loadVar
      rw [Sem.run_bind, run_isAgg' ha]
      simp only [Result.andThen_ok, if_true]
      rw [Sem.run_bind, run_sizeOf' ht]
      simp only [Result.andThen_ok]
      rw [Sem.run_bind, hl]
      rfl
  · rename_i ha
    rw [ha]
    simp only
    have hlt : o < cs.size := Nat.le_of_ble_eq_true hk
    unfold loadVar
    rw [Sem.run_bind, run_isAgg' ha]
    simp only [Result.andThen_ok, Bool.false_eq_true, if_false]
    rw [run_load, cell_of_row w b o cs T fr hb]
    simp [hlt]
  · cases hk

def loadH (H : Hd) : Option (Addr × TypeId) :=
  match H.2 with
  | none => none
  | some o => match o.op with
    | .load t x => match evl H.1 x with
      | .pointer (some a) => some (a, t)
      | _ => none
    | _ => none
theorem load_run {H : Hd} {w : World} {ad : Addr} {t : TypeId} {v : Value} (h : loadH H = some (ad, t)) (hv : (loadVar t ad).run P w = .ok v w) :
    ∃ o, H.2 = some o ∧ (execOp (evl H.1) o).run P w = .ok (.value v) w := by
  obtain ⟨F, o⟩ := H
  unfold loadH at h
  cases o with
  | none => cases h
  | some o =>
    refine ⟨o, rfl, ?_⟩
    simp only at h ⊢
    split at h
    · rename_i t' x hop
      split at h
      · rename_i a hev
        cases h
        have he : execOp (evl F) o = (do pure (.value (← loadVar t ad)) : Sem Next) := by
          simp [execOp, hop, hev, Instr.loadAt, Instr.sureAddr, pure, bind, Sem.bind]
        rw [he, Sem.run_bind, hv]
        rfl
      · cases h
    · cases h
theorem does_load {H : Hd} {w : World} {ad : Addr} {t : TypeId} {v : Value} (h : loadH H = some (ad, t)) (hv : (loadVar t ad).run P w = .ok v w) : Does P H w (fun u w' => u = v ∧ w' = w) := by
  obtain ⟨o, ho, hr⟩ := load_run h hv
  exact ⟨o, ho, .inl ⟨v, w, hr, rfl, rfl⟩⟩

def entB (L : List Ent) (i : Nat) : Nat := match L[i]? with | some (.blk b _) => b | _ => 0
def entC (L : List Ent) (i : Nat) : Array Value := match L[i]? with | some (.blk _ (.cells cs _ _)) => cs | _ => #[]
def entT (L : List Ent) (i : Nat) : TypeId := match L[i]? with | some (.blk _ (.cells _ T _)) => T | _ => 0
def entOk (L : List Ent) (i : Nat) : Bool := match L[i]? with | some (.blk _ (.cells _ _ fr)) => bif Nat.beq fr.1 0 then Nat.beq fr.2 0 else false | _ => false
theorem entOk_spec {L : List Ent} {i : Nat} (h : entOk L i = true) : L[i]? = some (.blk (entB L i) (.cells (entC L i) (entT L i) (0, 0))) := by
  unfold entOk at h
  split at h
  · rename_i b cs T fr hl
    obtain ⟨x, y⟩ := fr
    simp only at h
    cases hx : Nat.beq x 0 with
    | false => rw [hx] at h; cases h
    | true =>
      rw [hx] at h
      have h1 : x = 0 := Nat.eq_of_beq_eq_true hx
      have h2 : y = 0 := Nat.eq_of_beq_eq_true h
      subst h1; subst h2
      simp [entB, entC, entT, hl]
  · cases h
theorem Reach.blk {M w0 L w} (h : Reach M w0 L w) {i b : Nat} {o : Obj} (hi : L[i]? = some (.blk b o)) : w.heap[b]? = some o := h.ents _ (List.mem_of_getElem? hi)

def storeH (H : Hd) : Option (Addr × TypeId × Value) :=
  match H.2 with
  | none => none
  | some o => match o.op with
    | .store t x v => match evl H.1 x with
      | .pointer (some a) => some (a, t, evl H.1 v)
      | _ => none
    | _ => none
def spl (cs : Array Value) (o : Nat) (vs : Array Value) : Array Value := (cs.toList.take o ++ vs.toList ++ cs.toList.drop (o + vs.size)).toArray
def oneAll : List Value → Bool
  | [] => true
  | v :: l => bif v.oneCell' then oneAll l else false
theorem oneAll_spec : ∀ {l : List Value}, oneAll l = true → ∀ v ∈ l, v.oneCell' = true
  | [], _, v, hv => by simp at hv
  | x :: l, h, v, hv => by
    simp only [oneAll] at h
    cases hx : x.oneCell' with
    | false => rw [hx] at h; cases h
    | true =>
      rw [hx] at h
      rcases List.mem_cons.1 hv with rfl | hv
      · exact hx
      · exact oneAll_spec h v hv
theorem run_storeVar_at {t : TypeId} {w : World} {b o : Nat} {cs : Array Value} {T : TypeId} {v : Value} (hb : w.heap[b]? = some (.cells cs T (0, 0))) (ht : hasT P t = true) (hs : v.cells.size = sizeP P t)
    (hle : o + sizeP P t ≤ cs.size) (h1 : ∀ u ∈ v.cells.toList, u.oneCell' = true) : (storeVar t ⟨b, o, none⟩ v).run P w = .ok () (w.setRow b (spl cs o v.cells)) := by
  have hst := run_storeCells_at P b o T v.cells.toList 0 cs w hb (by rw [Array.length_toList, hs]; exact hle) h1
  unfold storeVar
  rw [Sem.run_bind, run_sizeOf' ht]
  simp only [Result.andThen_ok]
  rw [if_neg (by rw [hs]; exact fun h => h rfl), hst]
  simp [spl]
theorem Reach.setRow {w : World} {b : Nat} {cs cs' : Array Value} {T : TypeId} (hb : w.heap[b]? = some (.cells cs T (0, 0))) : Reach [b] w [.blk b (.cells cs' T (0, 0))] (w.setRow b cs') := by
  refine ⟨rfl, rfl, rfl, Nat.le_refl _, by simp, fun x hx hM => setRow_other w b x cs' (by simpa using hM), ?_, by simp [feet, Ent.foot], by simp [feet, Ent.foot]⟩
  intro E hE
  simp only [List.mem_singleton] at hE
  subst hE
  exact setRow_heap w b cs cs' T (0, 0) hb
def storeOff (H : Hd) : Nat := match storeH H with | some (a, _) => a.off | none => 0
def storeT (H : Hd) : TypeId := match storeH H with | some (_, t, _) => t | none => 0
def storeV (H : Hd) : Value := match storeH H with | some (_, _, v) => v | none => undef
def storeOut (H : Hd) (cs : Array Value) : Array Value := spl cs (storeOff H) (storeV H).cells
def storeChk (P : Program) (H : Hd) (len : Nat) : Bool :=
  bif hasT P (storeT H) then bif Nat.beq (storeV H).cells.size (sizeP P (storeT H)) then bif Nat.ble (storeOff H + sizeP P (storeT H)) len then oneAll (storeV H).cells.toList else false else false else false
theorem storeChk_spec {H : Hd} {len : Nat} (h : storeChk P H len = true) :
    hasT P (storeT H) = true ∧ (storeV H).cells.size = sizeP P (storeT H) ∧ storeOff H + sizeP P (storeT H) ≤ len ∧ ∀ u ∈ (storeV H).cells.toList, u.oneCell' = true := by
  unfold storeChk at h
  cases h1 : hasT P (storeT H) with
  | false => rw [h1] at h; cases h
  | true =>
    rw [h1] at h
    cases h2 : Nat.beq (storeV H).cells.size (sizeP P (storeT H)) with
    | false => rw [h2] at h; cases h
    | true =>
      rw [h2] at h
      cases h3 : Nat.ble (storeOff H + sizeP P (storeT H)) len with
      | false => rw [h3] at h; cases h
      | true =>
        rw [h3] at h
        exact ⟨rfl, Nat.eq_of_beq_eq_true h2, Nat.le_of_ble_eq_true h3, oneAll_spec h⟩
/-- a store into cells that one knows -/
theorem does_storef {H : Hd} {w w' : World} {ad : Addr} {t : TypeId} {v : Value} (h : storeH H = some (ad, t, v)) (hv : (storeVar t ad v).run P w = .ok () w') :
    Does P H w (fun u w1 => u = undef ∧ w1 = w') := by
  obtain ⟨F, o⟩ := H
  unfold storeH at h
  cases o with
  | none => cases h
  | some o =>
    refine ⟨o, rfl, .inr (.inl ⟨w', ?_, rfl, rfl⟩)⟩
    simp only at h ⊢
    split at h
    · rename_i t' x v' hop
      split at h
      · rename_i a hev
        cases h
        have he : execOp (evl F) o = (do storeVar t ad (evl F v'); pure .skip : Sem Next) := by
          simp [execOp, hop, hev, Instr.storeAt, Instr.sureAddr, pure, bind, Sem.bind]
        rw [he, Sem.run_bind, hv]
        rfl
      · cases h
    · cases h
theorem does_store {H : Hd} {w : World} (i : Nat) (he : entOk L i = true) (h : storeH H = some (⟨entB L i, storeOff H, none⟩, storeT H, storeV H)) (hk : storeChk P H (entC L i).size = true) (hw : Reach M w0 L w) :
    Does P H w (fun u w' => u = undef ∧ Reach M w0 (L.set i (.blk (entB L i) (.cells (storeOut H (entC L i)) (entT L i) (0, 0)))) w') := by
  obtain ⟨k1, k2, k3, k4⟩ := storeChk_spec hk
  have hb := hw.blk (entOk_spec he)
  refine (does_storef h (run_storeVar_at hb k1 k2 k3 k4)).mono ?_
  rintro u w' ⟨rfl, rfl⟩
  refine ⟨rfl, ?_⟩
  have := hw.set1 (entOk_spec he) rfl (Reach.setRow (w := w) (cs' := storeOut H (entC L i)) hb)
  rwa [List.append_nil] at this

/-! ### indexes -/
def idxH (P : Program) (H : Hd) : Option (Option Addr × Nat × Value × Nat) :=
  match H.2 with
  | none => none
  | some o => match o.op with
    | .indexAddr t x i => match P.underlying t with
      | some (.slice e) => match evl H.1 x with
        | .slice a len _ => bif hasT P e then some (a, len, evl H.1 i, sizeP P e) else none
        | _ => none
      | some (.array len e) => match evl H.1 x with
        | .pointer (some a) => bif hasT P e then some (some a, len, evl H.1 i, sizeP P e) else none
        | _ => none
      | _ => none
    | _ => none
theorem idx_run {H : Hd} {w : World} {b o len size j : Nat} {kd : IntKind} (h : idxH P H = some (some ⟨b, o, none⟩, len, .int kd (j : Int), size)) (hj : j < len) :
    ∃ op, H.2 = some op ∧ (execOp (evl H.1) op).run P w = .ok (.value (.pointer (some ⟨b, o + j * size, none⟩))) w := by
  obtain ⟨F, op⟩ := H
  unfold idxH at h
  cases op with
  | none => cases h
  | some op =>
    refine ⟨op, rfl, ?_⟩
    simp only at h ⊢
    split at h
    · rename_i t x i hop
      split at h
      · rename_i e hu
        split at h
        · rename_i ad l c hx
          cases ht : hasT P e with
          | false => rw [ht] at h; cases h
          | true =>
            rw [ht] at h
            simp only [cond_true, Option.some.injEq, Prod.mk.injEq] at h
            obtain ⟨rfl, rfl, hi, rfl⟩ := h
            have h1 : (0 : Int) ≤ (j : Int) ∧ (j : Int) < (l : Int) := ⟨by omega, by omega⟩
            simp only [execOp, hop, Instr.indexAt, hx, hi, asIntOf]
            simp [Sem.run_bind, run_underlying hu w, h1, run_sizeOf' ht, add_mk, hj]
        · cases h
      · rename_i l e hu
        split at h
        · rename_i ad hx
          cases ht : hasT P e with
          | false => rw [ht] at h; cases h
          | true =>
            rw [ht] at h
            simp only [cond_true, Option.some.injEq, Prod.mk.injEq] at h
            obtain ⟨rfl, rfl, hi, rfl⟩ := h
            have h1 : (0 : Int) ≤ (j : Int) ∧ (j : Int) < (l : Int) := ⟨by omega, by omega⟩
            simp only [execOp, hop, Instr.indexAt, hx, hi, asIntOf, Instr.sureAddr]
            simp [Sem.run_bind, run_underlying hu w, h1, run_sizeOf' ht, add_mk, hj]
        · cases h
      · cases h
    · cases h

/-! ### the events of a walk in the text's order -/
theorem V.does (k : Gl gl w0 → Dis gl M → ∀ w, Reach M w0 L w → Does P (headS fn.ntmps (A P fn S)) w (fun v w' => W P (bPost P fn R) fn.ntmps [] (nx (A P fn S) v) w')) : V P fn R gl M w0 L S :=
  V.adv fun hg hd w hw => W.does (k hg hd w hw)
theorem V.callp {g : Nat} {args : Array Value} {v : Value} (hc : PureFn P gl g args v) (h : callH P (headS fn.ntmps (A P fn S)) = some (g, args))
    (k : V P fn R gl M w0 L (nx (A P fn S) v)) : V P fn R gl M w0 L S :=
  V.does fun hg hd _ hw => (does_callp hc h (hg.reach hd hw) hw).mono fun _ w' hu => by obtain ⟨rfl, hr⟩ := hu; exact k hg hd w' hr
/-- a call that takes over the first c entries -/
theorem V.callc (c : Nat) {X : Type} {Pw : World → Prop} {C : List Ent} {val : X → Value} {φ : X → Prop} {C' : X → List Ent} {g : Nat} {args : Array Value}
    (hc : Spec P gl g args Pw C val φ C') (hC : L.take c = C) (h : callH P (headS fn.ntmps (A P fn S)) = some (g, args)) (hp : ∀ w, Reach M w0 L w → Pw w)
    (k : ∀ x, φ x → V P fn R gl M w0 (C' x ++ L.drop c) (nx (A P fn S) (val x))) : V P fn R gl M w0 L S :=
  V.does fun hg hd w hw => (does_callc c hc hC hg hd hw (hp w hw) h).mono fun _ w' hu => by obtain ⟨x, rfl, hφ, hr, _⟩ := hu; exact k x hφ hg hd w' hr
theorem V.new (h : ∀ b, newChk P (headS fn.ntmps (A P fn S)) b = true)
    (k : ∀ b, V P fn R gl M w0 (L ++ [.blk b (newObj P (headS fn.ntmps (A P fn S)))]) (nx (A P fn S) (newVal P (headS fn.ntmps (A P fn S)) b))) : V P fn R gl M w0 L S :=
  V.does fun hg hd _ hw => (does_new (h _) hw).mono fun _ w' hu => by obtain ⟨rfl, hr⟩ := hu; exact k _ hg hd w' hr
/-- a load of which one knows what it gives -/
theorem V.loadf (ad : Addr) (t : TypeId) (v : Value) (h : loadH (headS fn.ntmps (A P fn S)) = some (ad, t)) (hv : Gl gl w0 → ∀ w, Reach M w0 L w → (loadVar t ad).run P w = .ok v w)
    (k : V P fn R gl M w0 L (nx (A P fn S) v)) : V P fn R gl M w0 L S :=
  V.does fun hg hd w hw => (does_load h (hv hg w hw)).mono fun _ w' hu => by obtain ⟨rfl, rfl⟩ := hu; exact k hg hd _ hw
theorem V.store (i : Nat) (he : entOk L i = true)
    (h : storeH (headS fn.ntmps (A P fn S)) = some (⟨entB L i, storeOff (headS fn.ntmps (A P fn S)), none⟩, storeT (headS fn.ntmps (A P fn S)), storeV (headS fn.ntmps (A P fn S))))
    (hk : storeChk P (headS fn.ntmps (A P fn S)) (entC L i).size = true)
    (k : V P fn R gl M w0 (L.set i (.blk (entB L i) (.cells (storeOut (headS fn.ntmps (A P fn S)) (entC L i)) (entT L i) (0, 0)))) (nx (A P fn S) undef)) : V P fn R gl M w0 L S :=
  V.does fun hg hd _ hw => (does_store i he h hk hw).mono fun _ w' hu => by obtain ⟨rfl, hr⟩ := hu; exact k hg hd w' hr
theorem V.idx (b o len size j : Nat) (kd : IntKind) (h : idxH P (headS fn.ntmps (A P fn S)) = some (some ⟨b, o, none⟩, len, .int kd (j : Int), size)) (hj : j < len)
    (k : V P fn R gl M w0 L (nx (A P fn S) (.pointer (some ⟨b, o + j * size, none⟩)))) : V P fn R gl M w0 L S :=
  V.does fun hg hd w hw => by obtain ⟨op, ho, hr⟩ := idx_run (w := w) h hj; exact ⟨op, ho, .inl ⟨_, w, hr, k hg hd w hw⟩⟩
/-- an operation of which one knows what it does -/
theorem V.run (o : Oper) (v : Value) {L' : List Ent} (h : (headS fn.ntmps (A P fn S)).2 = some o) (hv : ∀ w, Reach M w0 L w → ∃ w', (execOp (evl (headS fn.ntmps (A P fn S)).1) o).run P w = .ok (.value v) w' ∧ Reach M w0 L' w')
    (k : V P fn R gl M w0 L' (nx (A P fn S) v)) : V P fn R gl M w0 L S :=
  V.does fun hg hd w hw => by obtain ⟨w', h1, h2⟩ := hv w hw; exact ⟨o, h, .inl ⟨v, w', h1, k hg hd w' h2⟩⟩

/-! ### many loads of known blocks at once -/
/-- the entry with a number; from 1000 on: the package-level variables -/
def entAny (L : List Ent) (gl : Gls) (i : Nat) : Option (Nat × Array Value) :=
  bif Nat.ble 1000 i then
    match gl[i - 1000]? with
    | some (.blk b (.cells cs _ _)) => some (b, cs)
    | _ => none
  else bif entOk L i then some (entB L i, entC L i) else none
theorem entAny_spec {L : List Ent} {gl : Gls} {i b : Nat} {cs : Array Value} (h : entAny L gl i = some (b, cs)) {w : World} (hg : Gl gl w) (hw : Reach M w0 L w) :
    ∃ T fr, w.heap[b]? = some (.cells cs T fr) := by
  unfold entAny at h
  cases hi : Nat.ble 1000 i with
  | true =>
    rw [hi] at h
    simp only [cond_true] at h
    split at h
    · rename_i b' cs' T fr hl
      cases h
      exact ⟨T, fr, hg _ (List.mem_of_getElem? hl)⟩
    · cases h
  | false =>
    rw [hi] at h
    simp only [cond_false] at h
    cases he : entOk L i with
    | false => rw [he] at h; cases h
    | true =>
      rw [he] at h
      simp only [cond_true, Option.some.injEq, Prod.mk.injEq] at h
      obtain ⟨rfl, rfl⟩ := h
      exact ⟨_, _, hw.blk (entOk_spec he)⟩
/-- the block of a slice -/
def ownB (v : Value) : Nat := match v.ownBlock with | some b => b | none => 0
/-- from 2000 on: a part of what is only read, 1000 for each cell further on; from 500 on: the element of a row of L, 100 for each cell further on -/
def partAny (L : List Ent) (gl : Gls) (i : Nat) : Option (Nat × Nat × Array Value × Nat) :=
  bif Nat.ble 2000 i then
    match gl[i % 1000]? with
    | some (.part b o cs) => some (b, o, cs.toArray, i / 1000 - 2)
    | _ => none
  else bif Nat.ble 1000 i then none else bif Nat.ble 500 i then
    match L[i % 100]? with
    | some (.rowf v _ _ _ _ o cs) => some (ownB v, o, cs.toArray, i / 100 - 5)
    | _ => none
  else none
theorem rowf_cell {w : World} {v : Value} {e size n o : Nat} {xs cs : List Value} (h : (Ent.rowf v e size n xs o cs).holds w) {j : Nat} {x : Value} (hx : cs[j]? = some x) : w.cell? ⟨ownB v, o + j, none⟩ = some x := by
  obtain ⟨h1, h2, h3, h4⟩ := h
  rcases h1.2 with ⟨_, h0⟩ | ⟨g, cap, cur, rfl, _, hb, _, _, _, ht⟩
  · omega
  · show w.cell? ⟨g, o + j, none⟩ = some x
    rw [cell_of_row w g (o + j) cur e (0, 0) hb]
    rw [← h4, List.getElem?_take] at hx
    split at hx
    · rw [List.getElem?_drop, ← ht, List.getElem?_take] at hx
      split at hx
      · rwa [Array.getElem?_toList] at hx
      · cases hx
    · cases hx
theorem partAny_spec {L : List Ent} {gl : Gls} {i b o k : Nat} {cs : Array Value} (h : partAny L gl i = some (b, o, cs, k)) {w : World} (hg : Gl gl w) (hw : Reach M w0 L w) :
    ∀ j x, cs[j]? = some x → w.cell? ⟨b, o + j, none⟩ = some x := by
  unfold partAny at h
  cases hi : Nat.ble 2000 i with
  | false =>
    rw [hi] at h
    simp only [cond_false] at h
    cases h1 : Nat.ble 1000 i with
    | true => rw [h1] at h; cases h
    | false =>
      rw [h1] at h
      simp only [cond_false] at h
      cases h2 : Nat.ble 500 i with
      | false => rw [h2] at h; cases h
      | true =>
        rw [h2] at h
        simp only [cond_true] at h
        split at h
        · rename_i v e size n xs o' cs' hl
          cases h
          intro j x hx
          exact rowf_cell (hw.ents _ (List.mem_of_getElem? hl)) (by simpa using hx)
        · cases h
  | true =>
    rw [hi] at h
    simp only [cond_true] at h
    split at h
    · rename_i b' o' cs' hl
      cases h
      intro j x hx
      exact (hg _ (List.mem_of_getElem? hl)).2 j x (by simpa using hx)
    · cases h
theorem run_loadVar_part {t : TypeId} {w : World} {b o k : Nat} {cs : Array Value} (hb : ∀ j x, cs[j]? = some x → w.cell? ⟨b, o + j, none⟩ = some x) (hk : valOk P t cs.size k = true) :
    (loadVar t ⟨b, o + k, none⟩).run P w = .ok (valAt P t cs k) w := by
  unfold valOk at hk
  unfold valAt
  split at hk
  · rename_i ha
    rw [ha]
    simp only
    cases ht : hasT P t with
    | false => rw [ht] at hk; cases hk
    | true =>
      rw [ht] at hk
      have hle : k + sizeP P t ≤ cs.size := Nat.le_of_ble_eq_true hk
      have hl := run_loadCells_list (P := P) w ⟨b, o + k, none⟩ (cs.extract k (k + sizeP P t)).toList (fun j v hv => by
        rw [add_mk, Nat.add_assoc]
        rw [Array.getElem?_toList] at hv
        rw [Array.getElem?_extract] at hv
        split at hv
        · exact hb _ _ hv
        · cases hv)
      have hlen : (cs.extract k (k + sizeP P t)).toList.length = sizeP P t := by simp; omega
      rw [hlen] at hl
      simp only [Array.toArray_toList] at hl
      unfold loadVar
      rw [Sem.run_bind, run_isAgg' ha]
      simp only [Result.andThen_ok, if_true]
      rw [Sem.run_bind, run_sizeOf' ht]
      simp only [Result.andThen_ok]
      rw [Sem.run_bind, hl]
      rfl
  · rename_i ha
    rw [ha]
    simp only
    have hlt : k < cs.size := Nat.le_of_ble_eq_true hk
    unfold loadVar
    rw [Sem.run_bind, run_isAgg' ha]
    simp only [Result.andThen_ok, Bool.false_eq_true, if_false]
    rw [run_load, hb k cs[k] (by simp [hlt])]
    simp [hlt]
  · cases hk
def load1 (P : Program) (L : List Ent) (gl : Gls) (H : Hd) (i : Nat) : Option (Value × Addr × Addr) :=
  match loadH H with
  | some (a, t) => match partAny L gl i with
    | some (b, o, cs, k) => bif valOk P t cs.size k then some (valAt P t cs k, a, ⟨b, o + k, none⟩) else none
    | none => match entAny L gl i with
      | some (b, cs) => bif valOk P t cs.size a.off then some (valAt P t cs a.off, a, ⟨b, a.off, none⟩) else none
      | none => none
  | none => none
theorem load1_run {H : Hd} {i : Nat} {v : Value} {a a' : Addr} {w : World} (h : load1 P L gl H i = some (v, a, a')) (e : a = a') (hg : Gl gl w) (hw : Reach M w0 L w) :
    ∃ o, H.2 = some o ∧ (execOp (evl H.1) o).run P w = .ok (.value v) w := by
  unfold load1 at h
  split at h
  · rename_i ad t hl
    split at h
    · rename_i b o cs k he
      cases h2 : valOk P t cs.size k with
      | false => rw [h2] at h; cases h
      | true =>
        rw [h2] at h
        simp only [cond_true, Option.some.injEq, Prod.mk.injEq] at h
        obtain ⟨rfl, rfl, rfl⟩ := h
        refine load_run hl ?_
        rw [e]
        exact run_loadVar_part (partAny_spec he hg hw) h2
    · split at h
      · rename_i b cs he
        cases h2 : valOk P t cs.size ad.off with
        | false => rw [h2] at h; cases h
        | true =>
          rw [h2] at h
          simp only [cond_true, Option.some.injEq, Prod.mk.injEq] at h
          obtain ⟨rfl, rfl, rfl⟩ := h
          obtain ⟨T, fr, hb⟩ := entAny_spec he hg hw
          refine load_run hl ?_
          rw [e]
          exact run_loadVar_at hb h2
      · cases h
  · cases h
/-- goes on, taking each load's value from the entry that the list names; what is owed: that the addresses are these -/
noncomputable def advL (P : Program) (n : Nat) (L : List Ent) (gl : Gls) (is : List Nat) : St → St × List (Addr × Addr) :=
  List.rec (motive := fun _ => St → St × List (Addr × Addr)) (fun S => (S, []))
    (fun i _ ih S => match load1 P L gl (headS n (adv P n 5000 S)) i with
      | some (v, a, a') => match ih (nx (adv P n 5000 S) v) with
        | (S', l) => (S', (a, a') :: l)
      | none => (adv P n 5000 S, [])) is
theorem W.advL {n : Nat} {Q : Exit → Act → World → Prop} {ds : List Deferred} {w : World} {is : List Nat} (hg : Gl gl w) (hw : Reach M w0 L w) : ∀ {S : St}, (advL P n L gl is S).2.map Prod.fst = (advL P n L gl is S).2.map Prod.snd →
    W P Q n ds (advL P n L gl is S).1 w → W P Q n ds S w := by
  induction is with
  | nil => intro S _ h; exact h
  | cons i is ih =>
    intro S he h
    have hd : Ev.advL P n L gl (i :: is) S = (match load1 P L gl (headS n (Ev.adv P n 5000 S)) i with
      | some (v, a, a') => match Ev.advL P n L gl is (nx (Ev.adv P n 5000 S) v) with
        | (S', l) => (S', (a, a') :: l)
      | none => (Ev.adv P n 5000 S, [])) := rfl
    rw [hd] at he h
    cases hl : load1 P L gl (headS n (Ev.adv P n 5000 S)) i with
    | none => rw [hl] at h; exact W.adv h
    | some r =>
      obtain ⟨v, a, a'⟩ := r
      rw [hl] at he h
      simp only [List.map_cons, List.cons.injEq] at he
      obtain ⟨o, ho, hr⟩ := load1_run hl he.1 hg hw
      exact W.adv (W.does ⟨o, ho, .inl ⟨v, w, hr, ih he.2 h⟩⟩)
noncomputable def advS (P : Program) (n : Nat) (L : List Ent) (gl : Gls) (is : List Nat) (S : St) : St := (advL P n L gl is S).1
noncomputable def advX (P : Program) (n : Nat) (L : List Ent) (gl : Gls) (is : List Nat) (S : St) : List Addr := (advL P n L gl is S).2.map Prod.fst
noncomputable def advY (P : Program) (n : Nat) (L : List Ent) (gl : Gls) (is : List Nat) (S : St) : List Addr := (advL P n L gl is S).2.map Prod.snd
theorem V.loads (is : List Nat) (he : advX P fn.ntmps L gl is S = advY P fn.ntmps L gl is S) (k : V P fn R gl M w0 L (advS P fn.ntmps L gl is S)) : V P fn R gl M w0 L S :=
  fun hg hd w hw => W.advL (hg.reach hd hw) hw he (k hg hd w hw)

/-! ### results that lie in memory -/
def simL {α : Type} (P : Program) (L : List Ent) (gl : Gls) : Sem α → List Nat → Option (α × List (Addr × Addr))
  | .pure a, _ => some (a, [])
  | .program k, is => simL P L gl (k P) is
  | .load _ a k, is => match is with
    | [] => none
    | i :: is => match entAny L gl i with
      | some (b, cs) => bif Nat.blt a.off cs.size then
          match simL P L gl (k (cs.getD a.off undef)) is with
          | some (x, l) => some (x, (a, ⟨b, a.off, none⟩) :: l)
          | none => none
        else none
      | none => none
  | _, _ => none
theorem simL_run {α : Type} {s : Sem α} {w : World} (hg : Gl gl w) (hw : Reach M w0 L w) : ∀ {is : List Nat} {x : α} {l : List (Addr × Addr)}, simL P L gl s is = some (x, l) → l.map Prod.fst = l.map Prod.snd → s.run P w = .ok x w := by
  induction s with
  | pure a => intro is x l h _; simp only [simL, Option.some.injEq, Prod.mk.injEq] at h; obtain ⟨rfl, _⟩ := h; rfl
  | program k ih => intro is x l h he; exact ih P h he
  | load m a k ih =>
    intro is x l h he
    cases is with
    | nil => cases h
    | cons i is =>
      simp only [simL] at h
      split at h
      · rename_i b cs hb
        cases hlt : Nat.blt a.off cs.size with
        | false => rw [hlt] at h; cases h
        | true =>
          rw [hlt] at h
          simp only [cond_true] at h
          split at h
          · rename_i x' l' hx
            cases h
            simp only [List.map_cons, List.cons.injEq] at he
            obtain ⟨T, fr, hh⟩ := entAny_spec hb hg hw
            have hc : w.cell? a = some (cs.getD a.off undef) := by
              rw [he.1, cell_of_row w b a.off cs T fr hh]
              have : a.off < cs.size := Nat.le_of_ble_eq_true hlt
              simp [this]
            simp only [Sem.run, hc]
            exact ih _ hx he.2
          · cases h
      · cases h
  | _ => intro is x l h; cases h
def resL (P : Program) (fn : Func) (L : List Ent) (gl : Gls) (is : List Nat) (S : St) : Option Value := match simL P L gl (resF fn S.F) is with | some (v, _) => some v | none => none
def resX (P : Program) (fn : Func) (L : List Ent) (gl : Gls) (is : List Nat) (S : St) : List Addr := match simL P L gl (resF fn S.F) is with | some (_, l) => l.map Prod.fst | none => []
def resY (P : Program) (fn : Func) (L : List Ent) (gl : Gls) (is : List Nat) (S : St) : List Addr := match simL P L gl (resF fn S.F) is with | some (_, l) => l.map Prod.snd | none => []
/-- the function ends; its results' cells lie in the entries that the list names (one number a cell) -/
theorem V.retl (is : List Nat) (v : Value) (h : atEnd (A P fn S) = true) (hv : resL P fn L gl is (A P fn S) = some v) (he : resX P fn L gl is (A P fn S) = resY P fn L gl is (A P fn S))
    (hR : ∀ w, Reach M w0 L w → R (.returned v) w) : V P fn R gl M w0 L S :=
  V.adv fun hg hd w hw => by
    unfold resL at hv
    unfold resX resY at he
    cases hs : simL P L gl (resF fn (A P fn S).F) is with
    | none => rw [hs] at hv; cases hv
    | some r =>
      obtain ⟨v', l⟩ := r
      rw [hs] at hv he
      cases hv
      exact W.ret h (simL_run (hg.reach hd hw) hw hs he) (hR w hw)
theorem V.retlp {v0 : Value} (is : List Nat) (v : Value) (h : atEnd (A P fn S) = true) (hv : resL P fn L gl is (A P fn S) = some v) (he : resX P fn L gl is (A P fn S) = resY P fn L gl is (A P fn S))
    (e : v = v0) : V P fn (fun e w' => e = .returned v0 ∧ Reach [] w0 [] w') gl [] w0 L S := by
  subst e
  exact V.retl is v h hv he fun w hw => ⟨rfl, hw.sub (List.nil_sublist _)⟩
theorem V.retlx {X : Type} {val : X → Value} {φ : X → Prop} {L2 : X → List Ent} (is : List Nat) (x : X) (h : atEnd (A P fn S) = true) (hv : resL P fn L gl is (A P fn S) = some (val x))
    (he : resX P fn L gl is (A P fn S) = resY P fn L gl is (A P fn S)) (hφ : φ x) (hL : ∀ w, Reach M w0 L w → Reach M w0 (L2 x) w) : V P fn (Post M w0 val φ L2) gl M w0 L S :=
  V.retl is (val x) h hv he fun w hw => ⟨x, rfl, hφ, hL w hw⟩

/-! ### choosing among the entries -/
def pick (L : List Ent) (idx : List Nat) : List Ent := idx.map fun i => L.getD i (.blk 0 (.map #[] 0))
def okIdx : List Nat → Nat → Bool
  | [], _ => true
  | i :: is, n => bif Nat.blt i n then (bif memN i is then false else okIdx is n) else false
theorem memN_iff {i : Nat} : ∀ {l : List Nat}, memN i l = true ↔ i ∈ l
  | [] => by simp [memN]
  | x :: l => by
    simp only [memN, List.mem_cons]
    cases hb : Nat.beq i x with
    | true => simp [Nat.eq_of_beq_eq_true hb]
    | false =>
      have : i ≠ x := fun e => by subst e; simp at hb
      simp [this, memN_iff (l := l)]
theorem Reach.pick {M w0 L w} (h : Reach M w0 L w) {idx : List Nat} (ho : okIdx idx L.length = true) : Reach M w0 (pick L idx) w := by
  have key : ∀ {idx : List Nat}, okIdx idx L.length = true → (∀ i ∈ idx, i < L.length) ∧ idx.Nodup := by
    intro idx
    induction idx with
    | nil => intro _; simp
    | cons i is ih =>
      intro h0
      simp only [okIdx] at h0
      cases h1 : Nat.blt i L.length with
      | false => rw [h1] at h0; cases h0
      | true =>
        rw [h1] at h0
        cases h2 : memN i is with
        | true => rw [h2] at h0; cases h0
        | false =>
          rw [h2] at h0
          obtain ⟨a1, a2⟩ := ih h0
          have h3 : i ∉ is := fun hm => by rw [memN_iff.2 hm] at h2; cases h2
          exact ⟨fun j hj => by rcases List.mem_cons.1 hj with rfl | hj; exact Nat.le_of_ble_eq_true h1; exact a1 j hj, List.nodup_cons.2 ⟨h3, a2⟩⟩
  obtain ⟨k1, k2⟩ := key ho
  have hmem : ∀ E ∈ Ev.pick L idx, E ∈ L := fun E hE => by
    obtain ⟨i, hi, rfl⟩ := List.mem_map.1 hE
    simp [k1 i hi]
  have hfeet : ∀ x ∈ feet (Ev.pick L idx), x ∈ feet L := fun x hx => by
    obtain ⟨E, hE, hf⟩ := mem_feet.1 hx
    exact mem_feet.2 ⟨E, hmem E hE, hf⟩
  refine ⟨h.os, h.tape, h.output, h.draws, h.size, h.old, fun E hE => h.ents E (hmem E hE), ?_, fun b hb => h.fresh b (hfeet b hb)⟩
  have hinj : ∀ (i j : Nat) (E1 E2 : Ent) (b : Nat), L[i]? = some E1 → L[j]? = some E2 → E1.foot = some b → E2.foot = some b → i = j := by
    have hn := h.nodup
    clear h ho k1 k2 hmem hfeet key
    induction L with
    | nil => intro i j E1 E2 b h1; simp at h1
    | cons E L ih =>
      intro i j E1 E2 b h1 h2 h3 h4
      have hcons : feet (E :: L) = E.foot.toList ++ feet L := by cases h : E.foot <;> simp [feet, h]
      rw [hcons] at hn
      obtain ⟨m1, m2, m3⟩ := List.nodup_append.1 hn
      have hin : ∀ (k : Nat) (E' : Ent), L[k]? = some E' → E'.foot = some b → b ∈ feet L := fun k E' hk hb => mem_feet.2 ⟨E', List.mem_of_getElem? hk, hb⟩
      cases i with
      | zero =>
        cases j with
        | zero => rfl
        | succ j =>
          simp at h1 h2
          subst h1
          exact absurd rfl (m3 b (by simp [h3]) b (hin j E2 h2 h4))
      | succ i =>
        cases j with
        | zero =>
          simp at h1 h2
          subst h2
          exact absurd rfl (m3 b (by simp [h4]) b (hin i E1 h1 h3))
        | succ j =>
          simp at h1 h2
          rw [ih m2 i j E1 E2 b h1 h2 h3 h4]
  clear hmem hfeet key ho
  induction idx with
  | nil => simp [Ev.pick, feet]
  | cons i is ih =>
    have hcons : feet (Ev.pick L (i :: is)) = (L.getD i (.blk 0 (.map #[] 0))).foot.toList ++ feet (Ev.pick L is) := by
      cases h : (L.getD i (.blk 0 (.map #[] 0))).foot <;> simp_all [feet, Ev.pick]
    rw [hcons, List.nodup_append]
    refine ⟨by cases (L.getD i (.blk 0 (.map #[] 0))).foot <;> simp, ih (fun j hj => k1 j (by simp [hj])) (List.nodup_cons.1 k2).2, fun x hx y hy e => ?_⟩
    subst e
    obtain ⟨E, hE, hf⟩ := mem_feet.1 hy
    obtain ⟨j, hj, rfl⟩ := List.mem_map.1 hE
    have hi' : i < L.length := k1 i (by simp)
    have hj' : j < L.length := k1 j (by simp [hj])
    have hfi : (L.getD i (.blk 0 (.map #[] 0))).foot = some x := by
      cases hh : (L.getD i (.blk 0 (.map #[] 0))).foot with
      | none => rw [hh] at hx; simp at hx
      | some y => rw [hh] at hx; simp at hx; rw [hx]
    have := hinj i j _ _ x (by simp [hi']; rfl) (by simp [hj']; rfl) (by simpa [hi'] using hfi) (by simpa [hj'] using hf)
    subst this
    exact (List.nodup_cons.1 k2).1 hj
/-- the function ends and hands over these entries -/
theorem V.rete {X : Type} {val : X → Value} {φ : X → Prop} {L2 : X → List Ent} (x : X) (v : Value) (idx : List Nat) (h : atEnd (A P fn S) = true) (hv : resP P fn (A P fn S) = some v) (hi : okIdx idx L.length = true)
    (hL : pick L idx = L2 x) (e : v = val x) (hφ : φ x) : V P fn (Post M w0 val φ L2) gl M w0 L S :=
  V.retx x v h hv e hφ (fun w hw => by rw [← hL]; exact hw.pick hi)
/-- only these entries, in this order -/
theorem V.keep (idx : List Nat) (ho : okIdx idx L.length = true) (k : V P fn R gl M w0 (pick L idx) S) : V P fn R gl M w0 L S := fun hg hd w hw => k hg hd w (hw.pick ho)

/-! ### what is no longer wanted -/
theorem V.sub {L' : List Ent} (hs : List.Sublist L' L) (k : V P fn R gl M w0 L' S) : V P fn R gl M w0 L S := fun hg hd w hw => k hg hd w (hw.sub hs)
theorem V.conv {L' : List Ent} {S' : St} (hL : L = L') (hS : S = S') (k : V P fn R gl M w0 L' S') : V P fn R gl M w0 L S := by subst hL; subst hS; exact k

/-! ### loops -/
def isLoop (S : St) : Bool := match S.todo with | .code (.loop _) :: _ => true | _ => false
def loopB (S : St) : Code := match S.todo with | .code (.loop c) :: _ => c | _ => .skip
def loopK (S : St) : List Item := match S.todo with | .code (.loop c) :: k => .inLoop c :: k | _ => []
def wr (F : Fr) : List Nat → List Value → Fr
  | s :: sl, v :: vs => upd (wr F sl vs) s v
  | _, _ => F
theorem wr_same {F : Fr} : ∀ {sl : List Nat} {vs : List Value}, sl.map F = vs → wr F sl vs = F
  | [], _, _ => rfl
  | s :: sl, vs, h => by
    subst h
    simp only [List.map_cons, wr]
    rw [wr_same rfl]
    exact upd_same rfl
theorem isLoop_spec (h : isLoop S = true) : ∃ c k, S.todo = .code (.loop c) :: k ∧ loopB S = c ∧ loopK S = .inLoop c :: k := by
  unfold isLoop at h
  split at h
  · rename_i c k ht; exact ⟨c, k, ht, by simp [loopB, ht], by simp [loopK, ht]⟩
  · cases h

theorem W.sameF {Q n ds} {w : World} {t : List Item} {F F' : Fr} {G G' : List Nat} {f f' : Nat} (h : W P Q n ds ⟨t, F', G', f'⟩ w) (e : F' = F) : W P Q n ds ⟨t, F, G, f⟩ w := by subst e; exact h

def slots (S : St) (sl : List Nat) : List Value := sl.map S.F
def todoOf (S : St) : List Item := S.todo
/-- a round's begin: frame F, in which these slots hold these values -/
def loopS (S : St) (F : Fr) (sl : List Nat) (vs : List Value) : St := ⟨.code (loopB S) :: loopK S, wr F sl vs, [], S.fl⟩
theorem V.loop {X : Type} (sl : List Nat) (vals : X → List Value) (Lx : X → List Ent) (J : X → Prop) (μ : X → Nat) (x0 : X)
    (hh : isLoop (A P fn S) = true) (hv : slots (A P fn S) sl = vals x0) (hL : L = Lx x0) (h0 : J x0)
    (round : ∀ (F : Fr) (x : X), J x →
      (∀ (x' : X) (S' : St), J x' → μ x' < μ x → todoOf (A P fn S') = loopK (A P fn S) → slots (A P fn S') sl = vals x' → V P fn R gl M w0 (Lx x') S') →
      V P fn R gl M w0 (Lx x) (loopS (A P fn S) F sl (vals x))) : V P fn R gl M w0 L S := by
  obtain ⟨c, k, ht, hB, hK⟩ := isLoop_spec hh
  unfold loopS at round
  rw [hB, hK] at round
  refine V.adv fun hg hd w hw => ?_
  have key : ∀ m x (T : St), μ x = m → J x → T.todo = .inLoop c :: k → sl.map T.F = vals x → ∀ w, Reach M w0 (Lx x) w → W P (bPost P fn R) fn.ntmps [] T w := by
    intro m
    induction m using Nat.strongRecOn with
    | _ m ih =>
      intro x T hm hJ hT hF w hw
      have hr := round T.F x hJ (fun x' S' hJ' hlt ht' hf' => V.adv fun _ _ w' hw' => ih (μ x') (hm ▸ hlt) x' _ rfl hJ' ht' hf' w' hw') hg hd w hw
      rw [wr_same hF] at hr
      intro a ha
      rw [hT]
      exact MW.steps (fun b cs => .one step_inLoop) (hr a ha).mw
  subst hL
  have hr := round (A P fn S).F x0 h0 (fun x' S' hJ' _ ht' hf' => V.adv fun _ _ w' hw' => key _ x' _ rfl hJ' ht' hf' w' hw') hg hd w hw
  rw [wr_same hv] at hr
  intro a ha
  rw [ht]
  exact MW.steps (fun b cs => .one step_loop) (hr a ha).mw

/-! ### where ways meet again -/
def lastN (n : Nat) (l : List Item) : List Item := l.drop (l.length - n)
/-- the last n things to be done -/
def restS (S : St) (n : Nat) : List Item := lastN n S.todo
/-- stop there -/
def floorS (S : St) (n : Nat) : St := ⟨S.todo, S.F, S.G, n⟩
def afterS (S : St) (n : Nat) (F : Fr) (sl : List Nat) (vs : List Value) : St := ⟨lastN n S.todo, wr F sl vs, [], S.fl⟩
theorem V.cut {X : Type} (n : Nat) (sl : List Nat) (vals : X → List Value) (Lx : X → List Ent) (J : X → Prop)
    (after : ∀ (F : Fr) (x : X), J x → V P fn R gl M w0 (Lx x) (afterS (A P fn S) n F sl (vals x)))
    (body : (∀ (x : X) (S' : St), J x → todoOf (A P fn S') = restS (A P fn S) n → slots (A P fn S') sl = vals x → V P fn R gl M w0 (Lx x) S') →
      V P fn R gl M w0 L (floorS (A P fn S) n)) : V P fn R gl M w0 L S := by
  refine V.adv fun hg hd w hw => ?_
  refine body (fun x S' hJ ht hs => V.adv fun hg hd w' hw' => ?_) hg hd w hw
  have h1 := after (A P fn S').F x hJ hg hd w' hw'
  unfold afterS at h1
  rw [wr_same hs] at h1
  intro a ha
  have h2 := h1 a ha
  simp only at h2
  have ht' : (A P fn S').todo = lastN n (A P fn S).todo := ht
  rw [ht']
  exact h2
attribute [irreducible] lookE lookOk lookL lookB partAny restS floorS afterS A start putS slot slots todoOf resP headS callH loadH storeH idxH newObj newVal newChk newH entB entC entT entOk storeOut storeOff storeT storeV storeChk advS advX advY isLoop loopB loopK loopS resL resX resY pick okIdx load1 entAny
end Go.Ev
