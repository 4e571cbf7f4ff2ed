/- Shown here: Walks, fifth part: operations that are not carried out by themselves (division, shifts by a variable, an index), and loops that are unrolled. Conditions: none beyond those in each theorem. -/
import Derived.Test.YtpnknnlnkmhgpaaGreatDoorK4
namespace Go.Ev
open Go
variable {P : Program} {fn : Func} {R : Ending → World → Prop} {gl : Gls} {M : List Nat} {w0 : World} {L Ls : List Ent} {S : St} {U : List Nat} {ops : Array Oper} {k : List Item}

def semH (H : Hd) : Sem Next := match H.2 with | some o => execOp (evl H.1) o | none => .halt (.stuck "")
def valH (P : Program) (H : Hd) : Option Value := match H.2 with | some o => pureNext P (execOp (evl H.1) o) | none => none
theorem does_val {H : Hd} {v : Value} {w : World} {K : Value → World → Prop} (h : valH P H = some v) (hk : K v w) : Does P H w K := by
  unfold valH at h
  cases ho : H.2 with
  | none => rw [ho] at h; cases h
  | some o => rw [ho] at h; exact ⟨o, ho, .inl ⟨v, w, pureNext_run h w, hk⟩⟩
theorem V.val (v : Value) (h : valH P (headS fn.ntmps (A P fn S)) = some v) (kk : V P fn R gl M w0 L (nx (A P fn S) v)) : V P fn R gl M w0 L S :=
  V.does fun hg hd w hw => does_val h (kk hg hd w hw)
theorem VD.val {D : DSt} {fl : Bool} (i : Nat) (v : Value) (ht : takeOk ops (BD P fn ops D) i = true) (h : valH P (headD fn.ntmps ops (BD P fn ops D) i) = some v)
    (kk : VD P fn R gl M w0 Ls U ops k L fl (nxD ops (BD P fn ops D) i v)) : VD P fn R gl M w0 Ls U ops k L fl D :=
  VD.take i v ht (fun w => by
    unfold valH at h
    cases ho : (headD fn.ntmps ops (BD P fn ops D) i).2 with
    | none => rw [ho] at h; cases h
    | some o => rw [ho] at h; exact ⟨o, rfl, pureNext_run h w⟩) kk

def binH (H : Hd) : Option (BinOp × Value × Value) :=
  match H.2 with
  | some o => match o.op with
    | .binOp op _ x y _ => some (op, evl H.1 x, evl H.1 y)
    | _ => none
  | none => none
def noEq : BinOp → Bool
  | .eql => false
  | .neq => false
  | _ => true
theorem bin_run {H : Hd} {op : BinOp} {x y v : Value} {w : World} (h : binH H = some (op, x, y)) (hne : noEq op = true) (hv : ∀ t, (binOp op t x y).run P w = .ok v w) :
    ∃ o, H.2 = some o ∧ (execOp (evl H.1) o).run P w = .ok (.value v) w := by
  obtain ⟨F, o⟩ := H
  unfold binH at h
  cases o with
  | none => cases h
  | some o =>
    refine ⟨o, rfl, ?_⟩
    simp only at h ⊢
    split at h
    · rename_i op' t x' y' ty hop
      cases h
      have he : execOp (evl F) o = (do let v ← (do eqGuard op t x' y' (evl F x') (evl F y'); binOp op t (evl F x') (evl F y')); pure (.value v) : Sem Next) := by
        simp [execOp, hop]
      rw [he, Sem.run_bind, Sem.run_bind]
      have hg : (eqGuard op t x' y' (evl F x') (evl F y')).run P w = .ok () w := by
        unfold eqGuard
        cases op <;> first | rfl | cases hne
      rw [hg]
      simp only [Result.andThen_ok]
      rw [hv t]
      rfl
    · cases h
theorem does_quo {H : Hd} {kd : IntKind} {x y : Int} {w : World} {K : Value → World → Prop} (h : binH H = some (.quo, .int kd x, .int kd y)) (hy : y ≠ 0) (hk : K (.int kd (kd.wrap (x.tdiv y))) w) : Does P H w K := by
  obtain ⟨o, ho, hr⟩ := bin_run (P := P) (w := w) (v := .int kd (kd.wrap (x.tdiv y))) h rfl (fun t => by simp [binOp, Op.intDiv, hy])
  exact ⟨o, ho, .inl ⟨_, w, hr, hk⟩⟩
theorem does_rem {H : Hd} {kd : IntKind} {x y : Int} {w : World} {K : Value → World → Prop} (h : binH H = some (.rem, .int kd x, .int kd y)) (hy : y ≠ 0) (hk : K (.int kd (x.tmod y)) w) : Does P H w K := by
  obtain ⟨o, ho, hr⟩ := bin_run (P := P) (w := w) (v := .int kd (x.tmod y)) h rfl (fun t => by simp [binOp, Op.intDiv, hy])
  exact ⟨o, ho, .inl ⟨_, w, hr, hk⟩⟩
theorem does_shl {H : Hd} {kd ky : IntKind} {x y : Int} {w : World} {K : Value → World → Prop} (h : binH H = some (.shl, .int kd x, .int ky y)) (hy : 0 ≤ y) (hk : K (.int kd (kd.wrap (x * 2 ^ (min y.toNat kd.bits)))) w) : Does P H w K := by
  obtain ⟨o, ho, hr⟩ := bin_run (P := P) (w := w) (v := .int kd (kd.wrap (x * 2 ^ (min y.toNat kd.bits)))) h rfl (fun t => by simp [binOp, Op.shift, show ¬ y < 0 by omega])
  exact ⟨o, ho, .inl ⟨_, w, hr, hk⟩⟩
theorem does_shr {H : Hd} {kd ky : IntKind} {x y : Int} {w : World} {K : Value → World → Prop} (h : binH H = some (.shr, .int kd x, .int ky y)) (hy : 0 ≤ y) (hk : K (.int kd (x.fdiv (2 ^ (min y.toNat kd.bits)))) w) : Does P H w K := by
  obtain ⟨o, ho, hr⟩ := bin_run (P := P) (w := w) (v := .int kd (x.fdiv (2 ^ (min y.toNat kd.bits)))) h rfl (fun t => by simp [binOp, Op.shift, show ¬ y < 0 by omega])
  exact ⟨o, ho, .inl ⟨_, w, hr, hk⟩⟩
theorem V.quo (kd : IntKind) (x y z : Int) (h : binH (headS fn.ntmps (A P fn S)) = some (.quo, .int kd x, .int kd y)) (hy : y ≠ 0) (hz : kd.wrap (x.tdiv y) = z)
    (kk : V P fn R gl M w0 L (nx (A P fn S) (.int kd z))) : V P fn R gl M w0 L S :=
  V.does fun hg hd w hw => does_quo h hy (by rw [hz]; exact kk hg hd w hw)
theorem V.rem (kd : IntKind) (x y z : Int) (h : binH (headS fn.ntmps (A P fn S)) = some (.rem, .int kd x, .int kd y)) (hy : y ≠ 0) (hz : x.tmod y = z)
    (kk : V P fn R gl M w0 L (nx (A P fn S) (.int kd z))) : V P fn R gl M w0 L S :=
  V.does fun hg hd w hw => does_rem h hy (by rw [hz]; exact kk hg hd w hw)
theorem V.shl (kd ky : IntKind) (x y z : Int) (h : binH (headS fn.ntmps (A P fn S)) = some (.shl, .int kd x, .int ky y)) (hy : 0 ≤ y) (hz : kd.wrap (x * 2 ^ (min y.toNat kd.bits)) = z)
    (kk : V P fn R gl M w0 L (nx (A P fn S) (.int kd z))) : V P fn R gl M w0 L S :=
  V.does fun hg hd w hw => does_shl h hy (by rw [hz]; exact kk hg hd w hw)
theorem V.shr (kd ky : IntKind) (x y z : Int) (h : binH (headS fn.ntmps (A P fn S)) = some (.shr, .int kd x, .int ky y)) (hy : 0 ≤ y) (hz : x.fdiv (2 ^ (min y.toNat kd.bits)) = z)
    (kk : V P fn R gl M w0 L (nx (A P fn S) (.int kd z))) : V P fn R gl M w0 L S :=
  V.does fun hg hd w hw => does_shr h hy (by rw [hz]; exact kk hg hd w hw)
theorem VD.quo {D : DSt} {fl : Bool} (i : Nat) (kd : IntKind) (x y z : Int) (ht : takeOk ops (BD P fn ops D) i = true) (h : binH (headD fn.ntmps ops (BD P fn ops D) i) = some (.quo, .int kd x, .int kd y)) (hy : y ≠ 0) (hz : kd.wrap (x.tdiv y) = z)
    (kk : VD P fn R gl M w0 Ls U ops k L fl (nxD ops (BD P fn ops D) i (.int kd z))) : VD P fn R gl M w0 Ls U ops k L fl D :=
  VD.take i _ ht (fun w => bin_run (P := P) (w := w) (v := .int kd z) h rfl (fun t => by simp [binOp, Op.intDiv, hy, hz])) kk
theorem VD.rem {D : DSt} {fl : Bool} (i : Nat) (kd : IntKind) (x y z : Int) (ht : takeOk ops (BD P fn ops D) i = true) (h : binH (headD fn.ntmps ops (BD P fn ops D) i) = some (.rem, .int kd x, .int kd y)) (hy : y ≠ 0) (hz : x.tmod y = z)
    (kk : VD P fn R gl M w0 Ls U ops k L fl (nxD ops (BD P fn ops D) i (.int kd z))) : VD P fn R gl M w0 Ls U ops k L fl D :=
  VD.take i _ ht (fun w => bin_run (P := P) (w := w) (v := .int kd z) h rfl (fun t => by simp [binOp, Op.intDiv, hy, hz])) kk

/-! a byte of a string -/
def strixH (P : Program) (H : Hd) : Option (ByteArray × Value) :=
  match H.2 with
  | some o => match o.op with
    | .index t x i => match P.underlying t with
      | some .string => match evl H.1 x with
        | .string s => some (s, evl H.1 i)
        | _ => none
      | _ => none
    | _ => none
  | none => none
theorem does_strix {H : Hd} {s : ByteArray} {kd : IntKind} {j : Nat} {w : World} {K : Value → World → Prop} (h : strixH P H = some (s, .int kd (j : Int))) (hj : j < s.size) (hk : K (.int .u8 (s[j]'hj).toNat) w) : Does P H w K := by
  obtain ⟨F, o⟩ := H
  unfold strixH at h
  cases o with
  | none => cases h
  | some o =>
    simp only at h
    split at h
    · rename_i t x i hop
      split at h
      · rename_i hu
        split at h
        · rename_i s' hx
          simp only [Option.some.injEq, Prod.mk.injEq] at h
          obtain ⟨rfl, hi⟩ := h
          refine ⟨o, rfl, .inl ⟨_, w, ?_, hk⟩⟩
          simp only [execOp, hop, Instr.index, hx, hi, asIntOf]
          simp [Sem.run_bind, run_underlying hu w, hj]
        · cases h
      · cases h
    · cases h
theorem V.strix (s : ByteArray) (kd : IntKind) (j : Nat) (z : Int) (h : strixH P (headS fn.ntmps (A P fn S)) = some (s, .int kd (j : Int))) (hj : j < s.size) (hz : ((s[j]'hj).toNat : Int) = z)
    (kk : V P fn R gl M w0 L (nx (A P fn S) (.int .u8 z))) : V P fn R gl M w0 L S :=
  V.does fun hg hd w hw => does_strix h hj (by rw [hz]; exact kk hg hd w hw)

/-! ### unrolling -/
def isIn (S : St) : Bool := match S.todo with | .inLoop _ :: _ => true | _ => false
def rollS (S : St) : St := ⟨.code (loopB S) :: loopK S, S.F, S.G, S.fl⟩
def inS (S : St) : St := match S.todo with | .inLoop c :: k => ⟨.code c :: .inLoop c :: k, S.F, S.G, S.fl⟩ | _ => S
theorem V.roll (h : isLoop (A P fn S) = true) (kk : V P fn R gl M w0 L (rollS (A P fn S))) : V P fn R gl M w0 L S := by
  refine V.adv fun hg hd w hw => ?_
  have hr := kk hg hd w hw
  obtain ⟨c, k, ht, hB, hK⟩ := isLoop_spec h
  unfold rollS at hr
  rw [hB, hK] at hr
  intro a ha
  rw [ht]
  exact MW.steps (fun b cs => .one step_loop) (hr a ha).mw
theorem V.again (h : isIn (A P fn S) = true) (kk : V P fn R gl M w0 L (inS (A P fn S))) : V P fn R gl M w0 L S := by
  refine V.adv fun hg hd w hw => ?_
  have hr := kk hg hd w hw
  generalize A P fn S = T at *
  unfold isIn at h
  split at h
  · rename_i c k ht
    unfold inS at hr
    rw [ht] at hr
    intro a ha
    rw [ht]
    exact MW.steps (fun b cs => .one step_inLoop) (hr a ha).mw
  · cases h
attribute [irreducible] semH valH binH strixH isIn rollS inS
end Go.Ev
