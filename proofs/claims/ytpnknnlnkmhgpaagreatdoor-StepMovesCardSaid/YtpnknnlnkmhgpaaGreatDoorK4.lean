/- Shown here: Walks, fourth part: statements whose order Go leaves open. Loads and arithmetic are taken first; what else may come up is asked of the region itself. Conditions: none beyond those in each theorem. -/
import Derived.Test.YtpnknnlnkmhgpaaGreatDoorK3
namespace Go.Ev
open Go

section
variable {P : Program} {ops : Array Oper} {Q : Exit → Act → World → Prop} {md : Region.Mode} {U : List Nat} {Sx : World → Prop}

/-- does number u come before number i (in at most so many steps)? -/
def ancOf (md : Region.Mode) (ops : Array Oper) (u : Nat) : Nat → Nat → Bool
  | 0, _ => false
  | f + 1, i => match ops[i]? with | some o => o.after.any (fun e => Region.binds md e && (e.on == u || ancOf md ops u f e.on)) | none => false
/-- may an operation of U still come behind number i? -/
def sreq (md : Region.Mode) (ops : Array Oper) (U : List Nat) (i : Nat) : Bool :=
  U.any fun u => bif Nat.beq u i then false else !ancOf md ops u 5 i
/-- what is listed has all listed that comes before it -/
def Closed (md : Region.Mode) (ops : Array Oper) (listed : Array Bool) : Prop := ∀ j oj, ops[j]? = some oj → listed.getD j false = true → ∀ e ∈ oj.after, Region.binds md e = true → listed.getD e.on false = true
theorem ancOf_false {listed : Array Bool} {u : Nat} (hc : Closed md ops listed) (hu : listed.getD u false = false) : ∀ (f i : Nat), (∀ oi, ops[i]? = some oi → ∀ e ∈ oi.after, Region.binds md e = true → listed.getD e.on false = true) → ancOf md ops u f i = false
  | 0, _, _ => rfl
  | f + 1, i, h => by
    unfold ancOf
    cases hi : ops[i]? with
    | none => rfl
    | some oi =>
      simp only
      rw [Array.any_eq_false']
      intro e he hx
      rw [Bool.and_eq_true] at hx
      have hl := h oi hi e he hx.1
      rw [Bool.or_eq_true, beq_iff_eq] at hx
      rcases hx.2 with h2 | h2
      · rw [h2, hu] at hl; cases hl
      · rw [ancOf_false hc hu f e.on (fun o2 ho2 => hc e.on o2 ho2 hl)] at h2; cases h2
theorem getD_set_true {listed : Array Bool} {i j : Nat} (h : listed.getD j false = true) : (listed.setIfInBounds i true).getD j false = true := by
  by_cases hij : i = j
  · subst hij
    rcases Nat.lt_or_ge i listed.size with h' | h'
    · simp [h']
    · simp [h'] at h
  · simpa [hij, Array.getElem?_setIfInBounds] using h
theorem Closed.ready {listed : Array Bool} {i : Nat} (hc : Closed md ops listed) (hr : i ∈ Region.ready md ops listed) : Closed md ops (listed.setIfInBounds i true) := by
  obtain ⟨_, oi, hoi, hall⟩ := mem_ready.1 hr
  intro j oj hoj hl e he hb
  refine getD_set_true ?_
  by_cases hij : i = j
  · subst hij
    rw [hoi] at hoj
    cases hoj
    have := hall e he hb
    simpa [Array.getD_eq_getD_getElem?] using this
  · refine hc j oj hoj ?_ e he hb
    simpa [hij, Array.getElem?_setIfInBounds] using hl

def wpAnyG (P : Program) (md : Region.Mode) (ops : Array Oper) (Q : Exit → Act → World → Prop) (U : List Nat) (Sx : World → Prop) : Nat → Array Bool → Act → World → Prop
  | 0, listed, a, w => Region.ready md ops listed = [] ∧ Q .normal a w
  | fuel + 1, listed, a, w =>
    (Region.ready md ops listed = [] → Q .normal a w) ∧
    ∀ i ∈ Region.ready md ops listed, wpOp P ops Q i (fun a' w' => (sreq md ops U i = true → Sx w → Sx w') ∧ wpAnyG P md ops Q U Sx fuel (listed.setIfInBounds i true) a' w') a w
theorem wpAny_of_G : ∀ (fuel : Nat) (listed : Array Bool) (a : Act) (w : World), wpAnyG P md ops Q U Sx fuel listed a w → wpAny P md ops Q fuel listed a w
  | 0, _, _, _, h => h
  | fuel + 1, _, _, _, h => ⟨h.1, fun i hi => wpOp_mono (fun a' w' h' => wpAny_of_G fuel _ a' w' h'.2) (h.2 i hi)⟩

theorem wpAnyG_first {i : Nat} {oi : Oper} {v : Value} (hi : ops[i]? = some oi) (hsel : ∀ (j : Nat) (o : Oper) cs b, ops[j]? = some o → o.op ≠ .select cs b)
    (hQ : ∀ c a w, Q (.panic c) (a.put oi.dst v) w → Q (.panic c) a w) (S' : World → Prop)
    (hS' : ∀ j oj, ops[j]? = some oj → j ≠ i → ancOf md ops i 5 j = false → ∀ w w', S' w → (sreq md ops U j = true → Sx w → Sx w') → S' w') :
    ∀ (fuel : Nat) (listed : Array Bool) (a : Act) (w : World),
      (∀ j oj, ops[j]? = some oj → j ≠ i → listed.getD j true = false → (∀ e ∈ oj.after, Region.binds md e = true → e.on ≠ i) → oi.apart ops oj = true) →
      Closed md ops listed → i ∈ Region.ready md ops listed → YieldsIf P ops S' oi v a → S' w →
      wpAnyG P md ops Q U Sx fuel (listed.setIfInBounds i true) (a.put oi.dst v) w → wpAnyG P md ops Q U Sx (fuel + 1) listed a w := by
  intro fuel
  induction fuel with
  | zero =>
    intro listed a w _ hcl hr hy hS H
    refine ⟨fun h => (by rw [h] at hr; cases hr), fun j hj => ?_⟩
    by_cases hji : j = i
    · subst hji; exact hy.wpOp hi hS ⟨fun _ h => h, H⟩
    · have := ready_mono hj hji
      rw [H.1] at this
      cases this
  | succ fuel ih =>
    intro listed a w hfree hcl hr hy hS H
    refine ⟨fun h => (by rw [h] at hr; cases hr), fun j hj => ?_⟩
    by_cases hji : j = i
    · subst hji; exact hy.wpOp hi hS ⟨fun _ h => h, H⟩
    · have h1 := H.2 j (ready_mono hj hji)
      obtain ⟨hjun, oj, hoj, hall⟩ := mem_ready.1 hj
      have hnot : ∀ e ∈ oj.after, Region.binds md e = true → e.on ≠ i := fun e he hb heq => by
        have h1 := hall e he hb
        have h0 := (mem_ready.1 hr).1
        rw [heq] at h1
        rcases Nat.lt_or_ge i listed.size with h' | h'
        · simp [h'] at h0 h1; rw [h0] at h1; cases h1
        · simp [Array.getElem?_eq_none h'] at h1
      have hanc : ancOf md ops i 5 j = false := ancOf_false hcl (by
        have h0 := (mem_ready.1 hr).1
        rcases Nat.lt_or_ge i listed.size with h' | h'
        · simpa [h'] using h0
        · simp [h'] at h0) 5 j (fun o2 ho2 => by
        rw [hoj] at ho2
        cases ho2
        intro e he hb
        have := hall e he hb
        simpa [Array.getD_eq_getD_getElem?] using this)
      have h2 := wpOp_putIf hoj (hfree j oj hoj hji hjun hnot) (fun cs b => hsel i oi cs b hi) (fun cs b => hsel j oj cs b hoj) hQ hy h1
      have hfree' : ∀ k ok, ops[k]? = some ok → k ≠ i → (listed.setIfInBounds j true).getD k true = false →
          (∀ e ∈ ok.after, Region.binds md e = true → e.on ≠ i) → oi.apart ops ok = true := fun k ok hk hki hun hno => by
        refine hfree k ok hk hki ?_ hno
        by_cases hjk : j = k
        · subst hjk; exact hjun
        · rw [getD_set_ne true hjk] at hun; exact hun
      refine wpOp_mono (fun a' w' h3 => ⟨h3.2.1, ih (listed.setIfInBounds j true) a' w' hfree' (hcl.ready hj) (ready_mono hr (Ne.symm hji)) h3.1 (hS' j oj hoj hji hanc w w' hS h3.2.1) ?_⟩) h2
      rw [Array.setIfInBounds_comm _ _ hji]
      exact h3.2.2
end

theorem sreq_of_mem {ops : Array Oper} {md : Region.Mode} {U : List Nat} {i j : Nat} (hi : memN i U = true) (hne : j ≠ i)
    (hno : ancOf md ops i 5 j = false) : sreq md ops U j = true := by
  unfold sreq
  rw [List.any_eq_true]
  have hmem : i ∈ U := by
    clear hno hne
    induction U with
    | nil => cases hi
    | cons x l ih =>
      simp only [memN] at hi
      cases hb : Nat.beq i x with
      | true => rw [Nat.eq_of_beq_eq_true hb]; simp
      | false => rw [hb] at hi; exact List.mem_cons_of_mem _ (ih hi)
  refine ⟨i, hmem, ?_⟩
  have hb : Nat.beq i j = false := by
    cases h : Nat.beq i j with
    | false => rfl
    | true => exact absurd (Nat.eq_of_beq_eq_true h).symm hne
  rw [hb, hno]
  rfl

/-! ### states inside such a region -/
structure DSt where
  listed : Array Bool
  fuel : Nat
  F : Fr
  G : List Nat
  fl : Nat

variable {P : Program} {fn : Func} {R : Ending → World → Prop} {gl : Gls} {M : List Nat} {w0 : World} {L Ls : List Ent} {U : List Nat} {ops : Array Oper} {k : List Item} {G0 : List Nat} {f0 : Nat}

def WD (P : Program) (fn : Func) (R : Ending → World → Prop) (M : List Nat) (w0 : World) (Ls : List Ent) (U : List Nat) (ops : Array Oper) (k : List Item) (D : DSt) (w : World) : Prop :=
  Closed .any ops D.listed → ∀ a, Rel fn.ntmps D.F [] a → wpAnyG P .any ops (contQ P (bPost P fn R) k) U (Reach M w0 Ls) D.fuel D.listed a w

set_option linter.unusedVariables false
def nxD (ops : Array Oper) (D : DSt) (i : Nat) (v : Value) : DSt := ⟨D.listed.setIfInBounds i true, D.fuel.pred, updo D.F (dstOf ops i) v, D.G, D.fl⟩
def headD (n : Nat) (ops : Array Oper) (D : DSt) (i : Nat) : Hd :=
  (D.F, match ops[i]? with
    | some o => bif putOk n o.dst then (bif wantF ops D.F o then some o else none) else none
    | none => none)
theorem headD_spec {n : Nat} {D : DSt} {i : Nat} {o : Oper} (h : (headD n ops D i).2 = some o) : ops[i]? = some o ∧ putOk n o.dst = true ∧ wantF ops D.F o = true := by
  unfold headD at h
  cases ho : ops[i]? with
  | none => rw [ho] at h; cases h
  | some o' =>
    rw [ho] at h
    simp only at h
    cases hp : putOk n o'.dst with
    | false => rw [hp] at h; cases h
    | true =>
      rw [hp] at h
      cases hw : wantF ops D.F o' with
      | false => rw [hw] at h; cases h
      | true => rw [hw] at h; cases h; exact ⟨rfl, hp, hw⟩

/-- number i comes up -/
theorem wpOp_does {D : DSt} {i : Nat} {w : World} {K : Act → World → Prop} {a : Act} (ha : Rel fn.ntmps D.F [] a)
    (h : Does P (headD fn.ntmps ops D i) w (fun v w' => ∀ a', Rel fn.ntmps (nxD ops D i v).F [] a' → K a' w')) : wpOp P ops (contQ P (bPost P fn R) k) i K a w := by
  obtain ⟨o, ho, h⟩ := h
  obtain ⟨hi, hp, hw⟩ := headD_spec ho
  unfold wpOp
  simp only [hi]
  rw [ha.wanted, hw]
  simp only [if_true, Oper.wp]
  refine .inl ?_
  rw [ha.eval]
  have hF : ∀ v, (nxD ops D i v).F = updo D.F o.dst v := fun v => by simp [nxD, dstOf, hi]
  rcases h with ⟨v, w', h1, h2⟩ | ⟨w', h1, h2⟩ | ⟨g, args, w1, R', h1, h2, h3⟩
  · have h1' : (execOp (evl D.F) o).run P w = .ok (.value v) w' := h1
    rw [h1']
    exact h2 _ (by rw [hF]; exact ha.puto hp v)
  · have h1' : (execOp (evl D.F) o).run P w = .ok .skip w' := h1
    rw [h1']
    exact h2 _ (by rw [hF]; exact ha.puto hp undef)
  · have h1' : (execOp (evl D.F) o).run P w = .ok (.enter g args) w1 := h1
    rw [h1']
    refine h2.mono fun e w'' he => ?_
    obtain ⟨v, rfl, hk⟩ := h3 e w'' he
    exact hk _ (by rw [hF]; exact ha.puto hp v)

def readyD (ops : Array Oper) (D : DSt) : List Nat := Region.ready .any ops D.listed
def fuelD (D : DSt) : Bool := match D.fuel with | 0 => false | _ + 1 => true
/-- those that may come up now are these: each is walked -/
theorem WD.all {D : DSt} {w : World} (rs : List Nat) (hr : readyD ops D = rs) (hne : rs ≠ []) (hf : fuelD D = true)
    (h : ∀ i ∈ rs, Does P (headD fn.ntmps ops D i) w (fun v w' => (sreq .any ops U i = true → Reach M w0 Ls w → Reach M w0 Ls w') ∧ WD P fn R M w0 Ls U ops k (nxD ops D i v) w')) :
    WD P fn R M w0 Ls U ops k D w := by
  intro hcl a ha
  obtain ⟨listed, fuel, F, G, flr⟩ := D
  cases fuel with
  | zero => cases hf
  | succ f =>
    refine ⟨fun h0 => absurd (hr ▸ h0) hne, fun i hi => ?_⟩
    have hi' : i ∈ rs := by rw [← hr]; exact hi
    refine wpOp_does (R := R) (k := k) ha ((h i hi').mono ?_)
    rintro v w' ⟨h1, h2⟩ a' ha'
    exact ⟨h1, h2 (Closed.ready hcl hi) a' ha'⟩
theorem WD.done {D : DSt} {w : World} (hr : readyD ops D = []) (h : W P (bPost P fn R) fn.ntmps [] ⟨k, D.F, G0, f0⟩ w) : WD P fn R M w0 Ls U ops k D w := by
  intro _ a ha
  have hn : contQ P (bPost P fn R) k .normal a w := (h a ha).mw
  obtain ⟨listed, fuel, F, G, flr⟩ := D
  have hr' : Region.ready .any ops listed = [] := hr
  cases fuel with
  | zero => exact ⟨hr', hn⟩
  | succ f => exact ⟨fun _ => hn, fun i hi => by rw [hr'] at hi; cases hi⟩

/-! ### taking first what may be taken first -/
def readyB (ops : Array Oper) (listed : Array Bool) (o : Oper) (i : Nat) : Bool :=
  bif listed.getD i true then false else o.after.all (fun e => !Region.binds .any e || listed.getD e.on false)
theorem readyB_spec {ops : Array Oper} {listed : Array Bool} {o : Oper} {i : Nat} (ho : ops[i]? = some o) (h : readyB ops listed o i = true) : i ∈ Region.ready .any ops listed := by
  unfold readyB at h
  cases hl : listed.getD i true with
  | true => rw [hl] at h; cases h
  | false =>
    rw [hl] at h
    simp only [cond_false] at h
    refine mem_ready.2 ⟨hl, o, ho, fun e he hb => ?_⟩
    have := Array.all_eq_true_iff_forall_mem.1 h e he
    rw [hb] at this
    simpa using this

/-- one pass over the numbers: copies and arithmetic are taken; a load of U is taken, its value out of the entry that the list names -/
noncomputable def passD (P : Program) (n : Nat) (Ls : List Ent) (gl : Gls) (U : List Nat) (ops : Array Oper) (fl : Bool) (idx : List Nat) : List Nat → DSt → DSt × List (Addr × Addr) :=
  List.rec (motive := fun _ => List Nat → DSt → DSt × List (Addr × Addr)) (fun _ D => (D, []))
    (fun i _ ih orc D => match ops[i]? with
      | none => ih orc D
      | some o => bif readyB ops D.listed o i then
          bif Region.free .any ops D.listed i then
            bif fuelD D then
              match opOut P n ops D.F D.G o with
              | some v => ih orc (nxD ops D i v)
              | none => match orc with
                | [] => ih orc D
                | e :: orc' => bif fl then
                    bif memN i U then
                      match load1 P Ls gl (headD n ops D i) e with
                      | some (v, a, a') => match ih orc' (nxD ops D i v) with
                        | (D', l) => (D', (a, a') :: l)
                      | none => ih orc D
                    else ih orc D
                  else ih orc D
            else ih orc D
          else ih orc D
        else ih orc D) idx

theorem contQ_put {d : Option Tmp} {v : Value} : ∀ c (a : Act) w, contQ P (bPost P fn R) k (.panic c) (a.put d v) w → contQ P (bPost P fn R) k (.panic c) a w := by
  intro c a w h
  cases d with
  | none => exact h
  | some d => exact h

theorem WD.pass {w : World} {idx : List Nat} {fl : Bool} (hg0 : Gl gl w0) (hdis : Dis gl M) (hsel : Region.noSelect ops = true) (hfl : fl = true → Reach M w0 Ls w) : ∀ {orc : List Nat} {D : DSt},
    (passD P fn.ntmps Ls gl U ops fl idx orc D).2.map Prod.fst = (passD P fn.ntmps Ls gl U ops fl idx orc D).2.map Prod.snd →
    WD P fn R M w0 Ls U ops k (passD P fn.ntmps Ls gl U ops fl idx orc D).1 w → WD P fn R M w0 Ls U ops k D w := by
  induction idx with
  | nil => intro orc D _ h; exact h
  | cons i is ih =>
    intro orc D he h
    have hd : passD P fn.ntmps Ls gl U ops fl (i :: is) orc D = (match ops[i]? with
      | none => passD P fn.ntmps Ls gl U ops fl is orc D
      | some o => bif readyB ops D.listed o i then
          bif Region.free .any ops D.listed i then
            bif fuelD D then
              match opOut P fn.ntmps ops D.F D.G o with
              | some v => passD P fn.ntmps Ls gl U ops fl is orc (nxD ops D i v)
              | none => match orc with
                | [] => passD P fn.ntmps Ls gl U ops fl is orc D
                | e :: orc' => bif fl then
                    bif memN i U then
                      match load1 P Ls gl (headD fn.ntmps ops D i) e with
                      | some (v, a, a') => match passD P fn.ntmps Ls gl U ops fl is orc' (nxD ops D i v) with
                        | (D', l) => (D', (a, a') :: l)
                      | none => passD P fn.ntmps Ls gl U ops fl is orc D
                    else passD P fn.ntmps Ls gl U ops fl is orc D
                  else passD P fn.ntmps Ls gl U ops fl is orc D
            else passD P fn.ntmps Ls gl U ops fl is orc D
          else passD P fn.ntmps Ls gl U ops fl is orc D
        else passD P fn.ntmps Ls gl U ops fl is orc D) := by cases orc <;> rfl
    rw [hd] at he h
    cases ho : ops[i]? with
    | none => rw [ho] at he h; exact ih he h
    | some o =>
      rw [ho] at he h
      simp only at he h
      cases hr : readyB ops D.listed o i with
      | false => rw [hr] at he h; exact ih he h
      | true =>
        rw [hr] at he h
        simp only [cond_true] at he h
        cases hfr : Region.free .any ops D.listed i with
        | false => rw [hfr] at he h; exact ih he h
        | true =>
          rw [hfr] at he h
          simp only [cond_true] at he h
          cases hfu : fuelD D with
          | false => rw [hfu] at he h; exact ih he h
          | true =>
            rw [hfu] at he h
            simp only [cond_true] at he h
            have hready := readyB_spec ho hr
            obtain ⟨listed, fuel, F, G, flr⟩ := D
            cases fuel with
            | zero => cases hfu
            | succ f =>
              cases hv : opOut P fn.ntmps ops F G o with
              | some v =>
                rw [hv] at he h
                simp only at he h
                obtain ⟨hp, hy⟩ := opOut_spec hv
                intro hcl a ha
                refine wpAnyG_first (v := v) ho (Region.noSelect_spec hsel) contQ_put (fun _ => True) (fun _ _ _ _ _ _ _ _ _ => trivial) f listed a w (Region.free_spec ho hfr) hcl hready ?_ trivial ?_
                · rcases hy with ⟨hw, hx⟩ | ⟨hw, rfl⟩
                  · exact .inl ⟨by rw [ha.wanted]; exact hw, fun w _ => by rw [ha.eval]; exact hx w⟩
                  · exact .inr ⟨by rw [ha.wanted]; exact hw, rfl⟩
                · have := ih he h (Closed.ready hcl hready) (a.put o.dst v) (by simp only [nxD, dstOf, ho, Option.bind_some]; exact ha.puto hp v)
                  exact this
              | none =>
                rw [hv] at he h
                simp only at he h
                cases orc with
                | nil => exact ih he h
                | cons e orc' =>
                  simp only at he h
                  cases hflv : fl with
                  | false => rw [hflv] at he h hfl ih; exact ih he h
                  | true =>
                    rw [hflv] at he h hfl ih
                    simp only [cond_true] at he h
                    cases hm : memN i U with
                    | false => rw [hm] at he h; exact ih he h
                    | true =>
                      rw [hm] at he h
                      simp only [cond_true] at he h
                      cases hl : load1 P Ls gl (headD fn.ntmps ops ⟨listed, f + 1, F, G, flr⟩ i) e with
                      | none => rw [hl] at he h; exact ih he h
                      | some r =>
                        obtain ⟨v, ad, ad'⟩ := r
                        rw [hl] at he h
                        simp only [List.map_cons, List.cons.injEq] at he
                        intro hcl a ha
                        have hg := hfl rfl
                        obtain ⟨o', ho', _⟩ := load1_run hl he.1 (hg0.reach hdis hg) hg
                        obtain ⟨ho2, hp, hw⟩ := headD_spec ho'
                        rw [ho] at ho2
                        cases ho2
                        refine wpAnyG_first (v := v) ho (Region.noSelect_spec hsel) contQ_put (Reach M w0 Ls)
                          (fun j oj hoj hne hno w1 w2 h1 h2 => h2 (sreq_of_mem hm hne hno) h1) f listed a w (Region.free_spec ho hfr) hcl hready ?_ hg ?_
                        · refine .inl ⟨by rw [ha.wanted]; exact hw, fun w' hw' => ?_⟩
                          obtain ⟨o2, ho2, hr2⟩ := load1_run hl he.1 (hg0.reach hdis hw') hw'
                          rw [ho'] at ho2
                          cases ho2
                          rw [ha.eval]
                          exact hr2
                        · exact ih he.2 h (Closed.ready hcl hready) (a.put o.dst v) (by simp only [nxD, dstOf, ho, Option.bind_some]; exact ha.puto hp v)

/-! ### the events -/
/-- inside a region that draws: L is known; Ls is what stands as long as an operation of U may come (fl: it still stands) -/
def VD (P : Program) (fn : Func) (R : Ending → World → Prop) (gl : Gls) (M : List Nat) (w0 : World) (Ls : List Ent) (U : List Nat) (ops : Array Oper) (k : List Item) (L : List Ent) (fl : Bool) (D : DSt) : Prop :=
  Gl gl w0 → Dis gl M → Region.noSelect ops = true → (fl = true → List.Sublist Ls L) → ∀ w, Reach M w0 L w → WD P fn R M w0 Ls U ops k D w

def drawOps (S : St) : Array Oper := match S.todo with | .code (.region _ ops true) :: _ => ops | _ => #[]
def drawK (S : St) : List Item := match S.todo with | .code (.region _ _ true) :: k => k | _ => []
def isDraw (S : St) : Bool := match S.todo with | .code (.region _ ops true) :: _ => Region.noSelect ops | _ => false
def startD (S : St) : DSt := ⟨Array.replicate (drawOps S).size false, (drawOps S).size, S.F, S.G, S.fl⟩
noncomputable def passS (P : Program) (n : Nat) (Ls : List Ent) (gl : Gls) (U : List Nat) (ops : Array Oper) (fl : Bool) (orc : List Nat) (D : DSt) : DSt := (passD P n Ls gl U ops fl (List.range ops.size) orc D).1
noncomputable def passX (P : Program) (n : Nat) (Ls : List Ent) (gl : Gls) (U : List Nat) (ops : Array Oper) (fl : Bool) (orc : List Nat) (D : DSt) : List Addr := (passD P n Ls gl U ops fl (List.range ops.size) orc D).2.map Prod.fst
noncomputable def passY (P : Program) (n : Nat) (Ls : List Ent) (gl : Gls) (U : List Nat) (ops : Array Oper) (fl : Bool) (orc : List Nat) (D : DSt) : List Addr := (passD P n Ls gl U ops fl (List.range ops.size) orc D).2.map Prod.snd
def noSel (ops : Array Oper) : Bool := Region.noSelect ops
def mixed (P : Program) : Bool := P.follows .mixedOrders

theorem closed_start (md : Region.Mode) (ops : Array Oper) : Closed md ops (Array.replicate ops.size false) := by
  intro j oj hoj hl
  exfalso
  rw [Array.getD_eq_getD_getElem?, Array.getElem?_replicate] at hl
  split at hl <;> cases hl
/-- the region begins: U: the loads; Ls: what they read out of (here: all that is known) -/
theorem V.draw {S : St} (U : List Nat) (hm : mixed P = true) (h : isDraw (A P fn S) = true)
    (kk : VD P fn R gl M w0 L U (drawOps (A P fn S)) (drawK (A P fn S)) L true (startD (A P fn S))) : V P fn R gl M w0 L S := by
  refine V.adv fun hg hd w hw => ?_
  have hk := fun hn => kk hg hd hn (fun _ => List.Sublist.refl _) { w with drawn := w.drawn + 1 } (hw.drawn _ (Nat.le_succ _))
  generalize A P fn S = T at *
  obtain ⟨todo, F, G, flr⟩ := T
  unfold isDraw at h
  split at h
  · rename_i id ops k2 htodo
    simp only at htodo
    subst htodo
    simp only [drawOps, drawK, startD] at hk
    intro a ha
    refine MW.of_wp (wp_region_any (id := id) hm (wpAny_of_G _ _ _ _ (hk h (closed_start _ _) a ha)))
  · cases h
def isLoad (o : Oper) : Bool := match o.op with | .load .. => true | _ => false
/-- the numbers of all loads -/
def loadsU (ops : Array Oper) : List Nat := (List.range ops.size).filter fun i => match ops[i]? with | some o => isLoad o | none => false
theorem V.drawn {S : St} (hm : mixed P = true) (h : isDraw (A P fn S) = true)
    (kk : VD P fn R gl M w0 L (loadsU (drawOps (A P fn S))) (drawOps (A P fn S)) (drawK (A P fn S)) L true (startD (A P fn S))) : V P fn R gl M w0 L S := V.draw _ hm h kk
theorem VD.loads {D : DSt} {fl : Bool} (orc : List Nat) (he : passX P fn.ntmps Ls gl U ops fl orc D = passY P fn.ntmps Ls gl U ops fl orc D)
    (kk : VD P fn R gl M w0 Ls U ops k L fl (passS P fn.ntmps Ls gl U ops fl orc D)) : VD P fn R gl M w0 Ls U ops k L fl D :=
  fun hg hd hn hsub w hw => WD.pass hg hd hn (fun h => hw.sub (hsub h)) he (kk hg hd hn hsub w hw)
/-- behind the copies and the arithmetic that may be taken now -/
noncomputable def BD (P : Program) (fn : Func) (ops : Array Oper) (D : DSt) : DSt := (passD P fn.ntmps [] [] [] ops false (List.range ops.size) [] D).1
theorem passD_none {n : Nat} {gl : Gls} {Ls : List Ent} {U : List Nat} {ops : Array Oper} : ∀ {idx : List Nat} {D : DSt}, (passD P n Ls gl U ops false idx [] D).2 = [] ∧ (passD P n Ls gl U ops false idx [] D).1 = (passD P n [] [] [] ops false idx [] D).1 := by
  intro idx
  induction idx with
  | nil => intro D; exact ⟨rfl, rfl⟩
  | cons i is ih =>
    intro D
    have hd : ∀ (Ls : List Ent) (gl : Gls) (U : List Nat), passD P n Ls gl U ops false (i :: is) [] D = (match ops[i]? with
      | none => passD P n Ls gl U ops false is [] D
      | some o => bif readyB ops D.listed o i then
          bif Region.free .any ops D.listed i then
            bif fuelD D then
              match opOut P n ops D.F D.G o with
              | some v => passD P n Ls gl U ops false is [] (nxD ops D i v)
              | none => passD P n Ls gl U ops false is [] D
            else passD P n Ls gl U ops false is [] D
          else passD P n Ls gl U ops false is [] D
        else passD P n Ls gl U ops false is [] D) := fun _ _ _ => rfl
    rw [hd Ls gl U, hd [] [] []]
    cases ops[i]? with
    | none => exact ih
    | some o =>
      simp only
      cases readyB ops D.listed o i with
      | false => exact ih
      | true =>
        simp only [cond_true]
        cases Region.free .any ops D.listed i with
        | false => exact ih
        | true =>
          simp only [cond_true]
          cases fuelD D with
          | false => exact ih
          | true =>
            simp only [cond_true]
            cases opOut P n ops D.F D.G o with
            | none => exact ih
            | some v => exact ih
theorem VD.adv0 {D : DSt} {fl : Bool} (kk : VD P fn R gl M w0 Ls U ops k L fl (BD P fn ops D)) : VD P fn R gl M w0 Ls U ops k L fl D :=
  fun hg hd hn hsub w hw => by
    have h0 := passD_none (P := P) (n := fn.ntmps) (gl := gl) (Ls := Ls) (U := U) (ops := ops) (idx := List.range ops.size) (D := D)
    have hk := kk hg hd hn hsub w hw
    unfold Ev.BD at hk
    rw [← h0.2] at hk
    exact WD.pass (fl := false) hg hd hn (fun h => absurd h Bool.false_ne_true) (by rw [h0.1]; rfl) hk
def endD (k : List Item) (D : DSt) : St := ⟨k, D.F, [], D.fl⟩
theorem VD.done {D : DSt} {fl : Bool} (hr : readyD ops (BD P fn ops D) = []) (kk : V P fn R gl M w0 L (endD k (BD P fn ops D))) : VD P fn R gl M w0 Ls U ops k L fl D :=
  VD.adv0 fun hg hd _ _ w hw => WD.done (G0 := []) (f0 := (BD P fn ops _).fl) hr (kk hg hd w hw)
/-- the only one that may come up -/
theorem VD.one {D : DSt} {fl : Bool} (i : Nat) (hr : readyD ops (BD P fn ops D) = [i]) (hf : fuelD (BD P fn ops D) = true)
    (h : Gl gl w0 → Dis gl M → Region.noSelect ops = true → (fl = true → List.Sublist Ls L) → ∀ w, Reach M w0 L w → Does P (headD fn.ntmps ops (BD P fn ops D) i) w (fun v w' => (sreq .any ops U i = true → Reach M w0 Ls w → Reach M w0 Ls w') ∧ WD P fn R M w0 Ls U ops k (nxD ops (BD P fn ops D) i v) w')) :
    VD P fn R gl M w0 Ls U ops k L fl D :=
  VD.adv0 fun hg hd hn hsub w hw => WD.all [i] hr (by simp) hf (fun j hj => by simp only [List.mem_singleton] at hj; subst hj; exact h hg hd hn hsub w hw)
theorem VD.callp {D : DSt} {fl : Bool} {g : Nat} {args : Array Value} {v : Value} (hc : PureFn P gl g args v) (i : Nat) (hr : readyD ops (BD P fn ops D) = [i]) (hf : fuelD (BD P fn ops D) = true)
    (h : callH P (headD fn.ntmps ops (BD P fn ops D) i) = some (g, args)) (kk : VD P fn R gl M w0 Ls U ops k L fl (nxD ops (BD P fn ops D) i v)) : VD P fn R gl M w0 Ls U ops k L fl D :=
  VD.one i hr hf fun hg hd hn hsub w hw => by
    refine does_call h (hc w (hg.reach hd hw)) fun e w' he => ⟨v, he.1, fun _ h0 => ?_, kk hg hd hn hsub w' ?_⟩
    · have := h0.call0 he.2; rwa [List.append_nil] at this
    · have := hw.call0 he.2; rwa [List.append_nil] at this
/-- a call that takes over the first c entries of L (behind which no operation of U comes, or c = 0) -/
theorem VD.callc {D : DSt} {fl : Bool} (c : Nat) {X : Type} {Pw : World → Prop} {C : List Ent} {val : X → Value} {φ : X → Prop} {C' : X → List Ent} {g : Nat} {args : Array Value}
    (hc : Spec P gl g args Pw C val φ C') (hC : L.take c = C) (i : Nat) (hr : readyD ops (BD P fn ops D) = [i]) (hf : fuelD (BD P fn ops D) = true) (hq : sreq .any ops U i = false)
    (h : callH P (headD fn.ntmps ops (BD P fn ops D) i) = some (g, args)) (hp : ∀ w, Reach M w0 L w → Pw w)
    (kk : ∀ x, φ x → VD P fn R gl M w0 Ls U ops k (C' x ++ L.drop c) false (nxD ops (BD P fn ops D) i (val x))) : VD P fn R gl M w0 Ls U ops k L fl D :=
  VD.one i hr hf fun hg hd hn _ w hw => (does_callc c hc hC hg hd hw (hp w hw) h).mono fun _ w' hu => by
    obtain ⟨x, rfl, hφ, hx, _⟩ := hu
    exact ⟨fun h0 _ => absurd h0 (by rw [hq]; exact Bool.false_ne_true), kk x hφ hg hd hn (fun h0 => absurd h0 Bool.false_ne_true) w' hx⟩
theorem VD.call0 {D : DSt} {fl : Bool} {X : Type} {Pw : World → Prop} {val : X → Value} {φ : X → Prop} {C' : X → List Ent} {g : Nat} {args : Array Value}
    (hc : Spec P gl g args Pw [] val φ C') (i : Nat) (hr : readyD ops (BD P fn ops D) = [i]) (hf : fuelD (BD P fn ops D) = true)
    (h : callH P (headD fn.ntmps ops (BD P fn ops D) i) = some (g, args)) (hp : ∀ w, Reach M w0 L w → Pw w)
    (kk : ∀ x, φ x → VD P fn R gl M w0 Ls U ops k (L ++ C' x) fl (nxD ops (BD P fn ops D) i (val x))) : VD P fn R gl M w0 Ls U ops k L fl D :=
  VD.one i hr hf fun hg hd hn hsub w hw => by
    refine does_call h (hc w (hg.reach hd hw) (Dis.nil gl) (Reach.refl w) (hp w hw)) fun e w' he => ?_
    obtain ⟨x, he1, hφ, hx⟩ := he
    exact ⟨val x, he1, fun _ h0 => (h0.call0 hx).sub (List.sublist_append_left _ _), kk x hφ hg hd hn (fun hh => (hsub hh).trans (List.sublist_append_left _ _)) w' (hw.call0 hx)⟩
theorem VD.new {D : DSt} {fl : Bool} (i : Nat) (hr : readyD ops (BD P fn ops D) = [i]) (hf : fuelD (BD P fn ops D) = true) (h : ∀ b, newChk P (headD fn.ntmps ops (BD P fn ops D) i) b = true)
    (kk : ∀ b, VD P fn R gl M w0 Ls U ops k (L ++ [.blk b (newObj P (headD fn.ntmps ops (BD P fn ops D) i))]) fl (nxD ops (BD P fn ops D) i (newVal P (headD fn.ntmps ops (BD P fn ops D) i) b))) : VD P fn R gl M w0 Ls U ops k L fl D :=
  VD.one i hr hf fun hg hd hn hsub w hw => by
    have h2 := fun (h0 : Reach M w0 Ls w) => does_new (h w.heap.size) h0
    have h1 := does_new (h w.heap.size) hw
    obtain ⟨o, ho, hh⟩ := h1
    refine ⟨o, ho, ?_⟩
    rcases hh with ⟨v, w', hx, hv, hr2⟩ | ⟨w', hx, hv, hr2⟩ | ⟨g, args, w1, R', hx, hc, hk⟩
    · refine .inl ⟨v, w', hx, fun _ h0 => ?_, ?_⟩
      · obtain ⟨o2, ho2, hh2⟩ := h2 h0
        rw [ho] at ho2; cases ho2
        rcases hh2 with ⟨v2, w2, hx2, _, hr3⟩ | ⟨w2, hx2, _, _⟩ | ⟨g, args, w1, R', hx2, _, _⟩
        · rw [hx] at hx2; cases hx2; exact hr3.sub (List.sublist_append_left _ _)
        · rw [hx] at hx2; cases hx2
        · rw [hx] at hx2; cases hx2
      · rw [hv]; exact kk _ hg hd hn (fun q => (hsub q).trans (List.sublist_append_left _ _)) w' hr2
    · refine .inr (.inl ⟨w', hx, fun _ h0 => ?_, ?_⟩)
      · obtain ⟨o2, ho2, hh2⟩ := h2 h0
        rw [ho] at ho2; cases ho2
        rcases hh2 with ⟨v2, w2, hx2, _, hr3⟩ | ⟨w2, hx2, _, hr3⟩ | ⟨g, args, w1, R', hx2, _, _⟩
        · rw [hx] at hx2; cases hx2
        · rw [hx] at hx2; cases hx2; exact hr3.sub (List.sublist_append_left _ _)
        · rw [hx] at hx2; cases hx2
      · rw [hv]; exact kk _ hg hd hn (fun q => (hsub q).trans (List.sublist_append_left _ _)) w' hr2
    · exfalso
      have hn := h w.heap.size
      unfold newChk newH at hn
      rw [ho] at hn
      simp only at hn
      cases hs : newSem P (execOp (evl (headD fn.ntmps ops (BD P fn ops D) i).1) o) with
      | none => rw [hs] at hn; cases hn
      | some of =>
        obtain ⟨ob, f⟩ := of
        rw [hs] at hn
        simp only at hn
        cases hf2 : f w.heap.size with
        | none => rw [hf2] at hn; cases hn
        | some nx =>
          rw [hf2] at hn
          cases nx with
          | value v => rw [newSem_run hs hf2] at hx; cases hx
          | _ => cases hn
/-- a store behind which no operation of U can come -/
theorem VD.store {D : DSt} {fl : Bool} (i : Nat) (hr : readyD ops (BD P fn ops D) = [i]) (hf : fuelD (BD P fn ops D) = true) (hq : sreq .any ops U i = false) (e : Nat) (he : entOk L e = true)
    (h : storeH (headD fn.ntmps ops (BD P fn ops D) i) = some (⟨entB L e, storeOff (headD fn.ntmps ops (BD P fn ops D) i), none⟩, storeT (headD fn.ntmps ops (BD P fn ops D) i), storeV (headD fn.ntmps ops (BD P fn ops D) i)))
    (hk : storeChk P (headD fn.ntmps ops (BD P fn ops D) i) (entC L e).size = true)
    (kk : VD P fn R gl M w0 Ls U ops k (L.set e (.blk (entB L e) (.cells (storeOut (headD fn.ntmps ops (BD P fn ops D) i) (entC L e)) (entT L e) (0, 0)))) false (nxD ops (BD P fn ops D) i undef)) : VD P fn R gl M w0 Ls U ops k L fl D :=
  VD.one i hr hf fun hg hd hn _ w hw => (does_store e he h hk hw).mono fun _ w' hu => by
    obtain ⟨rfl, hx⟩ := hu
    exact ⟨fun h0 _ => absurd h0 (by rw [hq]; exact Bool.false_ne_true), kk hg hd hn (fun h0 => absurd h0 Bool.false_ne_true) w' hx⟩
/-- number i may be taken first -/
def takeOk (ops : Array Oper) (D : DSt) (i : Nat) : Bool :=
  match ops[i]? with
  | some o => bif readyB ops D.listed o i then (bif Region.free .any ops D.listed i then fuelD D else false) else false
  | none => false
theorem WD.take {D : DSt} {w : World} {i : Nat} {v : Value} (hsel : Region.noSelect ops = true) (ht : takeOk ops D i = true) (S' : World → Prop) (hw : S' w)
    (hS' : ∀ j oj, ops[j]? = some oj → j ≠ i → ancOf .any ops i 5 j = false → ∀ w w', S' w → (sreq .any ops U j = true → Reach M w0 Ls w → Reach M w0 Ls w') → S' w')
    (hx : ∀ w, S' w → ∃ o, (headD fn.ntmps ops D i).2 = some o ∧ (execOp (evl D.F) o).run P w = .ok (.value v) w) (h : WD P fn R M w0 Ls U ops k (nxD ops D i v) w) : WD P fn R M w0 Ls U ops k D w := by
  unfold takeOk at ht
  cases ho : ops[i]? with
  | none => rw [ho] at ht; cases ht
  | some o =>
    rw [ho] at ht
    simp only at ht
    cases hr : readyB ops D.listed o i with
    | false => rw [hr] at ht; cases ht
    | true =>
      rw [hr] at ht
      simp only [cond_true] at ht
      cases hfr : Region.free .any ops D.listed i with
      | false => rw [hfr] at ht; cases ht
      | true =>
        rw [hfr] at ht
        simp only [cond_true] at ht
        have hready := readyB_spec ho hr
        obtain ⟨listed, fuel, F, G, flr⟩ := D
        cases fuel with
        | zero => cases ht
        | succ f =>
          intro hcl a ha
          obtain ⟨o', ho', _⟩ := hx w hw
          obtain ⟨ho2, hp, hwn⟩ := headD_spec ho'
          rw [ho] at ho2
          cases ho2
          refine wpAnyG_first (v := v) ho (Region.noSelect_spec hsel) contQ_put S' hS' f listed a w (Region.free_spec ho hfr) hcl hready ?_ hw ?_
          · refine .inl ⟨by rw [ha.wanted]; exact hwn, fun w' hw' => ?_⟩
            obtain ⟨o2, ho2, hr2⟩ := hx w' hw'
            rw [ho'] at ho2
            cases ho2
            rw [ha.eval]
            exact hr2
          · exact h (Closed.ready hcl hready) (a.put o.dst v) (by simp only [nxD, dstOf, ho, Option.bind_some]; exact ha.puto hp v)
/-- an operation that yields this value whatever memory is -/
theorem VD.take {D : DSt} {fl : Bool} (i : Nat) (v : Value) (ht : takeOk ops (BD P fn ops D) i = true)
    (hx : ∀ w, ∃ o, (headD fn.ntmps ops (BD P fn ops D) i).2 = some o ∧ (execOp (evl (headD fn.ntmps ops (BD P fn ops D) i).1) o).run P w = .ok (.value v) w)
    (kk : VD P fn R gl M w0 Ls U ops k L fl (nxD ops (BD P fn ops D) i v)) : VD P fn R gl M w0 Ls U ops k L fl D :=
  VD.adv0 fun hg hd hn hsub w hw => WD.take hn ht (fun _ => True) trivial (fun _ _ _ _ _ _ _ _ _ => trivial) (fun w _ => hx w) (kk hg hd hn hsub w hw)
/-- an operation of U that yields this value as long as what is known stands -/
theorem VD.takef {D : DSt} (i : Nat) (v : Value) (ht : takeOk ops (BD P fn ops D) i = true) (hU : memN i U = true)
    (hx : Gl gl w0 → ∀ w, Gl gl w → Reach M w0 Ls w → ∃ o, (headD fn.ntmps ops (BD P fn ops D) i).2 = some o ∧ (execOp (evl (headD fn.ntmps ops (BD P fn ops D) i).1) o).run P w = .ok (.value v) w)
    (kk : VD P fn R gl M w0 Ls U ops k L true (nxD ops (BD P fn ops D) i v)) : VD P fn R gl M w0 Ls U ops k L true D :=
  VD.adv0 fun hg hd hn hsub w hw => WD.take hn ht (Reach M w0 Ls) (hw.sub (hsub rfl)) (fun j oj hoj hne hno w1 w2 h1 h2 => h2 (sreq_of_mem hU hne hno) h1)
    (fun w' hw' => hx hg w' (hg.reach hd hw') hw') (kk hg hd hn hsub w hw)
theorem VD.idx {D : DSt} {fl : Bool} (i : Nat) (b o len size j : Nat) (kd : IntKind) (ht : takeOk ops (BD P fn ops D) i = true) (h : idxH P (headD fn.ntmps ops (BD P fn ops D) i) = some (some ⟨b, o, none⟩, len, .int kd (j : Int), size)) (hj : j < len)
    (kk : VD P fn R gl M w0 Ls U ops k L fl (nxD ops (BD P fn ops D) i (.pointer (some ⟨b, o + j * size, none⟩)))) : VD P fn R gl M w0 Ls U ops k L fl D :=
  VD.take i _ ht (fun w => idx_run (w := w) h hj) kk
theorem VD.loadf {D : DSt} (i : Nat) (ad : Addr) (t : TypeId) (v : Value) (ht : takeOk ops (BD P fn ops D) i = true) (hU : memN i U = true) (h : loadH (headD fn.ntmps ops (BD P fn ops D) i) = some (ad, t))
    (hv : Gl gl w0 → ∀ w, Reach M w0 Ls w → (loadVar t ad).run P w = .ok v w)
    (kk : VD P fn R gl M w0 Ls U ops k L true (nxD ops (BD P fn ops D) i v)) : VD P fn R gl M w0 Ls U ops k L true D :=
  VD.takef i v ht hU (fun hg w _ hw => load_run h (hv hg w hw)) kk
attribute [irreducible] takeOk BD loadsU nxD headD readyD fuelD sreq drawOps drawK isDraw startD passS passX passY noSel mixed endD
end Go.Ev
