/- Shown here: Walks: a range over a function: the rounds, the statement, the call of yield. Conditions: none beyond those in each theorem. -/
import Derived.RangeFuncLeaves
import Derived.Test.YtpnknnlnkmhgpaaGreatDoorK11
namespace Go.Ev
open Go
variable {P : Program} {fn : Func} {R : Ending → World → Prop} {gl : Gls} {M : List Nat} {w0 : World} {L : List Ent} {S : St}

/-! ### an object put in the place of another -/
theorem Reach.put {w : World} {b : Nat} {o o' : Obj} (h : w.heap[b]? = some o) : Reach [b] w [.blk b o'] (w.putObj b o') := by
  have hlt : b < w.heap.size := (Array.getElem?_eq_some_iff.1 h).1
  refine ⟨rfl, rfl, rfl, Nat.le_refl _, by simp, fun k hk hM => ?_, ?_, by simp [feet, Ent.foot], by simp [feet, Ent.foot]⟩
  · exact World.putObj_heap_other (by simpa using hM)
  · intro E hE
    simp only [List.mem_singleton] at hE
    subst hE
    exact World.putObj_heap_same hlt
theorem Reach.setb {M w0 w} {i b : Nat} {o o' : Obj} (hw : Reach M w0 L w) (hi : L[i]? = some (.blk b o)) : Reach M w0 (L.set i (.blk b o')) (w.putObj b o') := by
  have h : w.heap[b]? = some o := hw.ents _ (List.mem_of_getElem? hi)
  have := hw.set1 (i := i) hi (b := b) rfl (Reach.put h (o' := o'))
  rwa [List.append_nil] at this

/-! ### inside a round -/
def WR (P : Program) (l n : Nat) (K : World → Prop) (S : St) (w : World) : Prop :=
  ∀ a, Rel n S.F [] a → ∀ (b : Frame) cs, b.roundOf = some l → ∃ a' w', K w' ∧ Steps P (lone (b.atR a S.todo) cs w) (lone (b.atR a' []) cs w')
variable {l n : Nat} {K : World → Prop} {w : World}
theorem WR.fin (h : S.todo = []) (hK : K w) : WR P l n K S w := fun a _ b cs _ => ⟨a, w, hK, by rw [h]; exact .refl ..⟩
theorem WR.steps {T : St} {w' : World} (h : ∀ a, Rel n S.F [] a → ∃ a', Rel n T.F [] a' ∧ ∀ (b : Frame) cs, b.roundOf = some l → Steps P (lone (b.atR a S.todo) cs w) (lone (b.atR a' T.todo) cs w'))
    (k : WR P l n K T w') : WR P l n K S w := by
  intro a ha b cs hb
  obtain ⟨a', ha', hs⟩ := h a ha
  obtain ⟨a2, w2, hK, hs2⟩ := k a' ha' b cs hb
  exact ⟨a2, w2, hK, (hs b cs hb).trans hs2⟩
theorem stCode_specR {c : Code} {k k' : List Item} {a : Act} (h : stCode c k = some k') (b : Frame) (cs : List Frame) :
    Steps P (lone (b.atR a (.code c :: k)) cs w) (lone (b.atR a k') cs w) := by
  cases c with
  | skip => cases h; exact .one stepR_skip
  | label l => cases h; exact .one stepR_label
  | seq x y => cases h; exact .one stepR_seq
  | block id body => cases h; exact .one stepR_block
  | exit id => exact .one (stepR_exit h)
  | region id ops draw =>
    cases draw with
    | true => cases h
    | false => cases h; exact .one stepR_region
  | cond c x y => cases h
  | loop c => cases h
  | rangeFunc f p x y => cases h
  | scope c => cases h
  | goto l => cases h
  | ret => cases h
  | refuse s => cases h
section rops
variable {ops : Array Oper} {i : Nat} {rest : List Nat} {o : Oper} {k : List Item} {b : Frame} {cs : List Frame} {w' : World} {v : Value} {a : Act}
def noDefer (o : Oper) : Prop := ∀ c, o.op ≠ .defer c
theorem stepR_value (ho : ops[i]? = some o) (hw : Region.wanted o (Go.yielded ops a.tmps) = true) (hr : (execOp a.eval o).run P w = .ok (.value v) w') (hd : noDefer o) :
    step P (lone (b.atR a (.inRegion ops (i :: rest) :: k)) cs w) = .next (lone (b.atR (a.put o.dst v) (.inRegion ops rest :: k)) cs w') := by
  have hf : (b.atR a (.inRegion ops (i :: rest) :: k)).finish v = b.atR (a.put o.dst v) (.inRegion ops rest :: k) := by rw [Frame.finish_atR, ho]; rfl
  exact step_lone_go (by rw [stepGR_op ho hw, Oper.semAt_eq _ _ _ hd, ← hf]; simp [stepG.apply, hr])
theorem stepR_unwanted (ho : ops[i]? = some o) (hw : Region.wanted o (Go.yielded ops a.tmps) = false) :
    step P (lone (b.atR a (.inRegion ops (i :: rest) :: k)) cs w) = .next (lone (b.atR (a.put o.dst undef) (.inRegion ops rest :: k)) cs w) := by
  have h := stepR_op_skip (P := P) (b := b) (a := a) (k := k) (cs := cs) (w := w) (ops := ops) (i := i) (rest := rest) (by simp [ho, hw])
  simpa [ho] using h
end rops
def isDefer : Next → Bool | .defer _ => true | _ => false
theorem noDefer_of {ρ : Operand → Value} {o : Oper} {w w' : World} {x : Next} (h : (execOp ρ o).run P w = .ok x w') (hx : isDefer x = false) : noDefer o := by
  intro c hc
  unfold execOp at h
  rw [hc] at h
  simp only [Sem.run_bind] at h
  cases h2 : (resolve ρ c o.type).run P w with
  | ok d w2 => rw [h2] at h; simp [Result.andThen, pure] at h; rw [← h.1] at hx; cases hx
  | halt x w2 => rw [h2] at h; simp [Result.andThen] at h
theorem noDefer_of_value {ρ : Operand → Value} {o : Oper} {w w' : World} {v : Value} (h : (execOp ρ o).run P w = .ok (.value v) w') : noDefer o := noDefer_of h rfl
theorem WR.st1 {S' : St} (h : Ev.st1 P n S = some S') (hw : WR P l n K S' w) : WR P l n K S w := by
  obtain ⟨todo, F, G, fl⟩ := S
  unfold Ev.st1 at h
  cases hfl : Nat.ble (lenI todo) fl with
  | true => simp only [hfl, cond_true] at h; cases h
  | false =>
  simp only [hfl, cond_false] at h
  cases todo with
  | nil => cases h
  | cons x k =>
    cases x with
    | code c =>
      simp only at h
      cases hc : stCode c k with
      | none => rw [hc] at h; cases h
      | some k' =>
        rw [hc] at h
        cases h
        exact WR.steps (T := ⟨k', F, G, fl⟩) (fun a ha => ⟨a, ha, fun b cs _ => stCode_specR hc b cs⟩) hw
    | inBlock id => cases h; exact WR.steps (T := ⟨k, F, G, fl⟩) (fun a ha => ⟨a, ha, fun b cs _ => .one stepR_inBlock⟩) hw
    | inRegion ops li =>
      cases li with
      | nil => cases h; exact WR.steps (T := ⟨k, F, G, fl⟩) (fun a ha => ⟨a, ha, fun b cs _ => .one stepR_region_end⟩) hw
      | cons i is =>
        simp only at h
        cases ho : ops[i]? with
        | none => rw [ho] at h; cases h
        | some o =>
          rw [ho] at h
          simp only at h
          cases hv : opOut P n ops F G o with
          | none => rw [hv] at h; cases h
          | some v =>
            rw [hv] at h
            cases h
            obtain ⟨hp, ⟨hwn, hr⟩ | ⟨hwn, rfl⟩⟩ := opOut_spec hv
            · exact WR.steps (T := ⟨_, updo F o.dst v, _, _⟩) (fun a ha => ⟨_, ha.puto hp v, fun b cs _ => .one (stepR_value ho (by rw [ha.wanted, hwn]) (by rw [ha.eval]; exact hr w) (noDefer_of_value (hr w)))⟩) hw
            · exact WR.steps (T := ⟨_, updo F o.dst undef, _, _⟩) (fun a ha => ⟨_, ha.puto hp undef, fun b cs _ => .one (stepR_unwanted ho (by rw [ha.wanted, hwn]))⟩) hw
    | _ => cases h
theorem adv_succ (m : Nat) (S : St) : Ev.adv P n (m + 1) S = (match Ev.st1 P n S with | some S' => Ev.adv P n m S' | none => S) := by
  unfold Ev.adv; rfl
theorem adv_zero (S : St) : Ev.adv P n 0 S = S := by unfold Ev.adv; rfl
theorem WR.adv {m : Nat} : ∀ {S : St}, WR P l n K (Ev.adv P n m S) w → WR P l n K S w := by
  induction m with
  | zero => intro S h; rw [adv_zero] at h; exact h
  | succ m ih =>
    intro S h
    rw [adv_succ] at h
    split at h
    · rename_i S' hs; exact WR.st1 hs (ih h)
    · exact h
theorem WR.does (h : Does P (headS n S) w (fun v w' => WR P l n K (nx S v) w')) : WR P l n K S w := by
  obtain ⟨o, ho, h⟩ := h
  have ho' : opOf n S = some o := by unfold headS at ho; exact ho
  obtain ⟨ops, i, is, kk, htodo, ho, hp, hwn, hnx⟩ := opOf_spec ho'
  have hF : (headS n S).1 = S.F := by unfold headS; rfl
  rw [hF] at h
  rcases h with ⟨v, w', hr, k⟩ | ⟨w', hr, k⟩ | ⟨g, args, w1, R', hr, hc, k⟩
  · rw [hnx] at k
    refine WR.steps (T := ⟨_, updo S.F o.dst v, _, _⟩) (fun a ha => ⟨_, ha.puto hp v, fun b cs _ => ?_⟩) k
    rw [htodo]
    exact .one (stepR_value ho (by rw [ha.wanted, hwn]) (by rw [ha.eval]; exact hr) (noDefer_of_value hr))
  · rw [hnx] at k
    refine WR.steps (T := ⟨_, updo S.F o.dst undef, _, _⟩) (fun a ha => ⟨_, ha.puto hp undef, fun b cs _ => ?_⟩) k
    rw [htodo]
    have hf : (b.atR a (.inRegion ops (i :: is) :: kk)).finish undef = b.atR (a.put o.dst undef) (.inRegion ops is :: kk) := by rw [Frame.finish_atR, ho]; rfl
    refine .one (step_lone_go ?_)
    rw [stepGR_op ho (by rw [ha.wanted, hwn]), Oper.semAt_eq _ _ _ (noDefer_of hr rfl), ← hf, ha.eval]
    simp [stepG.apply, hr]
  · intro a ha b cs hb
    have hf : ∀ v, (b.atR a (.inRegion ops (i :: is) :: kk)).finish v = b.atR (a.put o.dst v) (.inRegion ops is :: kk) := fun v => by rw [Frame.finish_atR, ho]; rfl
    obtain ⟨e, w'', fr, hR, hsteps, _, hleave⟩ := hc (b.atR a (.inRegion ops (i :: is) :: kk) :: cs)
    have henter : step P (lone (b.atR a (.inRegion ops (i :: is) :: kk)) cs w) =
        .next (lone (Frame.enter P g args .normal) (b.atR a (.inRegion ops (i :: is) :: kk) :: cs) w1) :=
      step_lone_go (by rw [stepGR_op ho (by rw [ha.wanted, hwn]), Oper.semAt_eq _ _ _ (noDefer_of hr rfl), ha.eval]; simp [stepG.apply, hr, Frame.atR])
    obtain ⟨v, rfl, hk⟩ := k e w'' hR
    rw [hnx] at hk
    obtain ⟨a2, w2, hK, hs2⟩ := hk _ (ha.puto hp v) b cs hb
    refine ⟨a2, w2, hK, ?_⟩
    rw [htodo]
    refine .head henter (hsteps.trans (.head ?_ hs2))
    rw [← hf]; exact step_leave_returned hleave
def isBegin (S : St) : Bool := match S.todo with | .beginRound :: _ => true | _ => false
def begK (S : St) : St := match S.todo with | .beginRound :: k => ⟨k, S.F, S.G, S.fl⟩ | _ => S
theorem WR.begin {r : Loop} (h : isBegin S = true) (hl : w.heap[l]? = some (.loop r)) (hr : r.state = .ready) (k : WR P l n K (begK S) (w.putObj l (.loop { r with state := .busy }))) : WR P l n K S w := by
  obtain ⟨todo, F, G, fl⟩ := S
  unfold isBegin at h
  split at h
  · rename_i k2 ht
    simp only at ht
    subst ht
    exact WR.steps (T := ⟨k2, F, G, fl⟩) (fun a ha => ⟨a, ha, fun b cs hb => .one (stepR_beginRound hb (run_beginRound hl hr))⟩) k
  · cases h
/-- a round out of its walk -/
theorem RoundC.of_WR {f : FuncId} {tmps : Array Value} {F : Fr} {assign body : Code} {R : Ending → World → Prop} (ha : Rel n F [] { tmps := tmps, defers := [] })
    (h : WR P l n (fun w' => ∃ r, w'.heap[l]? = some (.loop r) ∧ R (.returned (.bool true)) (w'.putObj l (.loop { r with state := .ready, pending := none }))) ⟨[.code assign, .beginRound, .code body], F, [], 0⟩ w) :
    RoundC P l f tmps assign body w R := by
  intro c cs
  let b : Frame := { (default : Frame) with fn := f, kind := .normal, roundOf := some l }
  have hb0 : Frame.round l f tmps assign body .normal = b.atR { tmps := tmps, defers := [] } [.code assign, .beginRound, .code body] := by simp [Frame.round, Frame.atR, b]
  obtain ⟨a', w', ⟨r, hr, hK⟩, hs⟩ := h _ ha b (c :: cs) rfl
  rw [hb0]
  refine ⟨.bool true, _, hK, hs.trans (.one ?_)⟩
  have := run_endRound (P := P) none hr
  exact stepR_round_end rfl rfl this

/-! ### rounds at the level of what is known of memory -/
def VR (P : Program) (l : Nat) (fn : Func) (K : World → Prop) (gl : Gls) (M : List Nat) (w0 : World) (L : List Ent) (S : St) : Prop :=
  Gl gl w0 → Dis gl M → ∀ w, Reach M w0 L w → WR P l fn.ntmps K S w
theorem VR.adv (h : VR P l fn K gl M w0 L (A P fn S)) : VR P l fn K gl M w0 L S := fun hg hd w hw => WR.adv (m := 5000) (by have := h hg hd w hw; unfold A at this; exact this)
theorem VR.does (k : Gl gl w0 → Dis gl M → ∀ w, Reach M w0 L w → Does P (headS fn.ntmps (A P fn S)) w (fun v w' => WR P l fn.ntmps K (nx (A P fn S) v) w')) : VR P l fn K gl M w0 L S :=
  VR.adv fun hg hd w hw => WR.does (k hg hd w hw)
theorem VR.new (h : ∀ b, newChk P (headS fn.ntmps (A P fn S)) b = true)
    (k : ∀ b, VR P l fn K gl M w0 (L ++ [.blk b (newObj P (headS fn.ntmps (A P fn S)))]) (nx (A P fn S) (newVal P (headS fn.ntmps (A P fn S)) b))) : VR P l fn K gl M w0 L S :=
  VR.does fun hg hd _ hw => (does_new (h _) hw).mono fun _ w' hu => by obtain ⟨rfl, hr⟩ := hu; exact k _ hg hd w' hr
theorem VR.store (i : Nat) (he : entOk L i = true)
    (h : storeH (headS fn.ntmps (A P fn S)) = some (⟨entB L i, storeOff (headS fn.ntmps (A P fn S)), none⟩, storeT (headS fn.ntmps (A P fn S)), storeV (headS fn.ntmps (A P fn S))))
    (hk : storeChk P (headS fn.ntmps (A P fn S)) (entC L i).size = true)
    (k : VR P l fn K gl M w0 (L.set i (.blk (entB L i) (.cells (storeOut (headS fn.ntmps (A P fn S)) (entC L i)) (entT L i) (0, 0)))) (nx (A P fn S) undef)) : VR P l fn K gl M w0 L S :=
  VR.does fun hg hd _ hw => (does_store i he h hk hw).mono fun _ w' hu => by obtain ⟨rfl, hr⟩ := hu; exact k hg hd w' hr
theorem VR.append (i kx : Nat) (bytes : Nat) {t e size n m b c T : Nat} {v : Value} {xs : List Value} {cs : Array Value} (hi : L[i]? = some (.row v e size n xs)) (hk : L[kx]? = some (.blk b (.cells cs T (0, 0))))
    (h : appH P (headS fn.ntmps (A P fn S)) = some (t, e, v, .slice (some ⟨b, 0, none⟩) m c)) (ht : tyOk P e size bytes = true) (hl : Nat.beq cs.size (m * size) = true) (h1 : cs.all (fun u => u.oneCell') = true)
    (h63 : n + m ≤ maxLen) (hby : (n + m) * bytes ≤ 140737488355328)
    (kk : ∀ a' cap', VR P l fn K gl M w0 (L.set i (.row (.slice a' (n + m) cap') e size (n + m) (xs ++ cs.toList))) (nx (A P fn S) (.slice a' (n + m) cap'))) : VR P l fn K gl M w0 L S :=
  VR.does fun hg hd _ hw => (does_append h ht hi hw (Src.blk hw hk (Nat.eq_of_beq_eq_true hl) (fun u hu => (Array.all_eq_true_iff_forall_mem.1 h1 u (by simpa using hu)))) h63 hby).mono fun _ w' hu => by
    obtain ⟨a', cap', rfl, hr⟩ := hu
    exact kk a' cap' hg hd w' hr
theorem WR.advL {is : List Nat} (hg : Gl gl w) (hw : Reach M w0 L w) : ∀ {S : St}, (advL P n L gl is S).2.map Prod.fst = (advL P n L gl is S).2.map Prod.snd →
    WR P l n K (advL P n L gl is S).1 w → WR P l n K S w := by
  induction is with
  | nil => intro S _ h; exact h
  | cons i is ih =>
    intro S he h
    have hd : Ev.advL P n L gl (i :: is) S = (match load1 P L gl (headS n (Ev.adv P n 5000 S)) i with
      | some (v, a, a') => match Ev.advL P n L gl is (nx (Ev.adv P n 5000 S) v) with
        | (S', l) => (S', (a, a') :: l)
      | none => (Ev.adv P n 5000 S, [])) := rfl
    rw [hd] at he h
    cases hl : load1 P L gl (headS n (Ev.adv P n 5000 S)) i with
    | none => rw [hl] at h; exact WR.adv h
    | some r =>
      obtain ⟨v, a, a'⟩ := r
      rw [hl] at he h
      simp only [List.map_cons, List.cons.injEq] at he
      obtain ⟨o, ho, hr⟩ := load1_run hl he.1 hg hw
      exact WR.adv (WR.does ⟨o, ho, .inl ⟨v, w, hr, ih he.2 h⟩⟩)
theorem VR.loads (is : List Nat) (he : advX P fn.ntmps L gl is S = advY P fn.ntmps L gl is S) (k : VR P l fn K gl M w0 L (advS P fn.ntmps L gl is S)) : VR P l fn K gl M w0 L S :=
  fun hg hd w hw => WR.advL (hg.reach hd hw) hw (by unfold advX advY at he; exact he) (by have := k hg hd w hw; unfold advS at this; exact this)
theorem VR.begin (i : Nat) {r : Loop} (h : isBegin (A P fn S) = true) (hi : L[i]? = some (.blk l (.loop r))) (hr : r.state = .ready) (k : VR P l fn K gl M w0 (L.set i (.blk l (.loop { r with state := .busy }))) (begK (A P fn S))) : VR P l fn K gl M w0 L S :=
  VR.adv fun hg hd w hw => WR.begin h (hw.ents _ (List.mem_of_getElem? hi)) hr (k hg hd _ (hw.setb hi))
def isEnd (S : St) : Bool := match S.todo with | [] => true | _ => false
theorem isEnd_spec (h : isEnd S = true) : S.todo = [] := by unfold isEnd at h; split at h; assumption; cases h
/-- what a round's end must see: the record; behind it the record is ready -/
def REnd (l : Nat) (R : Ending → World → Prop) (w' : World) : Prop := ∃ r, w'.heap[l]? = some (.loop r) ∧ R (.returned (.bool true)) (w'.putObj l (.loop { r with state := .ready, pending := none }))
/-- the round ends: the entry of the loop's record is ready again -/
theorem VR.done (i : Nat) {r r' : Loop} {R : Ending → World → Prop} (h : isEnd (A P fn S) = true) (hi : L[i]? = some (.blk l (.loop r))) (hr : { r with state := .ready, pending := none } = r')
    (hR : ∀ w, Reach M w0 (L.set i (.blk l (.loop r'))) w → R (.returned (.bool true)) w) : VR P l fn (REnd l R) gl M w0 L S :=
  VR.adv fun _ _ w hw => WR.fin (isEnd_spec h) ⟨r, hw.ents _ (List.mem_of_getElem? hi), hR _ (by rw [hr]; exact hw.setb hi)⟩
theorem VR.conv {L' : List Ent} {S' : St} (hL : L = L') (hS : S = S') (k : VR P l fn K gl M w0 L' S') : VR P l fn K gl M w0 L S := by subst hL; subst hS; exact k
theorem VR.keep (idx : List Nat) (ho : okIdx idx L.length = true) (k : VR P l fn K gl M w0 (pick L idx) S) : VR P l fn K gl M w0 L S := fun hg hd w hw => k hg hd w (hw.pick ho)

theorem Reach.picked {M w0 w} {L' : List Ent} (h : Reach M w0 L w) (idx : List Nat) (ho : okIdx idx L.length = true) (e : Ev.pick L idx = L') : Reach M w0 L' w := e ▸ h.pick ho
/-! ### the call of yield -/
def yieldH (H : Hd) : Option (Nat × Array Value) :=
  match H.2 with
  | none => none
  | some o => match o.op with
    | .call c => match c.callee with
      | .value f => match evl H.1 f with
        | .func fn first captured => match fn with
          | .yield l => some (l, first ++ c.args.map (evl H.1))
          | _ => none
        | _ => none
      | _ => none
    | _ => none
theorem yieldH_run {H : Hd} {l : Nat} {args : Array Value} (h : yieldH H = some (l, args)) {w : World} {x : Next} (hr : (Instr.yield l args).run P w = .ok x w) : ∃ o, H.2 = some o ∧ (execOp (evl H.1) o).run P w = .ok x w := by
  obtain ⟨F, o⟩ := H
  unfold yieldH at h
  cases o with
  | none => cases h
  | some o =>
    refine ⟨o, rfl, ?_⟩
    simp only at h ⊢
    split at h
    · rename_i c hop
      split at h
      · rename_i f hcal
        split at h
        · rename_i fn first cap hev
          split at h
          · cases h
            simp [execOp, hop, resolve, hcal, hev, Deferred.ofValue, invoke, pure, bind, Sem.bind, Sem.run]
            exact hr
          · cases h
        · cases h
      · cases h
    · cases h
/-- a round takes over the entries C and leaves C' -/
def YSpec {X : Type} (P : Program) (gl : Gls) (l : Nat) (args : Array Value) (C : List Ent) (C' : X → List Ent) : Prop :=
  ∀ w, Gl gl w → Dis gl (feet C) → Own C w → ∃ f tmps assign body, (Instr.yield l args).run P w = .ok (.round l f tmps assign body) w ∧
    RoundC P l f tmps assign body w (fun e w' => ∃ x, e = .returned (.bool true) ∧ Reach (feet C) w (C' x) w')
theorem Rel.param {F : Fr} {ds ds' : List Deferred} {tmps : Array Value} (h : Rel n F ds { tmps := tmps, defers := ds' }) (p : Nat) (hp : p < n) (x : Value) (ds2 : List Deferred) :
    Rel n (upd F p x) ds2 { tmps := ((#[p] : Array Tmp).zip #[x]).foldl (fun tmps (t, a) => tmps.setIfInBounds t a) tmps, defers := ds2 } := by
  have h2 := h.put hp x
  refine ⟨?_, fun i => ?_, rfl⟩
  · have := h2.size; simpa [Act.put] using this
  · have := h2.val i; simpa [Act.put] using this
theorem dis_look {is : List Nat} {c : Nat} {gl' : Gls} (hL : lookL L gl is = gl') (hB : lookB L gl is = true) (hO : okRd c is = true) {w : World} (hw' : Reach M w0 (L.take c ++ L.drop c) w) (hg : Gl gl w0) (hd : Dis gl M) : Dis gl' (feet (L.take c)) := by
  intro E hE b hb hm
  rw [← hL] at hE
  unfold lookL at hE
  obtain ⟨i, hi, rfl⟩ := List.mem_map.1 hE
  have h1 := List.all_eq_true.1 hO i hi
  unfold lookB at hB
  have h2 := List.all_eq_true.1 hB i hi
  unfold lookOk at h2
  unfold lookE at hb
  cases h3 : Nat.ble 1000 i with
  | true =>
    rw [h3] at h2 hb
    have h2 : i - 1000 < gl.length := Nat.le_of_ble_eq_true h2
    simp only [cond_true] at hb
    rw [List.getD_eq_getElem?_getD, List.getElem?_eq_getElem h2] at hb
    exact hw'.dis hg hd _ (List.getElem_mem h2) b hb hm
  | false =>
    rw [h3] at h1 h2 hb
    have h2 : i < L.length := Nat.le_of_ble_eq_true h2
    have h1 : c ≤ i := Nat.le_of_ble_eq_true h1
    simp only [cond_false] at hb
    rw [List.getD_eq_getElem?_getD, List.getElem?_eq_getElem h2] at hb
    have hn := hw'.nodup
    rw [feet_append] at hn
    refine (List.nodup_append.1 hn).2.2 b hm b (mem_feet.2 ⟨L[i], ?_, hb⟩) rfl
    rw [List.mem_iff_getElem?]
    exact ⟨i - c, by rw [List.getElem?_drop]; rw [show c + (i - c) = i by omega]; exact List.getElem?_eq_getElem h2⟩
/-- a call of yield: the round takes over the first c entries -/
theorem V.yield (is : List Nat) (c : Nat) {gl' : Gls} {X : Type} {C : List Ent} {C' : X → List Ent} {args : Array Value} (hc : YSpec P gl' l args C C') (hC : L.take c = C) (hL : lookL L gl is = gl') (hB : lookB L gl is = true)
    (hO : okRd c is = true) (h : yieldH (headS fn.ntmps (A P fn S)) = some (l, args)) (kk : ∀ x, V P fn R gl M w0 (C' x ++ L.drop c) (nx (A P fn S) (.bool true))) : V P fn R gl M w0 L S :=
  V.adv fun hg hd w hw => by
    subst hC
    have hw' : Reach M w0 (L.take c ++ L.drop c) w := by rw [List.take_append_drop]; exact hw
    obtain ⟨f, tmps, assign, body, hr, hR⟩ := hc w (by rw [← hL]; exact look_gl hB (hg.reach hd hw) hw) (dis_look hL hB hO hw' hg hd) hw'.own
    obtain ⟨o, ho, hrun⟩ := yieldH_run h hr
    have ho' : opOf fn.ntmps (A P fn S) = some o := by unfold headS at ho; exact ho
    have hF : (headS fn.ntmps (A P fn S)).1 = (A P fn S).F := by unfold headS; rfl
    rw [hF] at hrun
    refine W.opRound ho' hrun hR fun e w'' he => ?_
    obtain ⟨x, rfl, hx⟩ := he
    exact ⟨_, rfl, kk x hg hd w'' (hw'.callc hx)⟩

/-! ### the statement -/
structure RF where
  g : Nat
  first : Array Value
  cap : Array Value
  params : Array Tmp
  assign : Code
  body : Code
def rfOf (P : Program) (S : St) : Option RF := match S.todo with
  | .code (.rangeFunc g ps assign body) :: _ => match evl S.F g with
    | .func (.func gf) first cap => bif enterB P gf then some ⟨gf, first, cap, ps, assign, body⟩ else none
    | _ => none
  | _ => none
def rfK (S : St) : St := match S.todo with | .code (.rangeFunc _ _ _ _) :: k => ⟨k, S.F, S.G, S.fl⟩ | _ => S
def lrec (f : FuncId) (tmps : Array Value) (x : RF) (D : Nat) : Loop := { state := .ready, pending := none, fn := f, tmps, params := x.params, assign := x.assign, body := x.body, defers := D }
def markD (D : Nat) : Deferred := { target := .collected D, args := #[] }
theorem W.rangeFunc {Q : Exit → Act → World → Prop} {ds : List Deferred} {x : RF} (hx : rfOf P S = some x)
    (h : ∀ fb tmps, Rel n S.F ds { tmps := tmps, defers := ds } → Calls P x.g (x.first ++ #[.func (.yield (w.heap.size + 1)) #[] #[]] ++ x.cap) ((w.alloc (.deferred (some []))).alloc (.loop (lrec fb tmps x w.heap.size))) fun e w3 =>
      (∃ v, e = .returned v) ∧ ∃ r, w3.heap[w.heap.size + 1]? = some (.loop r) ∧ r.state ≠ .busy ∧ r.pending = none ∧
        W P Q n (markD w.heap.size :: ds) (rfK S) (w3.putObj (w.heap.size + 1) (.loop { r with state := .exhausted }))) : W P Q n ds S w := by
  obtain ⟨todo, F, G, fl⟩ := S
  unfold rfOf at hx
  split at hx
  · rename_i g ps assign body k ht
    simp only at ht
    subst ht
    split at hx
    · rename_i gf first cap hev
      cases he : enterB P gf with
      | false => rw [he] at hx; cases hx
      | true =>
        rw [he] at hx
        simp only [cond_true, Option.some.injEq] at hx
        subst hx
        have hev : evl F g = .func (.func gf) first cap := hev
        have hk2 : rfK ⟨.code (.rangeFunc g ps assign body) :: k, F, G, fl⟩ = ⟨k, F, G, fl⟩ := rfl
        rw [hk2] at h
        intro a ha b cs
        let b' : Frame := { b with roundOf := none }
        have hb' : ∀ k, b.at a k = b'.atR a k := fun k => rfl
        obtain ⟨tmps, defers⟩ := a
        have hds : defers = ds := ha.defs
        subst hds
        have hcall := h b.fn tmps ha
        have hres : (resolve ({ tmps := tmps, defers := defers } : Act).eval (rangeCall g (w.heap.size + 1)) 0).run P ((w.alloc (.deferred (some []))).alloc (.loop (lrec b.fn tmps ⟨gf, first, cap, ps, assign, body⟩ w.heap.size))) =
            .ok { target := .fn (.func gf) cap, args := first ++ #[.func (.yield (w.heap.size + 1)) #[] #[]] } ((w.alloc (.deferred (some []))).alloc (.loop (lrec b.fn tmps ⟨gf, first, cap, ps, assign, body⟩ w.heap.size))) := by
          rw [ha.eval]
          have hc : ∀ v, evl F (.const v) = v := fun _ => rfl
          simp [resolve, rangeCall, hev, hc, Deferred.ofValue, pure, bind, Sem.bind, Sem.run]
        have hinv : (invoke (.fn (.func gf) cap) (first ++ #[.func (.yield (w.heap.size + 1)) #[] #[]])).run P ((w.alloc (.deferred (some []))).alloc (.loop (lrec b.fn tmps ⟨gf, first, cap, ps, assign, body⟩ w.heap.size))) =
            .ok (.enter gf (first ++ #[.func (.yield (w.heap.size + 1)) #[] #[]] ++ cap)) ((w.alloc (.deferred (some []))).alloc (.loop (lrec b.fn tmps ⟨gf, first, cap, ps, assign, body⟩ w.heap.size))) := by
          unfold enterB at he
          split at he
          · rename_i fn hfn
            cases hnm : fn.name == "runtime.NumGoroutine" with
            | true => rw [hnm] at he; cases he
            | false =>
              rw [hnm] at he
              simp only [cond_false] at he
              have hno : ¬ fn.body = none := by intro h0; rw [h0] at he; cases he
              have hnm' : ¬ fn.name = "runtime.NumGoroutine" := by simpa using hnm
              simp [invoke, callFunc, program, hfn, hnm', hno, pure, bind, Sem.bind, Sem.run]
          · cases he
        have henter := stepR_rangeFunc (P := P) (b := b') (a := { tmps := tmps, defers := defers }) (k := k) (cs := cs) (w := w) (g := g) (ps := ps) (assign := assign) (body := body)
          (run_enterLoop_outer b.fn tmps ps assign body) hres hinv
        obtain ⟨e, w3, fr, hR, hsteps, _, hleave⟩ := hcall (b'.atR { tmps := tmps, defers := markD w.heap.size :: defers } (.inRangeFunc (w.heap.size + 1) :: k) :: cs)
        obtain ⟨⟨v, rfl⟩, ⟨st, pd, f1, t1, p1, a1, b1, d1⟩, hr, hbusy, hpend, hW⟩ := hR
        simp only at hpend
        subst hpend
        have hend := run_endLoop (P := P) hr hbusy
        have hback : step P (lone fr (b'.atR { tmps := tmps, defers := markD w.heap.size :: defers } (.inRangeFunc (w.heap.size + 1) :: k) :: cs) w3) =
            .next (lone (b'.atR { tmps := tmps, defers := markD w.heap.size :: defers } (.endRangeFunc (w.heap.size + 1) :: k)) cs w3) := by
          rw [← finish_atR_inRangeFunc (w.heap.size + 1) v]; exact step_leave_returned hleave
        have hs := stepR_endRangeFunc (P := P) (b := b') (a := { tmps := tmps, defers := markD w.heap.size :: defers }) (k := k) (cs := cs) hend
        have hrel : Rel n F (markD w.heap.size :: defers) { tmps := tmps, defers := markD w.heap.size :: defers } := ⟨ha.size, ha.val, rfl⟩
        have hfin := hW _ hrel
        obtain ⟨e2, a2, w2, hq, harr⟩ := hfin b cs
        refine ⟨e2, a2, w2, hq, ?_⟩
        rw [hb']
        refine .of_steps (.head henter (hsteps.trans (.head hback (.one hs)))) ?_
        simp only [Option.map_none, Option.toList_none, List.nil_append]
        rw [Frame.atR_of_none rfl]
        exact harr
    · cases hx
  · cases hx

/-! ### behind it: the mark stands among the deferred calls -/
def VM (P : Program) (fn : Func) (R : Ending → World → Prop) (gl : Gls) (M : List Nat) (w0 : World) (D : Nat) (L : List Ent) (S : St) : Prop :=
  Gl gl w0 → Dis gl M → ∀ w, Reach M w0 L w → W P (bPost P fn R) fn.ntmps [markD D] S w
variable {D : Nat}
theorem VM.adv (h : VM P fn R gl M w0 D L (A P fn S)) : VM P fn R gl M w0 D L S := fun hg hd w hw => W.adv (m := 5000) (by have := h hg hd w hw; unfold A at this; exact this)
theorem VM.loads (is : List Nat) (he : advX P fn.ntmps L gl is S = advY P fn.ntmps L gl is S) (k : VM P fn R gl M w0 D L (advS P fn.ntmps L gl is S)) : VM P fn R gl M w0 D L S :=
  fun hg hd w hw => W.advL (hg.reach hd hw) hw (by unfold advX advY at he; exact he) (by have := k hg hd w hw; unfold advS at this; exact this)
theorem W.retM {Q : World} {v : Value} (h : atEnd S = true) (hv : pureVal P (resF fn S.F) = some v) (hD : Q.heap[D]? = some (.deferred (some []))) (hR : R (.returned v) (Q.putObj D (.deferred none))) :
    W P (bPost P fn R) n [markD D] S Q := by
  intro a ha
  obtain ⟨todo, F, G, fl⟩ := S
  have hq : bPost P fn R .ret a Q := .inr ⟨D, ha.defs, hD, v, by rw [ha.results]; exact pureVal_run hv _, hR⟩
  unfold atEnd at h
  split at h
  · rename_i ht
    simp only at ht
    subst ht
    exact fun b cs => ⟨.normal, a, Q, hq, .refl ..⟩
  · rename_i k2 ht
    simp only at ht
    subst ht
    exact fun b cs => ⟨.ret, a, Q, hq, _, .one step_ret⟩
  · cases h
/-- the function ends; entry i is the block of the rounds' deferred calls -/
theorem VM.ret (i : Nat) (v : Value) (h : atEnd (A P fn S) = true) (hv : resP P fn (A P fn S) = some v) (hi : L[i]? = some (.blk D (.deferred (some []))))
    (hR : ∀ w, Reach M w0 (L.set i (.blk D (.deferred none))) w → R (.returned v) w) : VM P fn R gl M w0 D L S :=
  VM.adv fun _ _ w hw => W.retM h (by unfold resP at hv; exact hv) (hw.ents _ (List.mem_of_getElem? hi)) (hR _ (hw.setb hi))
theorem VM.conv {L' : List Ent} {S' : St} (hL : L = L') (hS : S = S') (k : VM P fn R gl M w0 D L' S') : VM P fn R gl M w0 D L S := by subst hL; subst hS; exact k
/-- what a loop's record is between two rounds -/
structure RecOk (r : Loop) (x : RF) : Prop where
  state : r.state = .ready
  pending : r.pending = none
  params : r.params = x.params
  assign : r.assign = x.assign
  body : r.body = x.body
theorem rec_back {r : Loop} {x : RF} (h : RecOk r x) : { ({ r with state := .busy } : Loop) with state := .ready, pending := none } = r := by
  obtain ⟨st, pd, f, t, p, a, b, d⟩ := r
  have h1 := h.state
  have h2 := h.pending
  simp only at h1 h2
  subst h1 h2
  rfl
def rfX (P : Program) (S : St) : RF := (rfOf P S).getD ⟨0, #[], #[], #[], .skip, .skip⟩
def rfB (P : Program) (S : St) : Bool := (rfOf P S).isSome
/-- the statement: the callee takes over the first c of the entries L2; its first one is the record -/
theorem V.rangeFunc (g : Nat) (args : Nat → Array Value) (idx : List Nat) (c : Nat) (L2 : Nat → Nat → Loop → List Ent) (hx : rfB P (A P fn S) = true) (hgf : (rfX P (A P fn S)).g = g)
    (ha : ∀ l, (rfX P (A P fn S)).first ++ #[.func (.yield l) #[] #[]] ++ (rfX P (A P fn S)).cap = args l) (hi : okIdx idx (L.length + 2) = true)
    (hL2 : ∀ D l r, pick (L ++ [.blk D (.deferred (some [])), .blk l (.loop r)]) idx = L2 D l r)
    (kk : ∀ D l r, RecOk r (rfX P (A P fn S)) → Rel fn.ntmps (A P fn S).F [] { tmps := r.tmps, defers := [] } → ∃ (X : Type) (val : X → Value) (φ : X → Prop) (C' : X → List Ent) (gl' : Gls) (is : List Nat),
      Spec P gl' g (args l) (fun _ => True) ((L2 D l r).take c) val φ C' ∧
      lookL (L2 D l r) gl is = gl' ∧ lookB (L2 D l r) gl is = true ∧ okRd c is = true ∧
      ∀ y, φ y → (C' y)[0]? = some (.blk l (.loop r)) ∧
        VM P fn R gl M w0 D ((C' y ++ (L2 D l r).drop c).set 0 (.blk l (.loop { r with state := .exhausted }))) (rfK (A P fn S))) : V P fn R gl M w0 L S :=
  V.adv fun hg hd w hw => by
    have hx' : rfOf P (A P fn S) = some (rfX P (A P fn S)) := by
      unfold rfB at hx
      unfold rfX
      cases h : rfOf P (A P fn S) with
      | none => rw [h] at hx; cases hx
      | some x => rfl
    revert hx' hgf ha kk
    generalize rfX P (A P fn S) = x
    intro hgf ha kk hx'
    refine W.rangeFunc hx' fun fb tmps hrel => ?_
    rw [ha, hgf]
    obtain ⟨X, val, φ, C', gl', is, hc, hL, hB, hO, hk⟩ := kk w.heap.size (w.heap.size + 1) (lrec fb tmps x w.heap.size) ⟨rfl, rfl, rfl, rfl, rfl⟩ hrel
    have h1 := hw.call0 (Reach.new w (.deferred (some [])))
    have h2 := h1.call0 (Reach.new (w.alloc (.deferred (some []))) (.loop (lrec fb tmps x w.heap.size)))
    rw [World.size_alloc, List.append_assoc, List.singleton_append] at h2
    have h3 := h2.pick (idx := idx) (by simpa using hi)
    rw [hL2] at h3
    revert hL hB hc hk h3
    generalize L2 w.heap.size (w.heap.size + 1) (lrec fb tmps x w.heap.size) = L2
    intro hc hL hB hk h3
    have h3' : Reach M w0 (L2.take c ++ L2.drop c) ((w.alloc (.deferred (some []))).alloc (.loop (lrec fb tmps x w.heap.size))) := by rw [List.take_append_drop]; exact h3
    refine (hc ((w.alloc (.deferred (some []))).alloc (.loop (lrec fb tmps x w.heap.size))) (by rw [← hL]; exact look_gl hB (hg.reach hd h3) h3) (dis_look hL hB hO h3' hg hd) h3'.own trivial).mono fun e w3 he => ?_
    obtain ⟨y, rfl, hφ, hr⟩ := he
    obtain ⟨h0, hV⟩ := hk y hφ
    have h4 := h3'.callc hr
    refine ⟨⟨_, rfl⟩, lrec fb tmps x w.heap.size, h4.ents (.blk (w.heap.size + 1) (.loop (lrec fb tmps x w.heap.size))) (List.mem_append_left _ (List.mem_of_getElem? h0)), by simp [lrec], rfl, ?_⟩
    have h00 : (C' y ++ L2.drop c)[0]? = some (.blk (w.heap.size + 1) (.loop (lrec fb tmps x w.heap.size))) := by
      rw [List.getElem?_append_left (by cases hh : C' y with | nil => rw [hh] at h0; cases h0 | cons a l => simp)]; exact h0
    exact hV hg hd _ (h4.setb h00)
theorem YSpec.of_VR {X : Type} {C : List Ent} {C' : X → List Ent} {r : Loop} {F : Fr} {ds : List Deferred} {rx : RF} (hr : RecOk r rx) (fn : Func) (p : Nat) (x : Value) (hC : C[0]? = some (.blk l (.loop r))) (hp : rx.params = #[p]) (hpn : p < fn.ntmps)
    (hF : Rel fn.ntmps F ds { tmps := r.tmps, defers := ds })
    (h : ∀ w, VR P l fn (REnd l (fun e w' => ∃ x, e = .returned (.bool true) ∧ Reach (feet C) w (C' x) w')) gl (feet C) w C ⟨[.code rx.assign, .beginRound, .code rx.body], upd F p x, [], 0⟩) :
    YSpec P gl l #[x] C C' := by
  intro w hg hd ho
  have hl : w.heap[l]? = some (.loop r) := ho.ents _ (List.mem_of_getElem? hC)
  refine ⟨_, _, _, _, run_yield hl (by rw [hr.params, hp]; rfl), ?_⟩
  rw [hr.params, hp, hr.assign, hr.body]
  exact RoundC.of_WR (n := fn.ntmps) (hF.param p hpn x []) (h w hg hd w ho)
attribute [irreducible] isBegin begK isEnd yieldH rfOf rfK rfX rfB
end Go.Ev
