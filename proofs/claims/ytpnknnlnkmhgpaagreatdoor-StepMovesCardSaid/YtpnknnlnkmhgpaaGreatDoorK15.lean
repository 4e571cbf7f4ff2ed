/- Shown here: Walks: keys that are structs; a range over a map; entries set aside. Conditions: none beyond those in each theorem. -/
import Derived.Maps.RangeRun
import Derived.Test.YtpnknnlnkmhgpaaGreatDoorK14
namespace Go.Ev
open Go
variable {P : Program} {fn : Func} {R : Ending → World → Prop} {gl : Gls} {M : List Nat} {w0 : World} {L : List Ent} {S : St}

/-! ### keys that are structs -/
theorem keyStruct {K : Type} [DecidableEq K] {kt : TypeId} {enc : K → Value} {fields : Array Field} (hu : P.underlying kt = some (.struct fields)) (hc : ∀ b x, pureVal P (Instr.checkKey b 10000 kt (enc x)) = some ())
    (he : ∀ x y, ∃ b, eqv P Op.maxDepth kt (enc x) (enc y) = some b ∧ b = decide (x = y)) (hs : ∀ x, Instr.sameBits 10000 (enc x) (enc x) = true) : KeyOk P kt enc where
  check := fun b x w => pureVal_run (hc b x) w
  same := hs
  find := fun x es kvs w h => by
    have key : ∀ (es : List MapEntry) (kvs : List (K × Value)) (i : Nat), es.map (fun e => (e.key, e.val)) = kvs.map (fun p => (enc p.1, p.2)) → (Instr.findAsking kt (enc x) es i).run P w = .ok (mfind x kvs i) w := by
      intro es
      induction es with
      | nil => intro kvs i h; cases kvs with | nil => rfl | cons p l => cases h
      | cons e es ih =>
        intro kvs i h
        cases kvs with
        | nil => cases h
        | cons p l =>
          obtain ⟨y, v⟩ := p
          simp only [List.map_cons, List.cons.injEq, Prod.mk.injEq] at h
          obtain ⟨⟨h1, h2⟩, h3⟩ := h
          obtain ⟨b, hb, hd⟩ := he x y
          have hq : (Op.equal kt (enc x) (enc y)).run P w = .ok b w := eqv_run _ _ _ _ _ hb w
          unfold Instr.findAsking
          rw [h1, Sem.run_bind, hq]
          by_cases hxy : x = y
          · subst hxy
            simp [hd, mfind, h2, Result.andThen]
          · simp [hd, mfind, hxy, Result.andThen, ih l (i + 1) h3]
    cases es with
    | nil =>
      cases kvs with
      | nil => simp [Instr.findKey, Sem.run_bind, run_underlying hu, Instr.findNow, mfind, Result.andThen]
      | cons p l => cases h
    | cons e es =>
      have hk := key (e :: es) kvs 0 h
      unfold Instr.findKey
      simp [Sem.run_bind, run_underlying hu, Instr.findNow, Instr.sameNow, hk, Result.andThen]

/-! ### entries in another order, set aside, read again -/
theorem V.perm {L' : List Ent} (hp : L'.Perm L) (k : V P fn R gl M w0 L' S) : V P fn R gl M w0 L S := fun hg hd w hw => k hg hd w (hw.perm hp)
theorem V.dup {E : Ent} (hE : E ∈ gl) (k : V P fn R (E :: gl) M w0 L S) : V P fn R gl M w0 L S := fun hg hd w hw =>
  k (fun E' h => by rcases List.mem_cons.1 h with rfl | h; exact hg _ hE; exact hg _ h) (fun E' h => by rcases List.mem_cons.1 h with rfl | h; exact hd _ hE; exact hd _ h) w hw
/-- T is set aside: what is proved with L alone goes on; un leads back -/
theorem V.aside {T : List Ent} (k : ∀ w1, (∀ X S', V P fn R gl M w0 (X ++ T) S' → V P fn R gl (feet L) w1 X S') → V P fn R gl (feet L) w1 L S) : V P fn R gl M w0 (L ++ T) S := by
  intro hg hd w hw
  refine k w (fun X S' hk _ _ w' hw' => hk hg hd w' (hw.callc hw')) (hg.reach hd hw) (hw.dis hg hd) w hw.own

/-! ### a range over a map -/
/-- the map's object is told -/
theorem V.mapopen {K : Type} {enc : K → Value} {kvs : List (K × Value)} (b : Nat) (hE : Ent.gen b (MapIs enc kvs) ∈ gl)
    (k : ∀ es clock, es.toList.map (fun e => (e.key, e.val)) = kvs.map (fun p => (enc p.1, p.2)) → (∀ e ∈ es.toList, e.born < clock) → (es.toList.map (·.born)).Nodup → V P fn R (.blk b (.map es clock) :: gl) M w0 L S) : V P fn R gl M w0 L S := by
  intro hg hd w hw
  obtain ⟨o, ho, es, clock, rfl, h1, h2, h3⟩ := hg _ hE
  refine k es clock h1 h2 h3 (fun E' h => ?_) (fun E' h b' hb' => ?_) w hw
  · rcases List.mem_cons.1 h with rfl | h
    · exact ho
    · exact hg _ h
  · rcases List.mem_cons.1 h with rfl | h
    · exact hd _ hE b' hb'
    · exact hd _ h b' hb'
def rangeH (P : Program) (H : Hd) : Option Value :=
  match H.2 with
  | none => none
  | some o => match o.op with
    | .range t x => match P.underlying t with
      | some (.map _ _) => some (evl H.1 x)
      | _ => none
    | _ => none
theorem does_range {H : Hd} {b : Nat} {es : Array MapEntry} {clock : Nat} {w : World} (h : rangeH P H = some (.map (some b))) (hb : w.heap[b]? = some (.map es clock)) (hw : Reach M w0 L w) :
    Does P H w (fun u w' => u = .pointer (some ⟨w.heap.size, 0, none⟩) ∧ Reach M w0 (L ++ [.blk w.heap.size (.mapIter (some b) clock #[] clock)]) w') := by
  obtain ⟨F, o⟩ := H
  unfold rangeH at h
  cases o with
  | none => cases h
  | some o =>
    simp only at h
    split at h
    · rename_i t x hop
      split at h
      · rename_i kt e hu
        simp only [Option.some.injEq] at h
        refine ⟨o, rfl, .inl ⟨.pointer (some ⟨w.heap.size, 0, none⟩), w.alloc (.mapIter (some b) clock #[] clock), ?_, rfl, hw.call0 (Reach.new w _)⟩⟩
        simp only [execOp, hop, h]
        simp [Instr.range, Sem.run_bind, run_underlying hu, run_getObj' hb, Result.andThen, run_newObj_alloc]
      · cases h
    · cases h
theorem V.range (i : Nat) {b : Nat} {es : Array MapEntry} {clock : Nat} (hE : lookE L gl i = .blk b (.map es clock)) (hB : lookOk L gl i = true) (h : rangeH P (headS fn.ntmps (A P fn S)) = some (.map (some b)))
    (k : ∀ r, V P fn R gl M w0 (L ++ [.blk r (.mapIter (some b) clock #[] clock)]) (nx (A P fn S) (.pointer (some ⟨r, 0, none⟩)))) : V P fn R gl M w0 L S :=
  V.does fun hg hd w hw => (does_range h (by have := lookE_holds hB (hg.reach hd hw) hw; rw [hE] at this; exact this) hw).mono fun _ w' hu => by obtain ⟨rfl, hr⟩ := hu; exact k _ hg hd w' hr
def nextOpH (H : Hd) : Option Value :=
  match H.2 with
  | none => none
  | some o => match o.op with
    | .next it s => bif s then none else some (evl H.1 it)
    | _ => none
def entryH (H : Hd) : Option Value :=
  match H.2 with
  | none => none
  | some o => match o.op with
    | .entry it => some (evl H.1 it)
    | _ => none
open Go.ChangeMaps (setBlock) in
theorem V.next (i j : Nat) {b r : Nat} {es : Array MapEntry} {clock : Nat} {seen : Array Nat} (hE : lookE L gl i = .blk b (.map es clock)) (hB : lookOk L gl i = true) (hI : L[j]? = some (.blk r (.mapIter (some b) clock seen clock)))
    (hborn : ∀ e ∈ es.toList, e.born < clock) (h : nextOpH (headS fn.ntmps (A P fn S)) = some (.pointer (some ⟨r, 0, none⟩)))
    (over : (∀ e ∈ es.toList, e.born ∈ seen.toList) → V P fn R gl M w0 L (nx (A P fn S) (.tuple #[.bool false])))
    (step : ∀ e ∈ es.toList, e.born ∉ seen.toList → V P fn R gl M w0 (L.set j (.blk r (.mapIter (some b) clock (seen.push e.born) clock))) (nx (A P fn S) (.tuple #[.bool true, e.key, e.val]))) : V P fn R gl M w0 L S :=
  V.does fun hg hd w hw => by
    have hb : w.heap[b]? = some (.map es clock) := by have := lookE_holds hB (hg.reach hd hw) hw; rw [hE] at this; exact this
    have hr : w.heap[r]? = some (.mapIter (some b) clock seen clock) := hw.ents _ (List.mem_of_getElem? hI)
    revert h
    generalize headS fn.ntmps (A P fn S) = H
    intro h
    obtain ⟨F, o⟩ := H
    unfold nextOpH at h
    cases o with
    | none => cases h
    | some o =>
      simp only at h
      split at h
      · rename_i it s hop
        cases s with
        | true => cases h
        | false =>
          simp only [cond_false, Option.some.injEq] at h
          rcases run_next_at (P := P) w o.type r b clock clock seen es clock hr hb hborn (Nat.le_refl _) with ⟨h0, hrun⟩ | ⟨e, he, w1, hw1, hrun⟩
          · refine ⟨o, rfl, .inl ⟨_, w, by simp only [execOp, hop, h, Sem.run_bind, hrun, Result.andThen_ok, Sem.run_pure], over (fun e he => ?_) hg hd w hw⟩⟩
            unfold leftOf at h0
            have h1 : (Array.filter (fun e => !seen.contains e.born) es) = #[] := Array.eq_empty_of_size_eq_zero h0
            rw [Array.filter_eq_empty_iff] at h1
            have := h1 e (by simpa using he)
            simpa using this
          · refine ⟨o, rfl, .inl ⟨.tuple #[.bool true, e.key, e.val], setBlock w1 r (.mapIter (some b) clock (seen.push e.born) clock), by simp only [execOp, hop, h, Sem.run_bind, hrun, Result.andThen_ok, Sem.run_pure], ?_⟩⟩
            have he' : e ∈ es.toList ∧ e.born ∉ seen.toList := by
              unfold leftOf at he
              simp at he
              exact ⟨by simpa using he.1, by simpa using he.2⟩
            refine step e he'.1 he'.2 hg hd _ ?_
            have hw' : Reach M w0 L w1 := by
              rcases hw1 with rfl | rfl
              · exact hw
              · exact hw.drawn _ (Nat.le_succ _)
            exact hw'.setb hI
      · cases h
theorem V.entry (i j : Nat) {b r : Nat} {es : Array MapEntry} {clock : Nat} {seen : Array Nat} {e : MapEntry} (hE : lookE L gl i = .blk b (.map es clock)) (hB : lookOk L gl i = true) (hI : L[j]? = some (.blk r (.mapIter (some b) clock (seen.push e.born) clock)))
    (he : e ∈ es.toList) (hn : (es.toList.map (·.born)).Nodup) (h : entryH (headS fn.ntmps (A P fn S)) = some (.pointer (some ⟨r, 0, none⟩)))
    (k : V P fn R gl M w0 L (nx (A P fn S) (.tuple #[e.key, e.val]))) : V P fn R gl M w0 L S :=
  V.does fun hg hd w hw => by
    have hb : w.heap[b]? = some (.map es clock) := by have := lookE_holds hB (hg.reach hd hw) hw; rw [hE] at this; exact this
    have hr : w.heap[r]? = some (.mapIter (some b) clock (seen.push e.born) clock) := hw.ents _ (List.mem_of_getElem? hI)
    have hrun := run_entry_at (P := P) w r b clock seen es clock e hr hb he hn
    revert h
    generalize headS fn.ntmps (A P fn S) = H
    intro h
    obtain ⟨F, o⟩ := H
    unfold entryH at h
    cases o with
    | none => cases h
    | some o =>
      simp only at h
      split at h
      · rename_i it hop
        simp only [Option.some.injEq] at h
        exact ⟨o, rfl, .inl ⟨_, w, by simp only [execOp, hop, h, Sem.run_bind, hrun, Result.andThen_ok, Sem.run_pure], k hg hd w hw⟩⟩
      · cases h
attribute [irreducible] rangeH nextOpH entryH
end Go.Ev
