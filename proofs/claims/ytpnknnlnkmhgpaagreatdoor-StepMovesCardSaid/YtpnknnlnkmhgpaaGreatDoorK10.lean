/- Shown here: Walks: maps: what they hold, as a list of keys and values. Conditions: none beyond those in each theorem. -/
import Derived.Laws.OwnMore
import Derived.Test.YtpnknnlnkmhgpaaGreatDoorK9
namespace Go.Ev
open Go
variable {P : Program} {fn : Func} {R : Ending → World → Prop} {gl : Gls} {M : List Nat} {w0 : World} {L Ls : List Ent} {S : St} {U : List Nat} {ops : Array Oper} {k k' : List Item}

section
variable {K : Type} [DecidableEq K]
def mfind (k : K) : List (K × Value) → Nat → Option (Nat × Value)
  | [], _ => none
  | (x, v) :: l, i => if k = x then some (i, v) else mfind k l (i + 1)
def mget (k : K) : List (K × Value) → Option Value
  | [] => none
  | (x, v) :: l => if k = x then some v else mget k l
def mput (k : K) (v : Value) : List (K × Value) → List (K × Value)
  | [] => [(k, v)]
  | (x, u) :: l => if k = x then (k, v) :: l else (x, u) :: mput k v l
theorem mfind_get (k : K) : ∀ (l : List (K × Value)) (i : Nat), (mfind k l i).map (·.2) = mget k l
  | [], _ => rfl
  | (x, v) :: l, i => by
    by_cases h : k = x
    · simp [mfind, mget, h]
    · simp [mfind, mget, h, mfind_get k l (i + 1)]
theorem mfind_none (k : K) (v : Value) : ∀ (l : List (K × Value)) (i : Nat), mfind k l i = none → mput k v l = l ++ [(k, v)]
  | [], _, _ => rfl
  | (x, u) :: l, i, h => by
    by_cases hx : k = x
    · simp [mfind, hx] at h
    · simp only [mfind, hx, if_false] at h
      simp [mput, hx, mfind_none k v l (i + 1) h]
theorem mfind_some (k : K) (v : Value) : ∀ (l : List (K × Value)) (i j : Nat) (u : Value), mfind k l i = some (j, u) → i ≤ j ∧ j - i < l.length ∧ l[j - i]? = some (k, u) ∧ mput k v l = l.set (j - i) (k, v)
  | [], _, _, _, h => by cases h
  | (x, y) :: l, i, j, u, h => by
    by_cases hx : k = x
    · simp only [mfind, hx, if_true, Option.some.injEq, Prod.mk.injEq] at h
      obtain ⟨rfl, rfl⟩ := h
      subst hx
      simp [mput]
    · simp only [mfind, hx, if_false] at h
      obtain ⟨h1, h2, h3, h4⟩ := mfind_some k v l (i + 1) j u h
      have e : j - i = (j - (i + 1)) + 1 := by omega
      refine ⟨by omega, by simp; omega, ?_, ?_⟩
      · rw [e]; simpa using h3
      · rw [e]; simp [mput, hx, h4]
/-- a map object with these keys and values, in the order in which they came -/
def MapIs (enc : K → Value) (kvs : List (K × Value)) (o : Obj) : Prop :=
  ∃ es clock, o = .map es clock ∧ es.toList.map (fun e => (e.key, e.val)) = kvs.map (fun p => (enc p.1, p.2)) ∧ (∀ e ∈ es.toList, e.born < clock) ∧ (es.toList.map (·.born)).Nodup
/-- how keys of a type are told apart -/
structure KeyOk (P : Program) (kt : TypeId) (enc : K → Value) : Prop where
  check : ∀ (b : Bool) (x : K) (w : World), (Instr.checkKey b 10000 kt (enc x)).run P w = .ok () w
  find : ∀ (x : K) (es : List MapEntry) (kvs : List (K × Value)) (w : World), es.map (fun e => (e.key, e.val)) = kvs.map (fun p => (enc p.1, p.2)) → (Instr.findKey kt (enc x) es).run P w = .ok (mfind x kvs 0) w
  same : ∀ x : K, Instr.sameBits 10000 (enc x) (enc x) = true
theorem run_getObj' {b : Nat} {es : Array MapEntry} {c : Nat} {w : World} (h : w.heap[b]? = some (.map es c)) : (getObj b).run P w = .ok (.map es c) w := by
  simp [getObj, Sem.run, h]
theorem run_lookup {t kt e b : Nat} {enc : K → Value} {kvs : List (K × Value)} {o : Obj} {z : Value} {w : World} (hk : KeyOk P kt enc) (ht : P.underlying t = some (.map kt e)) (hb : w.heap[b]? = some o) (hm : MapIs enc kvs o)
    (hz : (zeroValue e).run P w = .ok z w) (x : K) (ok : Bool) :
    (Instr.lookup t (.map (some b)) (enc x) ok).run P w = .ok (if ok then .tuple #[(mget x kvs).getD z, .bool (mget x kvs).isSome] else (mget x kvs).getD z) w := by
  obtain ⟨es, clock, rfl, hes, _, _⟩ := hm
  have hf := hk.find x es.toList kvs w hes
  have hg := mfind_get x kvs 0
  cases hfd : mfind x kvs 0 with
  | none =>
    rw [hfd] at hf hg
    simp only [Option.map_none] at hg
    simp [Instr.lookup, run_underlying ht, run_getObj' hb, hk.check, hf, hz, ← hg, Result.andThen]
  | some p =>
    rw [hfd] at hf hg
    simp only [Option.map_some] at hg
    simp [Instr.lookup, run_underlying ht, run_getObj' hb, hk.check, hf, ← hg, Result.andThen]
theorem run_mapUpdate {t kt e b : Nat} {enc : K → Value} {kvs : List (K × Value)} {o : Obj} {w : World} (hk : KeyOk P kt enc) (ht : P.underlying t = some (.map kt e)) (hb : w.heap[b]? = some o) (hm : MapIs enc kvs o) (x : K) (v : Value) :
    ∃ o', (Instr.mapUpdate t (.map (some b)) (enc x) v).run P w = .ok () { w with heap := w.heap.setIfInBounds b o' } ∧ MapIs enc (mput x v kvs) o' := by
  obtain ⟨es, clock, rfl, hes, hborn, hnd⟩ := hm
  have hf := hk.find x es.toList kvs w hes
  have hlen : es.toList.length = kvs.length := by have := congrArg List.length hes; simpa using this
  cases hfd : mfind x kvs 0 with
  | none =>
    rw [hfd] at hf
    refine ⟨.map (es.push { key := enc x, val := v, born := clock }) (clock + 1), ?_, es.push { key := enc x, val := v, born := clock }, clock + 1, rfl, ?_, ?_, ?_⟩
    · simp [Instr.mapUpdate, run_underlying ht, run_getObj' hb, hk.check, hf, Result.andThen, setObj, Sem.run, hb]
    · rw [mfind_none x v kvs 0 hfd]
      simp [hes]
    · intro e he
      simp only [Array.toList_push, List.mem_append, List.mem_singleton] at he
      rcases he with he | rfl
      · have := hborn e he; omega
      · simp
    · simp only [Array.toList_push, List.map_append, List.map_cons, List.map_nil]
      rw [List.nodup_append]
      refine ⟨hnd, by simp, fun a ha b hb e => ?_⟩
      simp only [List.mem_singleton] at hb
      subst hb
      obtain ⟨e', he', rfl⟩ := List.mem_map.1 ha
      have := hborn e' he'
      omega
  | some p =>
    obtain ⟨j, u⟩ := p
    rw [hfd] at hf
    obtain ⟨_, h2, h3, h4⟩ := mfind_some x v kvs 0 j u hfd
    simp only [Nat.sub_zero] at h2 h3 h4
    have hj : j < es.size := by rw [← Array.length_toList, hlen]; exact h2
    have hkey : es[j]?.map (·.key) = some (enc x) := by
      have h5 := congrArg (fun l => l[j]?) hes
      simp only [List.getElem?_map, h3, Option.map_some] at h5
      rw [Array.getElem?_toList] at h5
      cases hej : es[j]? with
      | none => rw [hej] at h5; cases h5
      | some e' =>
        rw [hej] at h5
        simp only [Option.map_some, Option.some.injEq, Prod.mk.injEq] at h5 ⊢
        exact h5.1
    have hget : ∀ i, (es.modify j fun e => { e with key := enc x, val := v }).toList[i]? = (if j = i then es.toList[i]?.map (fun e => { e with key := enc x, val := v }) else es.toList[i]?) := fun i => by
      rw [Array.toList_modify, List.getElem?_modify]
      by_cases h : j = i <;> simp [h]
    have hbo : (es.modify j fun e => { e with key := enc x, val := v }).toList.map (·.born) = es.toList.map (·.born) := by
      apply List.ext_getElem?
      intro i
      rw [List.getElem?_map, hget, List.getElem?_map]
      split
      · cases es.toList[i]? <;> rfl
      · rfl
    refine ⟨.map (es.modify j fun e => { e with key := enc x, val := v }) clock, ?_, _, clock, rfl, ?_, ?_, ?_⟩
    · have hks : Instr.sameBits 10000 (enc x) (enc x) = true := hk.same x
      simp [Instr.mapUpdate, run_underlying ht, run_getObj' hb, hk.check, hf, Result.andThen, hkey, Instr.keyThatStays, hks, setObj, Sem.run, hb]
    · rw [h4]
      apply List.ext_getElem?
      intro i
      have h5 := congrArg (fun l => l[i]?) hes
      simp only [List.getElem?_map] at h5
      rw [List.getElem?_map, hget, List.getElem?_map, List.getElem?_set]
      by_cases h : j = i
      · subst h
        rw [if_pos rfl, if_pos rfl, if_pos h2]
        rw [h3] at h5
        cases hej : es.toList[j]? with
        | none => rw [hej] at h5; cases h5
        | some e' => rfl
      · rw [if_neg h, if_neg h]
        exact h5
    · intro e he
      have h6 : e.born ∈ (es.modify j fun e => { e with key := enc x, val := v }).toList.map (·.born) := List.mem_map.2 ⟨e, he, rfl⟩
      rw [hbo] at h6
      obtain ⟨e', he', h7⟩ := List.mem_map.1 h6
      rw [← h7]
      exact hborn e' he'
    · rw [hbo]; exact hnd
end

/-! ### keys that are integers -/
theorem keyInt {kt : TypeId} {kd kd2 : IntKind} (hu : P.underlying kt = some (.int kd2)) : KeyOk P kt (Value.int kd) where
  check := fun b x w => by
    show (Instr.checkKey b (9999 + 1) kt (Value.int kd x)).run P w = _
    unfold Instr.checkKey
    simp [run_underlying hu]
  find := fun x es kvs w h => by
    have key : ∀ (es : List MapEntry) (kvs : List (Int × Value)) (i : Nat), es.map (fun e => (e.key, e.val)) = kvs.map (fun p => (Value.int kd p.1, p.2)) → Instr.findNow (.int kd2) (Value.int kd x) es i = some (mfind x kvs i) := by
      intro es
      induction es with
      | nil => intro kvs i h; cases kvs with | nil => rfl | cons p l => cases h
      | cons e es ih =>
        intro kvs i h
        cases kvs with
        | nil => cases h
        | cons p l =>
          obtain ⟨y, v⟩ := p
          simp only [List.map_cons, List.cons.injEq, Prod.mk.injEq] at h
          obtain ⟨⟨h1, h2⟩, h3⟩ := h
          unfold Instr.findNow
          rw [h1]
          simp only [Instr.sameNow, if_true]
          by_cases hxy : x = y
          · have : (x == y) = true := by simp [hxy]
            rw [this]
            simp [mfind, hxy, h2]
          · have : (x == y) = false := by simp [hxy]
            rw [this]
            simp only [mfind, hxy, if_false]
            exact ih l (i + 1) h3
    unfold Instr.findKey
    simp [run_underlying hu, key es kvs 0 h]
  same := fun x => by
    show Instr.sameBits (9999 + 1) (Value.int kd x) (Value.int kd x) = true
    unfold Instr.sameBits
    simp

/-! ### the events -/
def lookH (P : Program) (H : Hd) : Option (Nat × Nat × Nat × Value × Value × Bool) :=
  match H.2 with
  | none => none
  | some o => match o.op with
    | .lookup t m k ok => match P.underlying t with
      | some (.map kt e) => some (t, kt, e, evl H.1 m, evl H.1 k, ok)
      | _ => none
    | _ => none
/-- what a lookup gives -/
def lookV (z : Value) (r : Option Value) (ok : Bool) : Value := if ok then .tuple #[r.getD z, .bool r.isSome] else r.getD z
theorem lookH_run {K : Type} [DecidableEq K] {H : Hd} {t kt e b : Nat} {enc : K → Value} {kvs : List (K × Value)} {z : Value} {x : K} {ok : Bool} (h : lookH P H = some (t, kt, e, .map (some b), enc x, ok)) (hk : KeyOk P kt enc) (hz : pureVal P (zeroValue e) = some z)
    {w : World} (hm : (Ent.gen b (MapIs enc kvs)).holds w) : ∃ o, H.2 = some o ∧ (execOp (evl H.1) o).run P w = .ok (.value (lookV z (mget x kvs) ok)) w := by
  obtain ⟨F, o⟩ := H
  obtain ⟨ob, hb, hm⟩ := hm
  unfold lookH at h
  cases o with
  | none => cases h
  | some o =>
    refine ⟨o, rfl, ?_⟩
    simp only at h
    split at h
    · rename_i t' m k' ok' hop
      split at h
      · rename_i kt' e' hu
        simp only [Option.some.injEq, Prod.mk.injEq] at h
        obtain ⟨rfl, rfl, rfl, h1, h2, rfl⟩ := h
        have hr := run_lookup (P := P) hk hu hb hm (pureVal_run hz w) x ok'
        simp only [execOp, hop, h1, h2, Sem.run_bind, hr, Result.andThen_ok, Sem.run_pure]
        rfl
      · cases h
    · cases h
theorem V.lookup {K : Type} [DecidableEq K] (r : Nat) {t kt e b : Nat} {enc : K → Value} {kvs : List (K × Value)} {z : Value} {ok : Bool} (x : K) (v : Value) (hk : KeyOk P kt enc) (hE : lookE L gl r = .gen b (MapIs enc kvs)) (hB : lookOk L gl r = true)
    (h : lookH P (headS fn.ntmps (A P fn S)) = some (t, kt, e, .map (some b), enc x, ok)) (hz : pureVal P (zeroValue e) = some z) (hv : lookV z (mget x kvs) ok = v)
    (kk : V P fn R gl M w0 L (nx (A P fn S) v)) : V P fn R gl M w0 L S :=
  V.does fun hg hd w hw => by
    obtain ⟨o, ho, hr⟩ := lookH_run h hk hz (w := w) (by rw [← hE]; exact lookE_holds hB (hg.reach hd hw) hw)
    subst hv
    exact ⟨o, ho, .inl ⟨_, w, hr, kk hg hd w hw⟩⟩
/-- alone at its turn -/
theorem VD.lookup {D : DSt} {fl : Bool} {K : Type} [DecidableEq K] (i : Nat) (r : Nat) {t kt e b : Nat} {enc : K → Value} {kvs : List (K × Value)} {z : Value} {ok : Bool} (x : K) (v : Value) (hk : KeyOk P kt enc) (hE : lookE L gl r = .gen b (MapIs enc kvs)) (hB : lookOk L gl r = true)
    (hr : readyD ops (BD P fn ops D) = [i]) (hf : fuelD (BD P fn ops D) = true) (h : lookH P (headD fn.ntmps ops (BD P fn ops D) i) = some (t, kt, e, .map (some b), enc x, ok)) (hz : pureVal P (zeroValue e) = some z) (hv : lookV z (mget x kvs) ok = v)
    (kk : VD P fn R gl M w0 Ls U ops k L fl (nxD ops (BD P fn ops D) i v)) : VD P fn R gl M w0 Ls U ops k L fl D :=
  VD.one i hr hf fun hg hd hn hsub w hw => by
    obtain ⟨o, ho, hx⟩ := lookH_run h hk hz (w := w) (by rw [← hE]; exact lookE_holds hB (hg.reach hd hw) hw)
    subst hv
    exact ⟨o, ho, .inl ⟨_, w, hx, fun _ h0 => h0, kk hg hd hn hsub w hw⟩⟩
/-- a new map, as a list -/
theorem V.mapnew {K : Type} (enc : K → Value) (i b : Nat) (hE : L[i]? = some (.blk b (.map #[] 0))) (kk : V P fn R gl M w0 (L.set i (.gen b (MapIs enc []))) S) : V P fn R gl M w0 L S := fun hg hd w hw => kk hg hd w (by
  have hh : (Ent.blk b (.map #[] 0)).holds w := hw.ents _ (List.mem_of_getElem? hE)
  have hf : (Ent.gen b (MapIs enc [])).holds w := ⟨_, hh, #[], 0, rfl, rfl, by simp, by simp⟩
  obtain ⟨L1, L3, e1, hs⟩ := set_split hE
  rw [hs]
  subst e1
  have hfe : feet (L1 ++ Ent.gen b (MapIs enc []) :: L3) = feet (L1 ++ Ent.blk b (.map #[] 0) :: L3) := by
    simp only [feet_append]
    congr 1
  exact ⟨hw.os, hw.tape, hw.output, hw.draws, hw.size, hw.old, fun E hE' => by
    rcases List.mem_append.1 hE' with h1 | h1
    · exact hw.ents E (List.mem_append_left _ h1)
    · rcases List.mem_cons.1 h1 with rfl | h1
      · exact hf
      · exact hw.ents E (List.mem_append_right _ (List.mem_cons_of_mem _ h1)), by rw [hfe]; exact hw.nodup, fun b hb => hw.fresh b (by rw [← hfe]; exact hb)⟩)
def updH (P : Program) (H : Hd) : Option (Nat × Nat × Nat × Value × Value × Value) :=
  match H.2 with
  | none => none
  | some o => match o.op with
    | .mapUpdate t m k x => match P.underlying t with
      | some (.map kt e) => some (t, kt, e, evl H.1 m, evl H.1 k, evl H.1 x)
      | _ => none
    | _ => none
theorem does_upd {K : Type} [DecidableEq K] {H : Hd} {t kt e b i : Nat} {enc : K → Value} {kvs : List (K × Value)} {x : K} {v : Value} (h : updH P H = some (t, kt, e, .map (some b), enc x, v)) (hk : KeyOk P kt enc) (hE : L[i]? = some (.gen b (MapIs enc kvs)))
    {w : World} (hw : Reach M w0 L w) : Does P H w (fun u w' => u = undef ∧ Reach M w0 (L.set i (.gen b (MapIs enc (mput x v kvs)))) w') := by
  obtain ⟨F, o⟩ := H
  have hm : (Ent.gen b (MapIs enc kvs)).holds w := hw.ents _ (List.mem_of_getElem? hE)
  obtain ⟨ob, hb, hm⟩ := hm
  unfold updH at h
  cases o with
  | none => cases h
  | some o =>
    simp only at h
    split at h
    · rename_i t' m k' x' hop
      split at h
      · rename_i kt' e' hu
        simp only [Option.some.injEq, Prod.mk.injEq] at h
        obtain ⟨rfl, rfl, rfl, h1, h2, h3⟩ := h
        obtain ⟨o', hr, hm'⟩ := run_mapUpdate (P := P) hk hu hb hm x v
        have hlt := (Array.getElem?_eq_some_iff.1 hb).1
        refine ⟨o, rfl, .inr (.inl ⟨{ w with heap := w.heap.setIfInBounds b o' }, ?_, rfl, ?_⟩)⟩
        · simp only [execOp, hop, h1, h2, h3, Sem.run_bind, hr, Result.andThen_ok, Sem.run_pure]
        · refine hw.setg hE (grown_reach (v := some b) ⟨rfl, rfl, rfl, by simp, fun q _ hq => ?_⟩ (Nat.le_refl _) ⟨o', by simp [hlt], hm'⟩ (fun b' hb' => by cases hb'; exact .inr rfl))
          have : b ≠ q := fun e => hq (by rw [e])
          simp [Array.getElem?_setIfInBounds, this]
      · cases h
    · cases h
theorem V.mapput {K : Type} [DecidableEq K] (i : Nat) {t kt e b : Nat} {enc : K → Value} {kvs : List (K × Value)} (x : K) (v : Value) (hk : KeyOk P kt enc) (hE : L[i]? = some (.gen b (MapIs enc kvs)))
    (h : updH P (headS fn.ntmps (A P fn S)) = some (t, kt, e, .map (some b), enc x, v))
    (kk : V P fn R gl M w0 (L.set i (.gen b (MapIs enc (mput x v kvs)))) (nx (A P fn S) undef)) : V P fn R gl M w0 L S :=
  V.does fun hg hd w hw => (does_upd h hk hE hw).mono fun _ w' hu => by obtain ⟨rfl, hr⟩ := hu; exact kk hg hd w' hr
theorem VD.mapput {D : DSt} {fl : Bool} {K : Type} [DecidableEq K] (q : Nat) (i : Nat) {t kt e b : Nat} {enc : K → Value} {kvs : List (K × Value)} (x : K) (v : Value) (hk : KeyOk P kt enc) (hr : readyD ops (BD P fn ops D) = [q]) (hf : fuelD (BD P fn ops D) = true) (hq : sreq .any ops U q = false) (hE : L[i]? = some (.gen b (MapIs enc kvs)))
    (h : updH P (headD fn.ntmps ops (BD P fn ops D) q) = some (t, kt, e, .map (some b), enc x, v))
    (kk : VD P fn R gl M w0 Ls U ops k (L.set i (.gen b (MapIs enc (mput x v kvs)))) false (nxD ops (BD P fn ops D) q undef)) : VD P fn R gl M w0 Ls U ops k L fl D :=
  VD.one q hr hf fun hg hd hn _ w hw => (does_upd h hk hE hw).mono fun _ w' hu => by
    obtain ⟨rfl, hx⟩ := hu
    exact ⟨fun h0 _ => absurd h0 (by rw [hq]; exact Bool.false_ne_true), kk hg hd hn (fun h0 => absurd h0 Bool.false_ne_true) w' hx⟩
attribute [irreducible] lookH updH
end Go.Ev
