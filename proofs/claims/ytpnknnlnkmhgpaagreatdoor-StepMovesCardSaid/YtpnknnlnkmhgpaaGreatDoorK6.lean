/- Shown here: Walks: slices: rows of values in memory, read, written, extended. Conditions: none beyond those in each theorem. -/
import Derived.Laws.OwnMore
import Derived.Test.YtpnknnlnkmhgpaaGreatDoorK5
namespace Go.Ev
open Go
variable {P : Program} {fn : Func} {R : Ending → World → Prop} {gl : Gls} {M : List Nat} {w0 : World} {L Ls : List Ent} {S : St} {U : List Nat} {ops : Array Oper} {k k' : List Item}

/-! ### a guard that was passed over -/
def addG (S : St) (t : Nat) : St := ⟨S.todo, S.F, t :: S.G, S.fl⟩
theorem V.gadd (t : Nat) (kk : V P fn R gl M w0 L (addG (A P fn S) t)) : V P fn R gl M w0 L S := V.adv fun hg hd w hw => kk hg hd w hw

/-! ### calls of functions that are not known -/
def callV (H : Hd) : Option (Nat × Array Value) :=
  match H.2 with
  | none => none
  | some o => match o.op with
    | .call c => match c.callee with
      | .value f => match evl H.1 f with
        | .func fn first captured => match fn with
          | .func g => some (g, first ++ c.args.map (evl H.1) ++ captured)
          | _ => none
        | _ => none
      | _ => none
    | _ => none
theorem callV_callH {H : Hd} {g : Nat} {args : Array Value} (h : callV H = some (g, args)) (hg : enterB P g = true) : callH P H = some (g, args) := by
  unfold callV at h
  unfold callH
  split at h
  · cases h
  · rename_i o ho
    simp only [ho]
    split at h
    · rename_i c hop
      split at h
      · rename_i f hc
        split at h
        · rename_i fn fst cap hv
          split at h
          · rename_i g'
            cases h
            simp only [hop, hc, hv, hg, cond_true]
          · cases h
        · cases h
      · cases h
    · cases h

/-! ### calls that read entries -/
theorem V.callg (is : List Nat) {gl' : Gls} {g : Nat} {args : Array Value} {v : Value} (hc : PureFn P gl' g args v) (hL : lookL L gl is = gl') (hB : lookB L gl is = true)
    (h : callH P (headS fn.ntmps (A P fn S)) = some (g, args)) (kk : V P fn R gl M w0 L (nx (A P fn S) v)) : V P fn R gl M w0 L S :=
  V.does fun hg hd w hw => (does_callp (gl := gl') hc h (by rw [← hL]; exact look_gl hB (hg.reach hd hw) hw) hw).mono fun _ w' hu => by obtain ⟨rfl, hr⟩ := hu; exact kk hg hd w' hr
theorem VD.callg {D : DSt} {fl : Bool} (is : List Nat) {gl' : Gls} {g : Nat} {args : Array Value} {v : Value} (hc : PureFn P gl' g args v) (hL : lookL L gl is = gl') (hB : lookB L gl is = true)
    (i : Nat) (hr : readyD ops (BD P fn ops D) = [i]) (hf : fuelD (BD P fn ops D) = true)
    (h : callH P (headD fn.ntmps ops (BD P fn ops D) i) = some (g, args)) (kk : VD P fn R gl M w0 Ls U ops k L fl (nxD ops (BD P fn ops D) i v)) : VD P fn R gl M w0 Ls U ops k L fl D :=
  VD.one i hr hf fun hg hd hn hsub w hw => by
    refine does_call h (hc w (by rw [← hL]; exact look_gl hB (hg.reach hd hw) hw)) fun e w' he => ⟨v, he.1, fun _ h0 => ?_, kk hg hd hn hsub w' ?_⟩
    · have := h0.call0 he.2; rwa [List.append_nil] at this
    · have := hw.call0 he.2; rwa [List.append_nil] at this
/-- a call that reads entries and leaves new ones, which come last -/
theorem V.call0 (is : List Nat) {gl' : Gls} {X : Type} {Pw : World → Prop} {val : X → Value} {φ : X → Prop} {C' : X → List Ent} {g : Nat} {args : Array Value}
    (hc : Spec P gl' g args Pw [] val φ C') (hL : lookL L gl is = gl') (hB : lookB L gl is = true) (h : callH P (headS fn.ntmps (A P fn S)) = some (g, args)) (hp : ∀ w, Reach M w0 L w → Pw w)
    (kk : ∀ x, φ x → V P fn R gl M w0 (L ++ C' x) (nx (A P fn S) (val x))) : V P fn R gl M w0 L S :=
  V.does fun hg hd w hw => does_call h (hc w (by rw [← hL]; exact look_gl hB (hg.reach hd hw) hw) (fun _ _ _ _ => by simp [feet]) (Reach.refl w) (hp w hw)) fun e w' he => by
    obtain ⟨x, he1, hφ, hx⟩ := he
    exact ⟨val x, he1, kk x hφ hg hd w' (hw.call0 hx)⟩
/-- a call that takes over the first c entries and reads others -/
def okRd (c : Nat) (is : List Nat) : Bool := is.all fun i => bif Nat.ble 1000 i then true else Nat.ble c i
theorem V.callcg (is : List Nat) (c : Nat) {gl' : Gls} {X : Type} {Pw : World → Prop} {C : List Ent} {val : X → Value} {φ : X → Prop} {C' : X → List Ent} {g : Nat} {args : Array Value}
    (hc : Spec P gl' g args Pw C val φ C') (hC : L.take c = C) (hL : lookL L gl is = gl') (hB : lookB L gl is = true) (hO : okRd c is = true)
    (h : callH P (headS fn.ntmps (A P fn S)) = some (g, args)) (hp : ∀ w, Reach M w0 L w → Pw w)
    (kk : ∀ x, φ x → V P fn R gl M w0 (C' x ++ L.drop c) (nx (A P fn S) (val x))) : V P fn R gl M w0 L S :=
  V.does fun hg hd w hw => by
    subst hC
    have hw' : Reach M w0 (L.take c ++ L.drop c) w := by rw [List.take_append_drop]; exact hw
    have hD : Dis gl' (feet (L.take c)) := by
      intro E hE b hb hm
      rw [← hL] at hE
      unfold lookL at hE
      obtain ⟨i, hi, rfl⟩ := List.mem_map.1 hE
      have h1 := List.all_eq_true.1 hO i hi
      unfold lookB at hB
      have h2 := List.all_eq_true.1 hB i hi
      unfold lookOk at h2
      unfold lookE at hb
      cases h3 : Nat.ble 1000 i with
      | true =>
        rw [h3] at h2 hb
        have h2 : i - 1000 < gl.length := Nat.le_of_ble_eq_true h2
        simp only [cond_true] at hb
        rw [List.getD_eq_getElem?_getD, List.getElem?_eq_getElem h2] at hb
        exact hw'.dis hg hd _ (List.getElem_mem h2) b hb hm
      | false =>
        rw [h3] at h1 h2 hb
        have h2 : i < L.length := Nat.le_of_ble_eq_true h2
        have h1 : c ≤ i := Nat.le_of_ble_eq_true h1
        simp only [cond_false] at hb
        rw [List.getD_eq_getElem?_getD, List.getElem?_eq_getElem h2] at hb
        have hn := hw'.nodup
        rw [feet_append] at hn
        refine (List.nodup_append.1 hn).2.2 b hm b (mem_feet.2 ⟨L[i], ?_, hb⟩) rfl
        rw [List.mem_iff_getElem?]
        exact ⟨i - c, by rw [List.getElem?_drop]; rw [show c + (i - c) = i by omega]; exact List.getElem?_eq_getElem h2⟩
    refine does_call h (hc w (by rw [← hL]; exact look_gl hB (hg.reach hd hw) hw) hD hw'.own (hp w hw)) fun e w' he => ?_
    obtain ⟨x, he1, hφ, hr⟩ := he
    exact ⟨val x, he1, kk x hφ hg hd w' (hw'.callc hr)⟩
theorem Spec.cons {Y : Type} {E : Ent} {g : Nat} {args : Array Value} {Pw : World → Prop} {C : List Ent} {val : Y → Value} {φ : Y → Prop} {C' : Y → List Ent} (h : Spec P gl g args Pw C val φ C') : Spec P (E :: gl) g args Pw C val φ C' :=
  fun w hg hd => h w (fun E' h' => hg E' (List.mem_cons_of_mem _ h')) (fun E' h' => hd E' (List.mem_cons_of_mem _ h'))
theorem PureFn.cons {E : Ent} {g : Nat} {args : Array Value} {v : Value} (h : PureFn P gl g args v) : PureFn P (E :: gl) g args v := fun w hg => h w (fun E' h' => hg E' (List.mem_cons_of_mem _ h'))
theorem V.weakg {X : Gls} (kk : V P fn R gl M w0 L S) : V P fn R (gl ++ X) M w0 L S := fun hg hd w hw =>
  kk (Gl.append.1 hg).1 (fun E hE => hd E (List.mem_append_left _ hE)) w hw

/-! ### regions that draw, in which the first entries are written while loads of others may still come -/
theorem V.drawk (n : Nat) (hm : mixed P = true) (h : isDraw (A P fn S) = true)
    (kk : VD P fn R gl M w0 (L.drop n) (loadsU (drawOps (A P fn S))) (drawOps (A P fn S)) (drawK (A P fn S)) L true (startD (A P fn S))) : V P fn R gl M w0 L S := by
  refine V.adv fun hg hd w hw => ?_
  have hk := fun hn => kk hg hd hn (fun _ => List.drop_sublist n L) { w with drawn := w.drawn + 1 } (hw.drawn _ (Nat.le_succ _))
  generalize A P fn S = T at *
  obtain ⟨todo, F, G, flr⟩ := T
  unfold isDraw at h
  split at h
  · rename_i id ops k2 htodo
    simp only at htodo
    subst htodo
    simp only [drawOps, drawK, startD] at hk
    intro a ha
    refine MW.of_wp (wp_region_any (id := id) (by unfold mixed at hm; exact hm) (wpAny_of_G _ _ _ _ (hk h (closed_start _ _) a ha)))
  · cases h
theorem VD.storek {D : DSt} {fl : Bool} (n : Nat) (i : Nat) (hLs : L.drop n = Ls) (hr : readyD ops (BD P fn ops D) = [i]) (hf : fuelD (BD P fn ops D) = true) (e : Nat) (hen : Nat.blt e n = true) (he : entOk L e = true)
    (h : storeH (headD fn.ntmps ops (BD P fn ops D) i) = some (⟨entB L e, storeOff (headD fn.ntmps ops (BD P fn ops D) i), none⟩, storeT (headD fn.ntmps ops (BD P fn ops D) i), storeV (headD fn.ntmps ops (BD P fn ops D) i)))
    (hk : storeChk P (headD fn.ntmps ops (BD P fn ops D) i) (entC L e).size = true)
    (kk : VD P fn R gl M w0 Ls U ops k (L.set e (.blk (entB L e) (.cells (storeOut (headD fn.ntmps ops (BD P fn ops D) i) (entC L e)) (entT L e) (0, 0)))) fl (nxD ops (BD P fn ops D) i undef)) : VD P fn R gl M w0 Ls U ops k L fl D :=
  VD.one i hr hf fun hg hd hn _ w hw => (does_store e he h hk hw).mono fun _ w' hu => by
    obtain ⟨rfl, hx⟩ := hu
    have hs : ∀ E', List.Sublist Ls (L.set e E') := fun E' => by
      have hlt : e < n := Nat.le_of_ble_eq_true hen
      have : (L.set e E').drop n = Ls := by rw [List.drop_set_of_lt hlt, hLs]
      rw [← this]; exact List.drop_sublist n _
    exact ⟨fun _ _ => hx.sub (hs _), kk hg hd hn (fun _ => hs _) w' hx⟩
/-- what is written is what was there -/
theorem VD.stores {D : DSt} (i : Nat) (hr : readyD ops (BD P fn ops D) = [i]) (hf : fuelD (BD P fn ops D) = true) (e : Nat) (he : entOk L e = true)
    (h : storeH (headD fn.ntmps ops (BD P fn ops D) i) = some (⟨entB L e, storeOff (headD fn.ntmps ops (BD P fn ops D) i), none⟩, storeT (headD fn.ntmps ops (BD P fn ops D) i), storeV (headD fn.ntmps ops (BD P fn ops D) i)))
    (hk : storeChk P (headD fn.ntmps ops (BD P fn ops D) i) (entC L e).size = true)
    (hL : L.set e (.blk (entB L e) (.cells (storeOut (headD fn.ntmps ops (BD P fn ops D) i) (entC L e)) (entT L e) (0, 0))) = L)
    (kk : VD P fn R gl M w0 Ls U ops k L true (nxD ops (BD P fn ops D) i undef)) : VD P fn R gl M w0 Ls U ops k L true D :=
  VD.one i hr hf fun hg hd hn hsub w hw => (does_store e he h hk hw).mono fun _ w' hu => by
    obtain ⟨rfl, hx⟩ := hu
    rw [hL] at hx
    exact ⟨fun _ _ => hx.sub (hsub rfl), kk hg hd hn hsub w' hx⟩
theorem VD.callck {D : DSt} {fl : Bool} (n : Nat) (c : Nat) {X : Type} {Pw : World → Prop} {C : List Ent} {val : X → Value} {φ : X → Prop} {C' : X → List Ent} {g : Nat} {args : Array Value}
    (hc : Spec P gl g args Pw C val φ C') (hC : L.take c = C) (i : Nat) (hLs : L.drop n = Ls) (hcn : Nat.ble c n = true) (hr : readyD ops (BD P fn ops D) = [i]) (hf : fuelD (BD P fn ops D) = true)
    (h : callH P (headD fn.ntmps ops (BD P fn ops D) i) = some (g, args)) (hp : ∀ w, Reach M w0 L w → Pw w)
    (kk : ∀ x, φ x → VD P fn R gl M w0 Ls U ops k (C' x ++ L.drop c) fl (nxD ops (BD P fn ops D) i (val x))) : VD P fn R gl M w0 Ls U ops k L fl D :=
  VD.one i hr hf fun hg hd hn _ w hw => (does_callc c hc hC hg hd hw (hp w hw) h).mono fun _ w' hu => by
    obtain ⟨x, rfl, hφ, hx, _⟩ := hu
    have hs : List.Sublist Ls (C' x ++ L.drop c) := by
      rw [← hLs]
      have hle : c ≤ n := Nat.le_of_ble_eq_true hcn
      have : L.drop n = (L.drop c).drop (n - c) := by rw [List.drop_drop]; congr 1; omega
      rw [this]
      exact (List.drop_sublist _ _).trans (List.sublist_append_right _ _)
    exact ⟨fun _ _ => hx.sub hs, kk x hφ hg hd hn (fun _ => hs) w' hx⟩

/-! ### elements of rows -/
def rptr (v : Value) (o : Nat) : Value := .pointer (some ⟨ownB v, o, none⟩)
def idxR (P : Program) (H : Hd) : Option (Value × Value × Nat) :=
  match H.2 with
  | none => none
  | some o => match o.op with
    | .indexAddr t x i => match P.underlying t with
      | some (.slice e) => bif hasT P e then some (evl H.1 x, evl H.1 i, sizeP P e) else none
      | _ => none
    | _ => none
theorem idxR_run {H : Hd} {w : World} {g n cap size j : Nat} {kd : IntKind} (h : idxR P H = some (.slice (some ⟨g, 0, none⟩) n cap, .int kd (j : Int), size)) (hj : j < n) :
    ∃ op, H.2 = some op ∧ (execOp (evl H.1) op).run P w = .ok (.value (.pointer (some ⟨g, j * size, none⟩))) w := by
  have h2 : idxH P H = some (some ⟨g, 0, none⟩, n, .int kd (j : Int), size) := by
    unfold idxR at h
    unfold idxH
    split at h
    · cases h
    · rename_i o ho
      split at h
      · rename_i t x i hop
        split at h
        · rename_i e hu
          cases ht : hasT P e with
          | false => rw [ht] at h; cases h
          | true =>
            rw [ht] at h
            simp only [cond_true, Option.some.injEq, Prod.mk.injEq] at h
            obtain ⟨q1, q2, q3⟩ := h
            simp only [ho, hop, hu]
            rw [q1]
            simp only [ht, cond_true, q2, q3]
        · cases h
      · cases h
  obtain ⟨op, h3, h4⟩ := idx_run (w := w) h2 hj
  refine ⟨op, h3, ?_⟩
  rw [h4, Nat.zero_add]
theorem row_form {w : World} {v : Value} {e size n : Nat} {xs : List Value} (h : (Ent.row v e size n xs).holds w) {j : Nat} (hj : j < n) :
    ∃ g cap cur, v = .slice (some ⟨g, 0, none⟩) n cap ∧ w.heap[g]? = some (.cells cur e (0, 0)) ∧ cur.size = cap * size ∧ n ≤ cap ∧ cur.toList.take (n * size) = xs ∧ cap ≤ maxLen := by
  rcases h.2 with ⟨_, h0⟩ | ⟨g, cap, cur, h1, _, h3, h4, h5, h6, h7⟩
  · omega
  · exact ⟨g, cap, cur, h1, h3, h6, h4, h7, h5⟩
theorem idxR_row {H : Hd} {w w1 : World} {v : Value} {e size n j : Nat} {kd : IntKind} {xs : List Value} (hh : (Ent.row v e size n xs).holds w1) (h : idxR P H = some (v, .int kd (j : Int), size)) (hj : j < n) :
    ∃ op, H.2 = some op ∧ (execOp (evl H.1) op).run P w = .ok (.value (rptr v (j * size))) w := by
  obtain ⟨g, cap, cur, rfl, _⟩ := row_form hh hj
  exact idxR_run h hj
theorem V.rix (i j : Nat) (kd : IntKind) (v : Value) (e size n : Nat) (xs : List Value) (hE : lookE L gl i = .row v e size n xs) (hB : lookOk L gl i = true)
    (h : idxR P (headS fn.ntmps (A P fn S)) = some (v, .int kd (j : Int), size)) (hj : j < n) (kk : V P fn R gl M w0 L (nx (A P fn S) (rptr v (j * size)))) : V P fn R gl M w0 L S :=
  V.does fun hg hd w hw => by
    have hh : (Ent.row v e size n xs).holds w := by rw [← hE]; exact lookE_holds hB (hg.reach hd hw) hw
    obtain ⟨op, ho, hr⟩ := idxR_row (w := w) hh h hj
    exact ⟨op, ho, .inl ⟨_, w, hr, kk hg hd w hw⟩⟩
theorem VD.rix {D : DSt} {fl : Bool} (i : Nat) (r j : Nat) (kd : IntKind) (v : Value) (e size n : Nat) (xs : List Value) (hE : lookE [] gl r = .row v e size n xs) (hB : lookOk [] gl r = true)
    (ht : takeOk ops (BD P fn ops D) i = true) (h : idxR P (headD fn.ntmps ops (BD P fn ops D) i) = some (v, .int kd (j : Int), size)) (hj : j < n)
    (kk : VD P fn R gl M w0 Ls U ops k L fl (nxD ops (BD P fn ops D) i (rptr v (j * size)))) : VD P fn R gl M w0 Ls U ops k L fl D :=
  fun hg => by
    have hh : (Ent.row v e size n xs).holds w0 := by rw [← hE]; exact lookE_holds (M := []) (w0 := w0) hB hg (Reach.refl w0)
    exact VD.take i _ ht (fun w => idxR_row (w := w) hh h hj) kk hg
/-- of an index that isn't taken first but alone -/
theorem VD.rix1 {D : DSt} {fl : Bool} (i : Nat) (r j : Nat) (kd : IntKind) (v : Value) (e size n : Nat) (xs : List Value) (hE : lookE L gl r = .row v e size n xs) (hB : lookOk L gl r = true)
    (hr : readyD ops (BD P fn ops D) = [i]) (hf : fuelD (BD P fn ops D) = true) (h : idxR P (headD fn.ntmps ops (BD P fn ops D) i) = some (v, .int kd (j : Int), size)) (hj : j < n)
    (kk : VD P fn R gl M w0 Ls U ops k L fl (nxD ops (BD P fn ops D) i (rptr v (j * size)))) : VD P fn R gl M w0 Ls U ops k L fl D :=
  VD.one i hr hf fun hg hd hn hsub w hw => by
    have hh : (Ent.row v e size n xs).holds w := by rw [← hE]; exact lookE_holds hB (hg.reach hd hw) hw
    obtain ⟨op, ho, hx⟩ := idxR_row (w := w) hh h hj
    exact ⟨op, ho, .inl ⟨_, w, hx, fun _ h0 => h0, kk hg hd hn hsub w hw⟩⟩
theorem row_part {w : World} {v : Value} {e size n j : Nat} {xs cs : List Value} (h : (Ent.row v e size n xs).holds w) (hj : j < n) (hcs : (xs.drop (j * size)).take size = cs) : (Ent.part (ownB v) (j * size) cs).holds w := by
  obtain ⟨g, cap, cur, rfl, hb, hs, hn, ht, _⟩ := row_form h hj
  refine ⟨(Array.getElem?_eq_some_iff.1 hb).1, fun m x hm => ?_⟩
  subst hcs
  subst ht
  show w.cell? ⟨g, j * size + m, none⟩ = some x
  rw [cell_of_row w g (j * size + m) cur e (0, 0) hb]
  rw [List.getElem?_take] at hm
  split at hm
  · rw [List.getElem?_drop, List.getElem?_take] at hm
    split at hm
    · rwa [Array.getElem?_toList] at hm
    · cases hm
  · cases hm
/-- an element of a row that is only read -/
theorem V.part (r j : Nat) (cs : List Value) (v : Value) (e size n : Nat) (xs : List Value) (hE : lookE [] gl r = .row v e size n xs) (hB : lookOk [] gl r = true) (hj : j < n) (hcs : (xs.drop (j * size)).take size = cs)
    (kk : V P fn R (.part (ownB v) (j * size) cs :: gl) M w0 L S) : V P fn R gl M w0 L S := by
  intro hg hd w hw
  have hh : (Ent.row v e size n xs).holds w0 := by rw [← hE]; exact lookE_holds (M := []) (w0 := w0) hB hg (Reach.refl w0)
  have hp := row_part hh hj hcs
  refine kk (fun E hE' => ?_) (fun E hE' => ?_) w hw
  · rcases List.mem_cons.1 hE' with rfl | h1
    · exact hp
    · exact hg E h1
  rcases List.mem_cons.1 hE' with h1 | h1
  · subst h1
    intro b hb
    obtain ⟨g, cap, cur, rfl, _⟩ := row_form hh hj
    cases hb
    have hmem : Ent.row (.slice (some ⟨g, 0, none⟩) n cap) e size n xs ∈ gl := by
      have : 1000 ≤ r := by
        unfold lookOk at hB
        cases hi : Nat.ble 1000 r with
        | true => exact Nat.le_of_ble_eq_true hi
        | false => rw [hi] at hB; simp at hB
      unfold lookOk at hB
      unfold lookE at hE
      rw [Nat.ble_eq_true_of_le this] at hB hE
      have hB : r - 1000 < gl.length := Nat.le_of_ble_eq_true hB
      simp only [cond_true] at hE
      rw [List.getD_eq_getElem?_getD, List.getElem?_eq_getElem hB] at hE
      simp only [Option.getD_some] at hE
      rw [← hE]
      exact List.getElem_mem hB
    exact hd _ hmem g rfl
  · exact hd E h1
theorem V.unpart {E : Ent} (kk : V P fn R gl M w0 L S) : V P fn R (E :: gl) M w0 L S := fun hg hd w hw => kk (fun E' h => hg E' (List.mem_cons_of_mem _ h)) (fun E' h => hd E' (List.mem_cons_of_mem _ h)) w hw
/-- the first c entries are from now on only read -/
theorem V.freeze (c : Nat) (kk : ∀ w1, (∀ X w, Reach (feet (L.drop c)) w1 X w → Reach M w0 (X ++ L.take c) w) → V P fn R (gl ++ L.take c) (feet (L.drop c)) w1 (L.drop c) S) : V P fn R gl M w0 L S := by
  intro hg hd w hw
  have hw' : Reach M w0 (L.drop c ++ L.take c) w := hw.perm (by
    have := List.take_append_drop c L
    refine List.Perm.trans List.perm_append_comm ?_
    rw [this])
  refine kk w (fun X w' h => hw'.callc h) ?_ ?_ w hw'.own
  · refine Gl.append.2 ⟨hg.reach hd hw, fun E hE => hw.ents E (List.mem_of_mem_take hE)⟩
  · intro E hE b hb hm
    rcases List.mem_append.1 hE with h1 | h1
    · rcases hw'.fresh b (by rw [feet_append]; exact List.mem_append_left _ hm) with h2 | h2
      · have := Ent.lt (hg E h1) hb; omega
      · exact hd E h1 b hb h2
    · have hn := hw'.nodup
      rw [feet_append] at hn
      exact (List.nodup_append.1 hn).2.2 b hm b (mem_feet.2 ⟨E, h1, hb⟩) rfl
/-- the ends, behind a freezing -/
theorem V.retf {X : Type} {val : X → Value} {φ : X → Prop} {L2 : X → List Ent} {M1 : List Nat} {w1 : World} {Fz : List Ent} (hR : ∀ X w, Reach M1 w1 X w → Reach M w0 (X ++ Fz) w)
    (x : X) (v : Value) (idx : List Nat) (h : atEnd (A P fn S) = true) (hv : resP P fn (A P fn S) = some v) (hi : okIdx idx (L ++ Fz).length = true) (hL : pick (L ++ Fz) idx = L2 x) (e : v = val x) (hφ : φ x) :
    V P fn (Post M w0 val φ L2) gl M1 w1 L S :=
  V.ret v h hv fun w hw => ⟨x, by rw [e], hφ, by rw [← hL]; exact (hR _ _ hw).pick hi⟩

theorem V.retle {X : Type} {val : X → Value} {φ : X → Prop} {L2 : X → List Ent} (is : List Nat) (x : X) (v : Value) (idx : List Nat) (h : atEnd (A P fn S) = true) (hv : resL P fn L gl is (A P fn S) = some v)
    (he : resX P fn L gl is (A P fn S) = resY P fn L gl is (A P fn S)) (hi : okIdx idx L.length = true) (hL : pick L idx = L2 x) (e : v = val x) (hφ : φ x) : V P fn (Post M w0 val φ L2) gl M w0 L S :=
  V.retl is v h hv he fun w hw => ⟨x, by rw [e], hφ, by rw [← hL]; exact hw.pick hi⟩

theorem Reach.setg {E E' : Ent} {w w' : World} {i : Nat} (h : Reach M w0 L w) (hi : L[i]? = some E) (k : Reach E.foot.toList w [E'] w') : Reach M w0 (L.set i E') w' := by
  cases hf : E.foot with
  | some b =>
    rw [hf] at k
    have := h.set1 hi hf (L2 := []) k
    rwa [List.append_nil] at this
  | none =>
    rw [hf] at k
    obtain ⟨L1, L3, e, hs⟩ := set_split hi
    rw [hs]
    subst e
    have h1 : Reach M w0 (L1 ++ L3) w := h.sub (List.Sublist.append (List.Sublist.refl _) (List.sublist_cons_self _ _))
    refine (h1.call0 k).perm ?_
    refine List.perm_middle.trans ?_
    exact (List.perm_append_comm (l₁ := L1 ++ L3) (l₂ := [E'])).symm
theorem grown_reach {w w' : World} {v : Option Nat} {E' : Ent} (hg : w.grownBy w' v) (hdr : w.drawn ≤ w'.drawn) (hE : E'.holds w') (hf : ∀ b, E'.foot = some b → w.heap.size ≤ b ∨ v = some b) : Reach v.toList w [E'] w' := by
  refine ⟨hg.os, hg.tape, hg.output, hdr, hg.size, fun b hb hM => hg.block b hb (fun e => hM (by rw [← e]; simp)), fun E he => by simp only [List.mem_singleton] at he; subst he; exact hE, ?_, fun b hb => ?_⟩
  · cases h : E'.foot <;> simp [feet, h]
  · obtain ⟨E, he, hfe⟩ := mem_feet.1 hb
    simp only [List.mem_singleton] at he
    subst he
    rcases hf b hfe with h1 | h1
    · exact .inl h1
    · exact .inr (by rw [h1]; simp)
/-! ### an element of a row of the function's own, read and written -/
theorem V.focus (i j : Nat) (cs : List Value) (v : Value) (e size n : Nat) (xs : List Value) (hE : L[i]? = some (.row v e size n xs)) (hj : j < n) (hcs : (xs.drop (j * size)).take size = cs) (hl : Nat.beq cs.length size = true)
    (kk : V P fn R gl M w0 (L.set i (.rowf v e size n xs (j * size) cs)) S) : V P fn R gl M w0 L S := fun hg hd w hw => kk hg hd w (by
  have hh : (Ent.row v e size n xs).holds w := hw.ents _ (List.mem_of_getElem? hE)
  have hl := Nat.eq_of_beq_eq_true hl
  have hf : (Ent.rowf v e size n xs (j * size) cs).holds w := by
    refine ⟨hh, by omega, ?_, by rw [hl, hcs]⟩
    have := Nat.mul_le_mul_right size (show j + 1 ≤ n by omega)
    rw [Nat.add_mul, Nat.one_mul] at this
    omega
  obtain ⟨L1, L3, e1, hs⟩ := set_split hE
  rw [hs]
  subst e1
  have hfe : feet (L1 ++ Ent.rowf v e size n xs (j * size) cs :: L3) = feet (L1 ++ Ent.row v e size n xs :: L3) := by
    simp only [feet_append]
    congr 1
  exact ⟨hw.os, hw.tape, hw.output, hw.draws, hw.size, hw.old, fun E hE' => by
    rcases List.mem_append.1 hE' with h1 | h1
    · exact hw.ents E (List.mem_append_left _ h1)
    · rcases List.mem_cons.1 h1 with rfl | h1
      · exact hf
      · exact hw.ents E (List.mem_append_right _ (List.mem_cons_of_mem _ h1)), by rw [hfe]; exact hw.nodup, fun b hb => hw.fresh b (by rw [← hfe]; exact hb)⟩)
theorem V.unfocus (i : Nat) (v : Value) (e size n : Nat) (xs : List Value) (o : Nat) (cs : List Value) (hE : L[i]? = some (.rowf v e size n xs o cs))
    (kk : V P fn R gl M w0 (L.set i (.row v e size n xs)) S) : V P fn R gl M w0 L S := fun hg hd w hw => kk hg hd w (by
  have hf : (Ent.rowf v e size n xs o cs).holds w := hw.ents _ (List.mem_of_getElem? hE)
  have hh : (Ent.row v e size n xs).holds w := hf.1
  obtain ⟨L1, L3, e1, hs⟩ := set_split hE
  rw [hs]
  subst e1
  have hfe : feet (L1 ++ Ent.row v e size n xs :: L3) = feet (L1 ++ Ent.rowf v e size n xs o cs :: L3) := by
    simp only [feet_append]
    congr 1
  exact ⟨hw.os, hw.tape, hw.output, hw.draws, hw.size, hw.old, fun E hE' => by
    rcases List.mem_append.1 hE' with h1 | h1
    · exact hw.ents E (List.mem_append_left _ h1)
    · rcases List.mem_cons.1 h1 with rfl | h1
      · exact hh
      · exact hw.ents E (List.mem_append_right _ (List.mem_cons_of_mem _ h1)), by rw [hfe]; exact hw.nodup, fun b hb => hw.fresh b (by rw [← hfe]; exact hb)⟩)
def splL (cs : List Value) (k : Nat) (vs : List Value) : List Value := cs.take k ++ vs ++ cs.drop (k + vs.length)
theorem splL_get {cs : List Value} {k : Nat} {vs : List Value} (h : k + vs.length ≤ cs.length) (i : Nat) : (splL cs k vs)[i]? = if i < k then cs[i]? else if i < k + vs.length then vs[i - k]? else cs[i]? := by
  have hk : (cs.take k).length = k := by rw [List.length_take]; omega
  unfold splL
  by_cases h1 : i < k
  · rw [if_pos h1, List.append_assoc, List.getElem?_append_left (by omega), List.getElem?_take, if_pos h1]
  · rw [if_neg h1, List.append_assoc, List.getElem?_append_right (by omega), hk]
    by_cases h2 : i < k + vs.length
    · rw [if_pos h2, List.getElem?_append_left (by omega)]
    · rw [if_neg h2, List.getElem?_append_right (by omega), List.getElem?_drop]
      congr 1
      omega
theorem splL_length {cs : List Value} {k : Nat} {vs : List Value} (h : k + vs.length ≤ cs.length) : (splL cs k vs).length = cs.length := by
  unfold splL
  simp only [List.length_append, List.length_take, List.length_drop]
  omega
/-- the row's cells, with new ones in the element's place -/
def rowOut (xs : List Value) (o : Nat) (cs' : List Value) : List Value := splL xs o cs'
theorem does_rst {H : Hd} {w : World} {i o k e size n : Nat} {v val : Value} {t : TypeId} {xs cs : List Value} (hE : L[i]? = some (.rowf v e size n xs o cs)) (h : storeH H = some (⟨ownB v, o + k, none⟩, t, val))
    (ht : hasT P t = true) (hs : val.cells.size = sizeP P t) (hle : k + sizeP P t ≤ cs.length) (h1 : ∀ u ∈ val.cells.toList, u.oneCell' = true) (hw : Reach M w0 L w) :
    Does P H w (fun u w' => u = undef ∧ Reach M w0 (L.set i (.rowf v e size n (rowOut xs o (splL cs k val.cells.toList)) o (splL cs k val.cells.toList))) w') := by
  have hf : (Ent.rowf v e size n xs o cs).holds w := hw.ents _ (List.mem_of_getElem? hE)
  obtain ⟨hown, h2, h3, h4⟩ := hf
  obtain ⟨g, cap, cur, rfl, hb, hcs, hnc, htk, hcm⟩ := row_form (j := 0) hown h2
  have hvl : val.cells.toList.length = sizeP P t := by rw [Array.length_toList, hs]
  have hnsz : n * size ≤ cur.size := by rw [hcs]; exact Nat.mul_le_mul_right _ hnc
  have hcl2 : cur.toList.length = cur.size := Array.length_toList
  have hst := run_storeVar_at (P := P) (o := o + k) hb ht hs (by omega) h1
  refine (does_storef h hst).mono ?_
  rintro u w' ⟨rfl, rfl⟩
  refine ⟨rfl, hw.setg hE ?_⟩
  have hxl : xs.length = n * size := hown.1
  have hcl : (splL cs k val.cells.toList).length = cs.length := splL_length (by omega)
  have hspl : (spl cur (o + k) val.cells).toList = splL cur.toList (o + k) val.cells.toList := by simp [spl, splL]
  have hget : ∀ j, j < cs.length → xs[o + j]? = cs[j]? := fun j hj => by
    rw [← h4, List.getElem?_take, if_pos hj, List.getElem?_drop]
  refine grown_reach (v := some g) ⟨rfl, rfl, rfl, by simp, fun q _ hq => setRow_other w g q _ (fun e => hq (by rw [e]))⟩ (Nat.le_refl _) ⟨⟨?_, .inr ⟨g, cap, _, rfl, Nat.zero_le _, setRow_heap w g cur _ e _ hb, hnc, hcm, ?_, ?_⟩⟩, h2, by rw [hcl]; exact h3, ?_⟩ (fun b hb => by cases hb; exact .inr rfl)
  · rw [rowOut, splL_length (by omega), hxl]
  · rw [← Array.length_toList, hspl, splL_length (by rw [Array.length_toList]; omega), Array.length_toList, hcs]
  · apply List.ext_getElem?
    intro j
    rw [hspl, List.getElem?_take, rowOut, splL_get (cs := xs) (vs := splL cs k val.cells.toList) (by omega), splL_get (cs := cur.toList) (by omega), hcl]
    have hx : ∀ j, j < n * size → xs[j]? = cur.toList[j]? := fun j hj => by rw [← htk, List.getElem?_take, if_pos hj]
    by_cases hj : j < n * size
    · rw [if_pos hj]
      by_cases c1 : j < o
      · rw [if_pos c1, if_pos (by omega), hx j hj]
      · rw [if_neg c1]
        by_cases c2 : j < o + cs.length
        · rw [if_pos c2, splL_get (by omega)]
          by_cases c3 : j - o < k
          · rw [if_pos c3, if_pos (by omega), ← hget (j - o) (by omega), show o + (j - o) = j by omega, hx j hj]
          · rw [if_neg c3, if_neg (by omega)]
            by_cases c4 : j - o < k + val.cells.toList.length
            · rw [if_pos c4, if_pos (by omega)]
              congr 1
              omega
            · rw [if_neg c4, if_neg (by omega), ← hget (j - o) (by omega), show o + (j - o) = j by omega, hx j hj]
        · rw [if_neg c2, if_neg (by omega), if_neg (by omega), hx j hj]
    · rw [if_neg hj, if_neg (by omega), if_neg (by omega)]
      rw [List.getElem?_eq_none (by omega)]
  · rw [rowOut]
    apply List.ext_getElem?
    intro j
    rw [List.getElem?_take]
    by_cases hj : j < (splL cs k val.cells.toList).length
    · rw [if_pos hj, List.getElem?_drop, splL_get (by omega), if_neg (by omega), if_pos (by omega)]
      congr 1
      omega
    · rw [if_neg hj, List.getElem?_eq_none (by omega)]
/-- what a store puts there -/
def rstChk (P : Program) (H : Hd) (k len : Nat) : Bool :=
  bif hasT P (storeT H) then bif Nat.beq (storeV H).cells.size (sizeP P (storeT H)) then bif Nat.ble (k + sizeP P (storeT H)) len then oneAll (storeV H).cells.toList else false else false else false
theorem rstChk_spec {H : Hd} {k len : Nat} (h : rstChk P H k len = true) :
    hasT P (storeT H) = true ∧ (storeV H).cells.size = sizeP P (storeT H) ∧ k + sizeP P (storeT H) ≤ len ∧ ∀ u ∈ (storeV H).cells.toList, u.oneCell' = true := by
  unfold rstChk at h
  cases h1 : hasT P (storeT H) with
  | false => rw [h1] at h; cases h
  | true =>
    rw [h1] at h
    cases h2 : Nat.beq (storeV H).cells.size (sizeP P (storeT H)) with
    | false => rw [h2] at h; cases h
    | true =>
      rw [h2] at h
      cases h3 : Nat.ble (k + sizeP P (storeT H)) len with
      | false => rw [h3] at h; cases h
      | true =>
        rw [h3] at h
        exact ⟨rfl, Nat.eq_of_beq_eq_true h2, Nat.le_of_ble_eq_true h3, oneAll_spec h⟩
theorem V.rst (i k : Nat) (v : Value) (e size n : Nat) (xs : List Value) (o : Nat) (cs cs' : List Value) (hE : L[i]? = some (.rowf v e size n xs o cs))
    (h : storeH (headS fn.ntmps (A P fn S)) = some (⟨ownB v, o + k, none⟩, storeT (headS fn.ntmps (A P fn S)), storeV (headS fn.ntmps (A P fn S))))
    (hk : rstChk P (headS fn.ntmps (A P fn S)) k cs.length = true) (hcs : splL cs k (storeV (headS fn.ntmps (A P fn S))).cells.toList = cs')
    (kk : V P fn R gl M w0 (L.set i (.rowf v e size n (rowOut xs o cs') o cs')) (nx (A P fn S) undef)) : V P fn R gl M w0 L S :=
  V.does fun hg hd w hw => by
    obtain ⟨k1, k2, k3, k4⟩ := rstChk_spec hk
    subst hcs
    exact (does_rst hE h k1 k2 k3 k4 hw).mono fun _ w' hu => by obtain ⟨rfl, hr⟩ := hu; exact kk hg hd w' hr
theorem VD.rst {D : DSt} {fl : Bool} (q : Nat) (i k : Nat) (v : Value) (e size n : Nat) (xs : List Value) (o : Nat) (cs cs' : List Value) (hr : readyD ops (BD P fn ops D) = [q]) (hf : fuelD (BD P fn ops D) = true) (hq : sreq .any ops U q = false)
    (hE : L[i]? = some (.rowf v e size n xs o cs))
    (h : storeH (headD fn.ntmps ops (BD P fn ops D) q) = some (⟨ownB v, o + k, none⟩, storeT (headD fn.ntmps ops (BD P fn ops D) q), storeV (headD fn.ntmps ops (BD P fn ops D) q)))
    (hk2 : rstChk P (headD fn.ntmps ops (BD P fn ops D) q) k cs.length = true) (hcs : splL cs k (storeV (headD fn.ntmps ops (BD P fn ops D) q)).cells.toList = cs')
    (kk : VD P fn R gl M w0 Ls U ops k' (L.set i (.rowf v e size n (rowOut xs o cs') o cs')) false (nxD ops (BD P fn ops D) q undef)) : VD P fn R gl M w0 Ls U ops k' L fl D :=
  VD.one q hr hf fun hg hd hn _ w hw => by
    obtain ⟨k1, k2, k3, k4⟩ := rstChk_spec hk2
    subst hcs
    exact (does_rst hE h k1 k2 k3 k4 hw).mono fun _ w' hu => by
      obtain ⟨rfl, hx⟩ := hu
      exact ⟨fun h0 _ => absurd h0 (by rw [hq]; exact Bool.false_ne_true), kk hg hd hn (fun h0 => absurd h0 Bool.false_ne_true) w' hx⟩
theorem rowf_form {w : World} {v : Value} {e size n o : Nat} {xs cs : List Value} (h : (Ent.rowf v e size n xs o cs).holds w) : (Ent.row v e size n xs).holds w := h.1
/-- an index into a row of the function's own -/
theorem VD.rixL {D : DSt} {fl : Bool} (q : Nat) (i j : Nat) (kd : IntKind) (v : Value) (e size n : Nat) (xs : List Value) (o : Nat) (cs : List Value) (hE : L[i]? = some (.rowf v e size n xs o cs))
    (ht : takeOk ops (BD P fn ops D) q = true) (h : idxR P (headD fn.ntmps ops (BD P fn ops D) q) = some (v, .int kd (j : Int), size)) (hj : j < n)
    (kk : VD P fn R gl M w0 Ls U ops k L fl (nxD ops (BD P fn ops D) q (rptr v (j * size)))) : VD P fn R gl M w0 Ls U ops k L fl D :=
  fun hg hd hn hsub w hw => by
    have hh : (Ent.row v e size n xs).holds w := rowf_form (hw.ents _ (List.mem_of_getElem? hE))
    exact VD.take q _ ht (fun w' => idxR_row (w := w') hh h hj) kk hg hd hn hsub w hw
/-- one that comes up alone -/
theorem VD.rixO {D : DSt} {fl : Bool} (q : Nat) (i j : Nat) (kd : IntKind) (v : Value) (e size n : Nat) (xs : List Value) (o : Nat) (cs : List Value) (hE : L[i]? = some (.rowf v e size n xs o cs))
    (hr : readyD ops (BD P fn ops D) = [q]) (hf : fuelD (BD P fn ops D) = true) (h : idxR P (headD fn.ntmps ops (BD P fn ops D) q) = some (v, .int kd (j : Int), size)) (hj : j < n)
    (kk : VD P fn R gl M w0 Ls U ops k L fl (nxD ops (BD P fn ops D) q (rptr v (j * size)))) : VD P fn R gl M w0 Ls U ops k L fl D :=
  VD.one q hr hf fun hg hd hn hsub w hw => by
    have hh : (Ent.row v e size n xs).holds w := rowf_form (hw.ents _ (List.mem_of_getElem? hE))
    obtain ⟨op, ho, hx⟩ := idxR_row (w := w) hh h hj
    exact ⟨op, ho, .inl ⟨_, w, hx, fun _ h0 => h0, kk hg hd hn hsub w hw⟩⟩
attribute [irreducible] rstChk

/-! ### append -/
theorem V.nilrow (e size : Nat) (kk : V P fn R gl M w0 (L ++ [.row (.slice none 0 0) e size 0 []]) S) : V P fn R gl M w0 L S := fun hg hd w hw => by
  refine kk hg hd w ?_
  have : Reach [] w [.row (.slice none 0 0) e size 0 []] w := ⟨rfl, rfl, rfl, Nat.le_refl _, Nat.le_refl _, fun _ _ _ => rfl, fun E hE => by simp only [List.mem_singleton] at hE; subst hE; exact World.ownsRow_nil w 0 e size, List.nodup_nil, fun b hb => by cases hb⟩
  exact hw.call0 this
def appH (P : Program) (H : Hd) : Option (Nat × Nat × Value × Value) :=
  match H.2 with
  | none => none
  | some o => match o.op with
    | .call c => match c.callee with
      | .builtin b => match b with
        | .append => match c.args.toList with
          | [s, x] => match c.argTypes.toList with
            | [t, t'] => bif Nat.beq t t' then
                match P.underlying t with
                | some (.slice e) => some (t, e, evl H.1 s, evl H.1 x)
                | _ => none
              else none
            | _ => none
          | _ => none
        | _ => none
      | _ => none
    | _ => none
theorem app_run {H : Hd} {t e : Nat} {s x : Value} (h : appH P H = some (t, e, s, x)) : P.underlying t = some (.slice e) ∧ ∃ o, H.2 = some o ∧ ∀ (w w' : World) (v' : Value), (Builtin.append_ #[t, t] o.type #[s, x]).run P w = .ok v' w' → (execOp (evl H.1) o).run P w = .ok (.value v') w' := by
  obtain ⟨F, o⟩ := H
  unfold appH at h
  cases o with
  | none => cases h
  | some o =>
    simp only at h
    split at h
    · rename_i c hop
      split at h
      · rename_i b hcal
        split at h
        · split at h
          · rename_i s' x' hargs
            split at h
            · rename_i t1 t2 hty
              cases hb : Nat.beq t1 t2 with
              | false => rw [hb] at h; cases h
              | true =>
                rw [hb] at h
                simp only [cond_true] at h
                split at h
                · rename_i e' hu
                  simp only [Option.some.injEq, Prod.mk.injEq] at h
                  obtain ⟨rfl, rfl, rfl, rfl⟩ := h
                  have := Nat.eq_of_beq_eq_true hb
                  subst this
                  refine ⟨hu, o, rfl, fun w w' v' hr => ?_⟩
                  have ha : c.args = #[s', x'] := by apply Array.ext'; simpa using hargs
                  have hty' : c.argTypes = #[t1, t1] := by apply Array.ext'; simpa using hty
                  simp only [execOp, hop, resolve, hcal, invoke, builtin, ha, hty', Sem.run_bind, Sem.run_pure, Result.andThen_ok, List.map_toArray, List.map_cons, List.map_nil, hr]
                · cases h
            · cases h
          · cases h
        · cases h
      · cases h
    · cases h
def zeroP (P : Program) (t : Nat) : Option Value := match P.info? t with | some i => i.zero | none => none
def bytesP (P : Program) (t : Nat) : Nat := match P.info? t with | some i => i.bytes | none => 0
/-- what must hold of an element type: it's known, its zero has its size, it has cells -/
def tyOk (P : Program) (e size bytes : Nat) : Bool :=
  match P.info? e with
  | some i => match i.zero with
    | some z => bif Nat.beq i.size size then (bif Nat.beq i.bytes bytes then (bif Nat.beq z.cells.size size then Nat.blt 0 size else false) else false) else false
    | none => false
  | none => false
/-- append: where the result lies -/
theorem run_append_ev {w : World} {t ty e : TypeId} {i : TypeInfo} {z : Value} {size bytes : Nat} (ht : P.underlying t = some (.slice e)) (hi : P.info? e = some i) (hz : i.zero = some z)
    (hsize : i.size = size) (hby : i.bytes = bytes) (hzs : z.cells.size = size) (hsz : 0 < size)
    {v : Value} {n : Nat} {xs : List Value} (hown : w.ownsRow 0 e size v n xs)
    {a : Addr} {m c : Nat} {news : List Value} (hl : news.length = m * size) (hnews : ∀ j u, news[j]? = some u → w.cell? (a.add j) = some u) (h1 : ∀ u ∈ news, u.oneCell' = true)
    (h63 : n + m ≤ maxLen) (hbytes : (n + m) * bytes ≤ 140737488355328) :
    ∃ a' cap' w', (Builtin.append_ #[t, t] ty #[v, .slice (some a) m c]).run P w = .ok (.slice a' (n + m) cap') w' ∧ Reach v.ownBlock.toList w [.row (.slice a' (n + m) cap') e size (n + m) (xs ++ news)] w' := by
  by_cases hroom : ∃ g cap, v = .slice (some ⟨g, 0, none⟩) n cap ∧ n + m ≤ cap
  · obtain ⟨g, cap, rfl, hr⟩ := hroom
    rcases hown.2 with ⟨h, _⟩ | ⟨g', cap', cur, he, _, hg, hnc, hcm, hcs, htake⟩
    · cases h
    · cases he
      subst hsize
      have hfit : n * i.size + news.length ≤ cur.size := by rw [hl, hcs, ← Nat.add_mul]; exact Nat.mul_le_mul_right _ hr
      have hrun := run_append_room (P := P) w t ty e i ht hi g n cap cur hg a m c news hl hnews h1 hr hfit
      refine ⟨_, _, _, hrun, grown_reach ⟨rfl, rfl, rfl, by simp, fun k _ hk => setRow_other w g k _ (fun e => hk (by simp [Value.ownBlock, e]))⟩ (Nat.le_refl _) ?_ (fun b hb => by cases hb; exact .inr rfl)⟩
      have hlen : (xs ++ news).length = (n + m) * i.size := by rw [List.length_append, hown.1, hl, Nat.add_mul]
      refine ⟨hlen, .inr ⟨g, cap, _, rfl, Nat.zero_le _, setRow_heap w g cur _ e _ hg, hr, hcm, ?_, ?_⟩⟩
      · simp only [List.size_toArray, List.length_append, List.length_take, List.length_drop, Array.length_toList]
        omega
      · simp only []
        rw [htake, ← hlen]
        exact List.take_left
  · subst hsize
    subst hby
    have hsmall : n + m ≤ 9223372036854775807 := by simp only [maxLen] at h63; omega
    have hlen : (xs ++ news).length = (n + m) * i.size := by rw [List.length_append, hown.1, hl, Nat.add_mul]
    have grown : ∀ (old : Nat), old < n + m → ∀ (row : Option Nat),
        Reach row.toList w [.row (.slice (some ⟨w.heap.size, 0, none⟩) (n + m) (grownCap w (n + m) old e)) e i.size (n + m) (xs ++ news)]
          (w.drew.alloc (.cells (xs.toArray ++ news.toArray ++ Builtin.zeroCells z.cells (grownCap w (n + m) old e - (n + m))) e)) := by
      intro old ho row
      have hge := grownCap_ge w (n + m) old e
      have hcm : grownCap w (n + m) old e ≤ maxLen := grownCap_le_maxLen w (n + m) old e h63
      refine grown_reach ⟨rfl, rfl, rfl, by simp, fun k hk _ => heap_alloc_old w.drew _ k hk⟩ (Nat.le_succ _) ⟨hlen, .inr ⟨w.heap.size, _, _, rfl, Nat.zero_le _, heap_alloc_new w.drew _, hge, hcm, ?_, ?_⟩⟩ (fun b hb => by cases hb; exact .inl (Nat.le_refl _))
      · simp only [Array.size_append, List.size_toArray, size_zeroCells, hzs, hown.1, hl, ← Nat.add_mul]
        congr 1
        omega
      · simp only [Array.toList_append, List.append_assoc]
        rw [← List.append_assoc, ← hlen]
        exact List.take_left
    rcases hown.2 with ⟨rfl, rfl⟩ | ⟨g, cap, cur, rfl, hbg, hg, hnc, hcm, hcs, htake⟩
    · have hx : xs = [] := List.eq_nil_of_length_eq_zero (by simpa using hown.1)
      subst hx
      by_cases hm : m = 0
      · subst hm
        have hn : news = [] := List.eq_nil_of_length_eq_zero (by simpa using hl)
        subst hn
        refine ⟨none, 0, w, ?_, grown_reach ⟨rfl, rfl, rfl, Nat.le_refl _, fun _ _ _ => rfl⟩ (Nat.le_refl _) (World.ownsRow_nil w 0 e i.size) (fun b hb => by cases hb)⟩
        simp [Builtin.append_, run_underlying ht, sizeOf, typeInfo, hi, Builtin.lenOf, Builtin.firstCells, loadCells, loadCellsFrom]
      · have hr := run_append_nil (P := P) w t ty e i z ht hi hz a m c news hl hnews (by omega) (by omega) (by have hb := hbytes; simp only [Nat.zero_add] at hb; omega)
        have hgr := grown 0 (by omega) (Value.ownBlock (.slice none 0 0))
        simp only [Nat.zero_add, List.nil_append, Array.empty_append] at hgr ⊢
        exact ⟨_, _, _, hr, hgr⟩
    · have hno : ¬ n + m ≤ cap := fun h => hroom ⟨g, cap, rfl, h⟩
      have holds : ∀ j u, xs[j]? = some u → w.cell? ((⟨g, 0, none⟩ : Addr).add j) = some u := hown.cells (g := g) rfl
      have hr := run_append_grow (P := P) w t ty e i z ht hi hz ⟨g, 0, none⟩ n cap xs hown.1 holds a m c news hl hnews (by omega) (by omega) (growslice_fits (by omega) hbytes)
      have hgr := grown cap (by omega) (Value.ownBlock (.slice (some ⟨g, 0, none⟩) n cap))
      exact ⟨_, _, _, hr, hgr⟩
theorem tyOk_spec {e size bytes : Nat} (ht : tyOk P e size bytes = true) : ∃ i z, P.info? e = some i ∧ i.zero = some z ∧ i.size = size ∧ i.bytes = bytes ∧ z.cells.size = size ∧ 0 < size := by
  unfold tyOk at ht
  cases hinf : P.info? e with
  | none => rw [hinf] at ht; cases ht
  | some inf =>
    rw [hinf] at ht
    simp only at ht
    cases hz : inf.zero with
    | none => rw [hz] at ht; cases ht
    | some z =>
      rw [hz] at ht
      simp only at ht
      cases h1 : Nat.beq inf.size size with
      | false => rw [h1] at ht; cases ht
      | true =>
        rw [h1] at ht
        simp only [cond_true] at ht
        cases h2 : Nat.beq inf.bytes bytes with
        | false => rw [h2] at ht; cases ht
        | true =>
          rw [h2] at ht
          simp only [cond_true] at ht
          cases h3 : Nat.beq z.cells.size size with
          | false => rw [h3] at ht; cases ht
          | true =>
            rw [h3] at ht
            exact ⟨inf, z, rfl, hz, Nat.eq_of_beq_eq_true h1, Nat.eq_of_beq_eq_true h2, Nat.eq_of_beq_eq_true h3, Nat.le_of_ble_eq_true ht⟩
/-- what lies at a slice's place -/
def Src (w : World) (src : Value) (m size : Nat) (news : List Value) : Prop :=
  (∃ a c, src = .slice (some a) m c ∧ news.length = m * size ∧ (∀ j u, news[j]? = some u → w.cell? (a.add j) = some u) ∧ ∀ u ∈ news, u.oneCell' = true) ∨ (src = .slice none 0 0 ∧ m = 0 ∧ news = [])
theorem does_append {H : Hd} {t e size bytes n m : Nat} {v src : Value} {xs news : List Value} {i : Nat} (h : appH P H = some (t, e, v, src)) (ht : tyOk P e size bytes = true)
    (hi : L[i]? = some (.row v e size n xs)) {w : World} (hw : Reach M w0 L w) (hsrc : Src w src m size news)
    (h63 : n + m ≤ maxLen) (hby : (n + m) * bytes ≤ 140737488355328) :
    Does P H w (fun u w' => ∃ a' cap', u = .slice a' (n + m) cap' ∧ Reach M w0 (L.set i (.row (.slice a' (n + m) cap') e size (n + m) (xs ++ news))) w') := by
  obtain ⟨hu, o, ho, hrun⟩ := app_run h
  obtain ⟨inf, z, hinf, hz, h1, h2, h3, h4⟩ := tyOk_spec ht
  have hown : w.ownsRow 0 e size v n xs := hw.ents _ (List.mem_of_getElem? hi)
  rcases hsrc with ⟨a, c, rfl, hl, hnews, hone⟩ | ⟨rfl, rfl, rfl⟩
  · obtain ⟨a', cap', w', hr, hre⟩ := run_append_ev (P := P) (ty := o.type) (c := c) hu hinf hz h1 h2 h3 h4 hown hl hnews hone h63 hby
    exact ⟨o, ho, .inl ⟨_, w', hrun w w' _ hr, a', cap', rfl, hw.setg hi hre⟩⟩
  · have hr := run_append_owned_none (P := P) (w := w) 0 t o.type e inf size hu hinf v n xs hown
    obtain ⟨a', cap', rfl⟩ : ∃ a' cap', v = .slice a' n cap' := by
      rcases hown.2 with ⟨rfl, h0⟩ | ⟨g, cap, _, rfl, _⟩
      · exact ⟨none, 0, by rw [h0]⟩
      · exact ⟨_, _, rfl⟩
    refine ⟨o, ho, .inl ⟨_, w, hrun w w _ hr, a', cap', rfl, ?_⟩⟩
    simp only [Nat.add_zero, List.append_nil]
    obtain ⟨L1, L3, e1, hs⟩ := set_split hi
    rw [hs, ← e1]
    exact hw
/-- an exact block of cells: the whole of it -/
theorem Src.blk {w : World} {L : List Ent} {i b m c size : Nat} {T : TypeId} {cs : Array Value} {M : List Nat} {w0 : World} (hw : Reach M w0 L w) (hi : L[i]? = some (.blk b (.cells cs T (0, 0)))) (hl : cs.size = m * size)
    (h1 : ∀ u ∈ cs.toList, u.oneCell' = true) : Src w (.slice (some ⟨b, 0, none⟩) m c) m size cs.toList := by
  refine .inl ⟨_, _, rfl, by simpa using hl, fun j u hj => ?_, h1⟩
  rw [add_mk, Nat.zero_add, cell_of_row w b j cs T (0, 0) (hw.ents _ (List.mem_of_getElem? hi))]
  rwa [Array.getElem?_toList] at hj
theorem Src.row {w : World} {v : Value} {e size n : Nat} {xs : List Value} (h : (Ent.row v e size n xs).holds w) (h1 : ∀ u ∈ xs, u.oneCell' = true) : Src w v n size xs := by
  have hown : w.ownsRow 0 e size v n xs := h
  rcases hown.2 with ⟨rfl, rfl⟩ | ⟨g, cap, cur, rfl, _⟩
  · exact .inr ⟨rfl, rfl, List.eq_nil_of_length_eq_zero (by simpa using hown.1)⟩
  · exact .inl ⟨_, _, rfl, hown.1, hown.cells (g := g) rfl, h1⟩
/-- append(s, x): s a row of the function's own (entry i), x a block just made (entry k) -/
theorem V.append (i kx : Nat) (bytes : Nat) {t e size n m b c T : Nat} {v : Value} {xs : List Value} {cs : Array Value} (hi : L[i]? = some (.row v e size n xs)) (hk : L[kx]? = some (.blk b (.cells cs T (0, 0))))
    (h : appH P (headS fn.ntmps (A P fn S)) = some (t, e, v, .slice (some ⟨b, 0, none⟩) m c)) (ht : tyOk P e size bytes = true) (hl : Nat.beq cs.size (m * size) = true) (h1 : cs.all (fun u => u.oneCell') = true)
    (h63 : n + m ≤ maxLen) (hby : (n + m) * bytes ≤ 140737488355328)
    (kk : ∀ a' cap', V P fn R gl M w0 (L.set i (.row (.slice a' (n + m) cap') e size (n + m) (xs ++ cs.toList))) (nx (A P fn S) (.slice a' (n + m) cap'))) : V P fn R gl M w0 L S :=
  V.does fun hg hd _ hw => (does_append h ht hi hw (Src.blk hw hk (Nat.eq_of_beq_eq_true hl) (fun u hu => (Array.all_eq_true_iff_forall_mem.1 h1 u (by simpa using hu)))) h63 hby).mono fun _ w' hu => by
    obtain ⟨a', cap', rfl, hr⟩ := hu
    exact kk a' cap' hg hd w' hr
/-- append(s, x...): x a row (entry k) -/
theorem V.appendr (i kx : Nat) (bytes : Nat) {t e e' size n m : Nat} {v src : Value} {xs news : List Value} (hi : L[i]? = some (.row v e size n xs)) (hk : lookE L gl kx = .row src e' size m news) (hB : lookOk L gl kx = true)
    (h : appH P (headS fn.ntmps (A P fn S)) = some (t, e, v, src)) (ht : tyOk P e size bytes = true) (h1 : ∀ u ∈ news, u.oneCell' = true)
    (h63 : n + m ≤ maxLen) (hby : (n + m) * bytes ≤ 140737488355328)
    (kk : ∀ a' cap', V P fn R gl M w0 (L.set i (.row (.slice a' (n + m) cap') e size (n + m) (xs ++ news))) (nx (A P fn S) (.slice a' (n + m) cap'))) : V P fn R gl M w0 L S :=
  V.does fun hg hd w hw => (does_append h ht hi hw (Src.row (by rw [← hk]; exact lookE_holds hB (hg.reach hd hw) hw) h1) h63 hby).mono fun _ w' hu => by
    obtain ⟨a', cap', rfl, hr⟩ := hu
    exact kk a' cap' hg hd w' hr
attribute [irreducible] callV addG idxR appH tyOk
end Go.Ev
