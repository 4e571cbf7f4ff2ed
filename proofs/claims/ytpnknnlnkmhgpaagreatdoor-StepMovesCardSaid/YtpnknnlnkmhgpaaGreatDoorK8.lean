/- Shown here: Walks: make([]T, n). Conditions: none beyond those in each theorem. -/
import Derived.Laws.MakeOwn
import Derived.Test.YtpnknnlnkmhgpaaGreatDoorK7
namespace Go.Ev
open Go
variable {P : Program} {fn : Func} {R : Ending → World → Prop} {gl : Gls} {M : List Nat} {w0 : World} {L Ls : List Ent} {S : St} {U : List Nat} {ops : Array Oper} {k k' : List Item}

def makeH (P : Program) (H : Hd) : Option (Nat × Nat × Value × Value) :=
  match H.2 with
  | none => none
  | some o => match o.op with
    | .makeSlice t l c => match P.underlying t with
      | some (.slice e) => some (t, e, evl H.1 l, evl H.1 c)
      | _ => none
    | _ => none
/-- an element type's zero cells -/
def zeroC (P : Program) (e : Nat) : Array Value := match P.info? e with | some i => (match i.zero with | some z => z.cells | none => #[]) | none => #[]
theorem does_make {H : Hd} {w : World} {t e n size bytes : Nat} {kl kc : IntKind} (h : makeH P H = some (t, e, .int kl (n : Int), .int kc (n : Int))) (ht : tyOk P e size bytes = true)
    (h63 : n ≤ maxLen) (hby : bytes * n ≤ 281474976710656) :
    Does P H w (fun u w' => u = .slice (some ⟨w.heap.size, 0, none⟩) n n ∧ Reach [] w [.row (.slice (some ⟨w.heap.size, 0, none⟩) n n) e size n (madeCells (zeroC P e) (n * size)).toList] w') := by
  obtain ⟨inf, z, hinf, hz, h1, h2, h3, h4⟩ := tyOk_spec ht
  obtain ⟨F, o⟩ := H
  unfold makeH at h
  cases o with
  | none => cases h
  | some o =>
    simp only at h
    split at h
    · rename_i t' l c hop
      split at h
      · rename_i e' hu
        simp only [Option.some.injEq, Prod.mk.injEq] at h
        obtain ⟨rfl, rfl, hl, hc⟩ := h
        obtain ⟨w', hr, hown, hgr⟩ := run_make_full (P := P) w 0 t' e' inf z size hu hinf hz h1 kl kc n (by rw [h2]; exact hby) h63 (Nat.zero_le _)
        have hdr : w.drawn ≤ w'.drawn := by
          have hb' : (inf.bytes : Int) * (n : Int) ≤ 281474976710656 := by
            have h : ((inf.bytes * n : Nat) : Int) ≤ 281474976710656 := by rw [h2]; omega
            rwa [Int.natCast_mul] at h
          have hr2 := run_make (P := P) (w := w) t' e' inf z hu hinf hz kl kc n n (by omega) (Int.le_refl _) hb' (by have h := h63; simp [maxLen] at h; omega)
          have e2 := hr.symm.trans hr2
          injection e2 with _ e3
          rw [e3]
          exact Nat.le_refl _
        have hzc : zeroC P e' = z.cells := by simp [zeroC, hinf, hz]
        refine ⟨o, rfl, .inl ⟨_, w', ?_, rfl, ?_⟩⟩
        · simp only [execOp, hop, hl, hc, Sem.run_bind, hr, Result.andThen_ok, Sem.run_pure]
        · rw [hzc]
          exact grown_reach (v := none) hgr hdr hown (fun b hb => by cases hb; exact .inl (Nat.le_refl _))
      · cases h
    · cases h
theorem V.make (n size bytes : Nat) {t e : Nat} {kl kc : IntKind} (h : makeH P (headS fn.ntmps (A P fn S)) = some (t, e, .int kl (n : Int), .int kc (n : Int))) (ht : tyOk P e size bytes = true)
    (h63 : n ≤ maxLen) (hby : bytes * n ≤ 281474976710656) (zs : List Value) (hz : (madeCells (zeroC P e) (n * size)).toList = zs)
    (kk : ∀ b, V P fn R gl M w0 (L ++ [.row (.slice (some ⟨b, 0, none⟩) n n) e size n zs]) (nx (A P fn S) (.slice (some ⟨b, 0, none⟩) n n))) : V P fn R gl M w0 L S :=
  V.does fun hg hd w hw => (does_make (w := w) h ht h63 hby).mono fun _ w' hu => by
    obtain ⟨rfl, hr⟩ := hu
    subst hz
    exact kk _ hg hd w' (hw.call0 hr)
/-- operation i, taken now, leads on -/
def G1 (P : Program) (fn : Func) (R : Ending → World → Prop) (gl : Gls) (M : List Nat) (w0 : World) (Ls : List Ent) (U : List Nat) (ops : Array Oper) (k : List Item) (L : List Ent) (fl : Bool) (D : DSt) (i : Nat) : Prop :=
  Gl gl w0 → Dis gl M → Region.noSelect ops = true → (fl = true → List.Sublist Ls L) → ∀ w, Reach M w0 L w → Does P (headD fn.ntmps ops D i) w (fun v w' => (sreq .any ops U i = true → Reach M w0 Ls w → Reach M w0 Ls w') ∧ WD P fn R M w0 Ls U ops k (nxD ops D i v) w')
theorem VD.two {D : DSt} {fl : Bool} (i j : Nat) (hr : readyD ops (BD P fn ops D) = [i, j]) (hf : fuelD (BD P fn ops D) = true) (hi : G1 P fn R gl M w0 Ls U ops k L fl (BD P fn ops D) i) (hj : G1 P fn R gl M w0 Ls U ops k L fl (BD P fn ops D) j) :
    VD P fn R gl M w0 Ls U ops k L fl D :=
  VD.adv0 fun hg hd hn hsub w hw => WD.all [i, j] hr (by simp) hf (fun q hq => by
    simp only [List.mem_cons, List.not_mem_nil, or_false] at hq
    rcases hq with rfl | rfl
    · exact hi hg hd hn hsub w hw
    · exact hj hg hd hn hsub w hw)
theorem G1.make {D : DSt} {fl : Bool} (i : Nat) (n size bytes : Nat) {t e : Nat} {kl kc : IntKind}
    (h : makeH P (headD fn.ntmps ops D i) = some (t, e, .int kl (n : Int), .int kc (n : Int))) (ht : tyOk P e size bytes = true)
    (h63 : n ≤ maxLen) (hby : bytes * n ≤ 281474976710656) (zs : List Value) (hz : (madeCells (zeroC P e) (n * size)).toList = zs)
    (kk : ∀ b, VD P fn R gl M w0 Ls U ops k (L ++ [.row (.slice (some ⟨b, 0, none⟩) n n) e size n zs]) fl (nxD ops D i (.slice (some ⟨b, 0, none⟩) n n))) : G1 P fn R gl M w0 Ls U ops k L fl D i :=
  fun hg hd hn hsub w hw => (does_make (w := w) h ht h63 hby).mono fun _ w' hu => by
    obtain ⟨rfl, hx⟩ := hu
    subst hz
    exact ⟨fun _ h0 => (h0.call0 hx).sub (List.sublist_append_left _ _), kk _ hg hd hn (fun hh => (hsub hh).trans (List.sublist_append_left _ _)) w' (hw.call0 hx)⟩
theorem VD.make {D : DSt} {fl : Bool} (i : Nat) (n size bytes : Nat) {t e : Nat} {kl kc : IntKind} (hr : readyD ops (BD P fn ops D) = [i]) (hf : fuelD (BD P fn ops D) = true)
    (h : makeH P (headD fn.ntmps ops (BD P fn ops D) i) = some (t, e, .int kl (n : Int), .int kc (n : Int))) (ht : tyOk P e size bytes = true)
    (h63 : n ≤ maxLen) (hby : bytes * n ≤ 281474976710656) (zs : List Value) (hz : (madeCells (zeroC P e) (n * size)).toList = zs)
    (kk : ∀ b, VD P fn R gl M w0 Ls U ops k (L ++ [.row (.slice (some ⟨b, 0, none⟩) n n) e size n zs]) fl (nxD ops (BD P fn ops D) i (.slice (some ⟨b, 0, none⟩) n n))) : VD P fn R gl M w0 Ls U ops k L fl D :=
  VD.one i hr hf fun hg hd hn hsub w hw => (does_make (w := w) h ht h63 hby).mono fun _ w' hu => by
    obtain ⟨rfl, hx⟩ := hu
    subst hz
    exact ⟨fun _ h0 => (h0.call0 hx).sub (List.sublist_append_left _ _), kk _ hg hd hn (fun hh => (hsub hh).trans (List.sublist_append_left _ _)) w' (hw.call0 hx)⟩
theorem does_callcg {H : Hd} (is : List Nat) (c : Nat) {gl' : Gls} {X : Type} {Pw : World → Prop} {C : List Ent} {val : X → Value} {φ : X → Prop} {C' : X → List Ent} {g : Nat} {args : Array Value}
    (hc : Spec P gl' g args Pw C val φ C') (hC : L.take c = C) (hL : lookL L gl is = gl') (hB : lookB L gl is = true) (hO : okRd c is = true)
    (h : callH P H = some (g, args)) {w : World} (hg : Gl gl w0) (hd : Dis gl M) (hw : Reach M w0 L w) (hp : Pw w) :
    Does P H w (fun u w' => ∃ x, u = val x ∧ φ x ∧ Reach M w0 (C' x ++ L.drop c) w') := by
  subst hC
  have hw' : Reach M w0 (L.take c ++ L.drop c) w := by rw [List.take_append_drop]; exact hw
  have hD : Dis gl' (feet (L.take c)) := by
    intro E hE b hb hm
    rw [← hL] at hE
    unfold lookL at hE
    obtain ⟨i, hi, rfl⟩ := List.mem_map.1 hE
    have h1 := List.all_eq_true.1 hO i hi
    unfold lookB at hB
    have h2 := List.all_eq_true.1 hB i hi
    unfold lookOk at h2
    unfold lookE at hb
    cases h3 : Nat.ble 1000 i with
    | true =>
      rw [h3] at h2 hb
      have h2 : i - 1000 < gl.length := Nat.le_of_ble_eq_true h2
      simp only [cond_true] at hb
      rw [List.getD_eq_getElem?_getD, List.getElem?_eq_getElem h2] at hb
      exact hw'.dis hg hd _ (List.getElem_mem h2) b hb hm
    | false =>
      rw [h3] at h1 h2 hb
      have h2 : i < L.length := Nat.le_of_ble_eq_true h2
      have h1 : c ≤ i := Nat.le_of_ble_eq_true h1
      simp only [cond_false] at hb
      rw [List.getD_eq_getElem?_getD, List.getElem?_eq_getElem h2] at hb
      have hn := hw'.nodup
      rw [feet_append] at hn
      refine (List.nodup_append.1 hn).2.2 b hm b (mem_feet.2 ⟨L[i], ?_, hb⟩) rfl
      rw [List.mem_iff_getElem?]
      exact ⟨i - c, by rw [List.getElem?_drop]; rw [show c + (i - c) = i by omega]; exact List.getElem?_eq_getElem h2⟩
  refine does_call h (hc w (by rw [← hL]; exact look_gl hB (hg.reach hd hw) hw) hD hw'.own hp) fun e w' he => ?_
  obtain ⟨x, he1, hφ, hr⟩ := he
  exact ⟨val x, he1, x, rfl, hφ, hw'.callc hr⟩
theorem VD.callckg {D : DSt} {fl : Bool} (is : List Nat) (n : Nat) (c : Nat) {gl' : Gls} {X : Type} {Pw : World → Prop} {C : List Ent} {val : X → Value} {φ : X → Prop} {C' : X → List Ent} {g : Nat} {args : Array Value}
    (hc : Spec P gl' g args Pw C val φ C') (hC : L.take c = C) (hL : lookL L gl is = gl') (hB : lookB L gl is = true) (hO : okRd c is = true) (i : Nat) (hLs : L.drop n = Ls) (hcn : Nat.ble c n = true)
    (hr : readyD ops (BD P fn ops D) = [i]) (hf : fuelD (BD P fn ops D) = true)
    (h : callH P (headD fn.ntmps ops (BD P fn ops D) i) = some (g, args)) (hp : ∀ w, Reach M w0 L w → Pw w)
    (kk : ∀ x, φ x → VD P fn R gl M w0 Ls U ops k (C' x ++ L.drop c) fl (nxD ops (BD P fn ops D) i (val x))) : VD P fn R gl M w0 Ls U ops k L fl D :=
  VD.one i hr hf fun hg hd hn _ w hw => (does_callcg is c hc hC hL hB hO h hg hd hw (hp w hw)).mono fun _ w' hu => by
    obtain ⟨x, rfl, hφ, hx⟩ := hu
    have hs : List.Sublist Ls (C' x ++ L.drop c) := by
      rw [← hLs]
      have hle : c ≤ n := Nat.le_of_ble_eq_true hcn
      have : L.drop n = (L.drop c).drop (n - c) := by rw [List.drop_drop]; congr 1; omega
      rw [this]
      exact (List.drop_sublist _ _).trans (List.sublist_append_right _ _)
    exact ⟨fun _ _ => hx.sub hs, kk x hφ hg hd hn (fun _ => hs) w' hx⟩
attribute [irreducible] makeH zeroC
end Go.Ev
