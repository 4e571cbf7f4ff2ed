/- Shown here: Walks: an append inside a region that draws; an index from the block's begin on. Conditions: none beyond those in each theorem. -/
import Derived.Test.YtpnknnlnkmhgpaaGreatDoorK16
namespace Go.Ev
open Go
variable {P : Program} {fn : Func} {R : Ending → World → Prop} {gl : Gls} {M : List Nat} {w0 : World} {L Ls : List Ent} {S : St} {U : List Nat} {ops : Array Oper} {k : List Item}
theorem VD.append {D : DSt} {fl : Bool} (q i kx : Nat) (bytes : Nat) {t e size n m b c T : Nat} {v : Value} {xs : List Value} {cs : Array Value} (hr : readyD ops (BD P fn ops D) = [q]) (hf : fuelD (BD P fn ops D) = true) (hq : sreq .any ops U q = false)
    (hi : L[i]? = some (.row v e size n xs)) (hk : L[kx]? = some (.blk b (.cells cs T (0, 0))))
    (h : appH P (headD fn.ntmps ops (BD P fn ops D) q) = some (t, e, v, .slice (some ⟨b, 0, none⟩) m c)) (ht : tyOk P e size bytes = true) (hl : Nat.beq cs.size (m * size) = true) (h1 : cs.all (fun u => u.oneCell') = true)
    (h63 : n + m ≤ maxLen) (hby : (n + m) * bytes ≤ 140737488355328)
    (kk : ∀ a' cap', VD P fn R gl M w0 Ls U ops k (L.set i (.row (.slice a' (n + m) cap') e size (n + m) (xs ++ cs.toList))) false (nxD ops (BD P fn ops D) q (.slice a' (n + m) cap'))) : VD P fn R gl M w0 Ls U ops k L fl D :=
  VD.one q hr hf fun hg hd hn _ w hw => (does_append h ht hi hw (Src.blk hw hk (Nat.eq_of_beq_eq_true hl) (fun u hu => (Array.all_eq_true_iff_forall_mem.1 h1 u (by simpa using hu)))) h63 hby).mono fun _ w' hu => by
    obtain ⟨a', cap', rfl, hx⟩ := hu
    exact ⟨fun h0 _ => absurd h0 (by rw [hq]; exact Bool.false_ne_true), kk a' cap' hg hd hn (fun h0 => absurd h0 Bool.false_ne_true) w' hx⟩
theorem VD.appendk {D : DSt} {fl : Bool} (np mm : Nat) (q i kx : Nat) (bytes : Nat) {t e size n m b c T : Nat} {v : Value} {xs : List Value} {cs : Array Value} (hLs : (L.drop np).take mm = Ls) (hin : Nat.blt i np = true) (hr : readyD ops (BD P fn ops D) = [q]) (hf : fuelD (BD P fn ops D) = true)
    (hi : L[i]? = some (.row v e size n xs)) (hk : L[kx]? = some (.blk b (.cells cs T (0, 0))))
    (h : appH P (headD fn.ntmps ops (BD P fn ops D) q) = some (t, e, v, .slice (some ⟨b, 0, none⟩) m c)) (ht : tyOk P e size bytes = true) (hl : Nat.beq cs.size (m * size) = true) (h1 : cs.all (fun u => u.oneCell') = true)
    (h63 : n + m ≤ maxLen) (hby : (n + m) * bytes ≤ 140737488355328)
    (kk : ∀ a' cap', VD P fn R gl M w0 Ls U ops k (L.set i (.row (.slice a' (n + m) cap') e size (n + m) (xs ++ cs.toList))) fl (nxD ops (BD P fn ops D) q (.slice a' (n + m) cap'))) : VD P fn R gl M w0 Ls U ops k L fl D :=
  VD.one q hr hf fun hg hd hn _ w hw => (does_append h ht hi hw (Src.blk hw hk (Nat.eq_of_beq_eq_true hl) (fun u hu => (Array.all_eq_true_iff_forall_mem.1 h1 u (by simpa using hu)))) h63 hby).mono fun _ w' hu => by
    obtain ⟨a', cap', rfl, hx⟩ := hu
    have hs : ∀ E', List.Sublist Ls (L.set i E') := fun E' => by
      have hlt : i < np := Nat.le_of_ble_eq_true hin
      have : ((L.set i E').drop np).take mm = Ls := by rw [List.drop_set_of_lt hlt, hLs]
      rw [← this]; exact (List.take_sublist mm _).trans (List.drop_sublist np _)
    exact ⟨fun _ _ => hx.sub (hs _), kk a' cap' hg hd hn (fun _ => hs _) w' hx⟩
theorem V.idx0 (b len size j : Nat) (kd : IntKind) (h : idxH P (headS fn.ntmps (A P fn S)) = some (some ⟨b, 0, none⟩, len, .int kd (j : Int), size)) (hj : j < len)
    (kk : V P fn R gl M w0 L (nx (A P fn S) (.pointer (some ⟨b, j * size, none⟩)))) : V P fn R gl M w0 L S := V.idx b 0 len size j kd h hj (by rw [Nat.zero_add]; exact kk)
theorem VD.idx0 {D : DSt} {fl : Bool} (i : Nat) (b len size j : Nat) (kd : IntKind) (ht : takeOk ops (BD P fn ops D) i = true) (h : idxH P (headD fn.ntmps ops (BD P fn ops D) i) = some (some ⟨b, 0, none⟩, len, .int kd (j : Int), size)) (hj : j < len)
    (kk : VD P fn R gl M w0 Ls U ops k L fl (nxD ops (BD P fn ops D) i (.pointer (some ⟨b, j * size, none⟩)))) : VD P fn R gl M w0 Ls U ops k L fl D := VD.idx i b 0 len size j kd ht h hj (by rw [Nat.zero_add]; exact kk)
/-- one that comes up alone -/
theorem VD.idxO {D : DSt} {fl : Bool} (q : Nat) (b len size j : Nat) (kd : IntKind) (hr : readyD ops (BD P fn ops D) = [q]) (hf : fuelD (BD P fn ops D) = true) (h : idxH P (headD fn.ntmps ops (BD P fn ops D) q) = some (some ⟨b, 0, none⟩, len, .int kd (j : Int), size)) (hj : j < len)
    (kk : VD P fn R gl M w0 Ls U ops k L fl (nxD ops (BD P fn ops D) q (.pointer (some ⟨b, j * size, none⟩)))) : VD P fn R gl M w0 Ls U ops k L fl D :=
  VD.one q hr hf fun hg hd hn hsub w hw => by
    obtain ⟨op, ho, hx⟩ := idx_run (w := w) h hj
    rw [Nat.zero_add] at hx
    exact ⟨op, ho, .inl ⟨_, w, hx, fun _ h0 => h0, kk hg hd hn hsub w hw⟩⟩

/-! ### facts that follow from what is only read -/
theorem V.gladd (E : Ent) (hE : ∀ w, Gl gl w → E.holds w) (hf : ∀ b, E.foot = some b → ∃ E' ∈ gl, E'.foot = some b) (kk : V P fn R (E :: gl) M w0 L S) : V P fn R gl M w0 L S := fun hg hd w hw =>
  kk (fun E' h => by rcases List.mem_cons.1 h with rfl | h; exact hE _ hg; exact hg _ h) (fun E' h b hb => by
    rcases List.mem_cons.1 h with rfl | h
    · obtain ⟨E2, h2, h3⟩ := hf b hb; exact hd E2 h2 b h3
    · exact hd E' h b hb) w hw
theorem V.glfact {E : Ent} {φ : Prop} (hE : E ∈ gl) (h : ∀ w, E.holds w → φ) (kk : φ → V P fn R gl M w0 L S) : V P fn R gl M w0 L S := fun hg hd w hw => kk (h w0 (hg E hE)) hg hd w hw
theorem V.lfact {E : Ent} {φ : Prop} (hE : E ∈ L) (h : ∀ w, E.holds w → φ) (kk : φ → V P fn R gl M w0 L S) : V P fn R gl M w0 L S := fun hg hd w hw => kk (h w (hw.ents E hE)) hg hd w hw
theorem row_cap {w : World} {a : Option Addr} {cap e size n : Nat} {xs : List Value} (h : (Ent.row (.slice a n cap) e size n xs).holds w) : n ≤ cap ∧ (a = none → n = 0) ∧ ∀ x, a = some x → x = ⟨x.block, 0, none⟩ := by
  have h : w.ownsRow 0 e size (.slice a n cap) n xs := h
  rcases h.2 with ⟨hv, hn⟩ | ⟨g, cap', cur, hv, h1, h2, h3, h4, h5, h6⟩
  · injection hv with e1 e2 e3
    subst e1
    exact ⟨by omega, (fun _ => hn), (fun x hx => by cases hx)⟩
  · injection hv with e1 e2 e3
    subst e1
    exact ⟨by omega, (fun h => by cases h), (fun x hx => by cases hx; rfl)⟩
/-- a lookup among the operations that only read -/
theorem VD.lookf {D : DSt} {K : Type} [DecidableEq K] (i : Nat) (r : Nat) {t kt e b : Nat} {enc : K → Value} {kvs : List (K × Value)} {z : Value} {ok : Bool} (x : K) (v : Value) (hk : KeyOk P kt enc) (hE : lookE [] gl r = .gen b (MapIs enc kvs)) (hB : lookOk [] gl r = true)
    (ht : takeOk ops (BD P fn ops D) i = true) (hU : memN i U = true) (h : lookH P (headD fn.ntmps ops (BD P fn ops D) i) = some (t, kt, e, .map (some b), enc x, ok)) (hz : pureVal P (zeroValue e) = some z) (hv : lookV z (mget x kvs) ok = v)
    (kk : VD P fn R gl M w0 Ls U ops k L true (nxD ops (BD P fn ops D) i v)) : VD P fn R gl M w0 Ls U ops k L true D :=
  VD.takef i v ht hU (fun _ w hgw _ => by
    subst hv
    exact lookH_run h hk hz (w := w) (by rw [← hE]; exact lookE_holds (L := []) hB hgw (Reach.refl w))) kk
/-- a guard whose value is known -/
def gD (D : DSt) (t : Nat) : DSt := ⟨D.listed, D.fuel, D.F, t :: D.G, D.fl⟩
theorem VD.grd {D : DSt} {fl : Bool} (t : Nat) (kk : VD P fn R gl M w0 Ls U ops k L fl (gD D t)) : VD P fn R gl M w0 Ls U ops k L fl D := kk
/-- a slot's value, said otherwise, at the stop; from there on it may be a guard -/
def slotD (D : DSt) (t : Nat) : Value := D.F t
def putD (D : DSt) (t : Nat) (v : Value) : DSt := ⟨D.listed, D.fuel, upd D.F t v, t :: D.G, D.fl⟩
theorem VD.norm {D : DSt} {fl : Bool} (t : Nat) (v v' : Value) (h : slotD (BD P fn ops D) t = v) (e : v = v') (kk : VD P fn R gl M w0 Ls U ops k L fl (putD (BD P fn ops D) t v')) : VD P fn R gl M w0 Ls U ops k L fl D :=
  VD.adv0 (by
    unfold putD at kk
    rw [show upd (BD P fn ops D).F t v' = (BD P fn ops D).F from upd_same (h.trans e)] at kk
    exact kk)
/-- == or != at structs, among the operations that only read -/
theorem VD.eqs {D : DSt} {fl : Bool} (i : Nat) (v : Value) (ht : takeOk ops (BD P fn ops D) i = true) (h : (eqH P (headD fn.ntmps ops (BD P fn ops D) i)).isSome = true) (hv : eqOut (eqH P (headD fn.ntmps ops (BD P fn ops D) i)) = v)
    (kk : VD P fn R gl M w0 Ls U ops k L fl (nxD ops (BD P fn ops D) i v)) : VD P fn R gl M w0 Ls U ops k L fl D :=
  VD.take i v ht (fun w => by
    cases hh : eqH P (headD fn.ntmps ops (BD P fn ops D) i) with
    | none => rw [hh] at h; cases h
    | some eb =>
      obtain ⟨e, b⟩ := eb
      obtain ⟨o, ho, hr⟩ := eqH_run (w := w) hh
      rw [hh] at hv
      refine ⟨o, ho, ?_⟩
      rw [← hv, show eqOut (some (e, b)) = Value.bool (if e = true then b else !b) by unfold eqOut; rfl]
      exact hr) kk
theorem G1.new {D : DSt} {fl : Bool} (i : Nat) (h : ∀ b, newChk P (headD fn.ntmps ops D i) b = true)
    (kk : ∀ b, VD P fn R gl M w0 Ls U ops k (L ++ [.blk b (newObj P (headD fn.ntmps ops D i))]) fl (nxD ops D i (newVal P (headD fn.ntmps ops D i) b))) : G1 P fn R gl M w0 Ls U ops k L fl D i :=
  fun hg hd hn hsub w hw => by
    have h2 := fun (h0 : Reach M w0 Ls w) => does_new (h w.heap.size) h0
    have h1 := does_new (h w.heap.size) hw
    obtain ⟨o, ho, hh⟩ := h1
    refine ⟨o, ho, ?_⟩
    rcases hh with ⟨v, w', hx, hv, hr2⟩ | ⟨w', hx, hv, hr2⟩ | ⟨g, args, w1, R', hx, hc, hk⟩
    · refine .inl ⟨v, w', hx, fun _ h0 => ?_, ?_⟩
      · obtain ⟨o2, ho2, hh2⟩ := h2 h0
        rw [ho] at ho2; cases ho2
        rcases hh2 with ⟨v2, w2, hx2, _, hr3⟩ | ⟨w2, hx2, _, _⟩ | ⟨g, args, w1, R', hx2, _, _⟩
        · rw [hx] at hx2; cases hx2; exact hr3.sub (List.sublist_append_left _ _)
        · rw [hx] at hx2; cases hx2
        · rw [hx] at hx2; cases hx2
      · rw [hv]; exact kk _ hg hd hn (fun q => (hsub q).trans (List.sublist_append_left _ _)) w' hr2
    · refine .inr (.inl ⟨w', hx, fun _ h0 => ?_, ?_⟩)
      · obtain ⟨o2, ho2, hh2⟩ := h2 h0
        rw [ho] at ho2; cases ho2
        rcases hh2 with ⟨v2, w2, hx2, _, hr3⟩ | ⟨w2, hx2, _, hr3⟩ | ⟨g, args, w1, R', hx2, _, _⟩
        · rw [hx] at hx2; cases hx2
        · rw [hx] at hx2; cases hx2; exact hr3.sub (List.sublist_append_left _ _)
        · rw [hx] at hx2; cases hx2
      · rw [hv]; exact kk _ hg hd hn (fun q => (hsub q).trans (List.sublist_append_left _ _)) w' hr2
    · exfalso
      have hn := h w.heap.size
      unfold newChk newH at hn
      rw [ho] at hn
      simp only at hn
      cases hs : newSem P (execOp (evl (headD fn.ntmps ops D i).1) o) with
      | none => rw [hs] at hn; cases hn
      | some of =>
        obtain ⟨ob, f⟩ := of
        rw [hs] at hn
        simp only at hn
        cases hf2 : f w.heap.size with
        | none => rw [hf2] at hn; cases hn
        | some nx =>
          rw [hf2] at hn
          cases nx with
          | value v => rw [newSem_run hs hf2] at hx; cases hx
          | _ => cases hn
theorem G1.callg {D : DSt} {fl : Bool} (i : Nat) (is : List Nat) {gl' : Gls} {g : Nat} {args : Array Value} {v : Value} (hc : PureFn P gl' g args v) (hL : lookL L gl is = gl') (hB : lookB L gl is = true)
    (h : callH P (headD fn.ntmps ops D i) = some (g, args)) (kk : VD P fn R gl M w0 Ls U ops k L fl (nxD ops D i v)) : G1 P fn R gl M w0 Ls U ops k L fl D i :=
  fun hg hd hn hsub w hw => by
    refine does_call h (hc w (by rw [← hL]; exact look_gl hB (hg.reach hd hw) hw)) fun e w' he => ⟨v, he.1, fun _ h0 => ?_, kk hg hd hn hsub w' ?_⟩
    · have := h0.call0 he.2; rwa [List.append_nil] at this
    · have := hw.call0 he.2; rwa [List.append_nil] at this
/-- entries that ask nothing of memory -/
theorem V.addents (T : List Ent) (hf : ∀ E ∈ T, E.foot = none) (hT : ∀ w, ∀ E ∈ T, E.holds w) (kk : V P fn R gl M w0 (L ++ T) S) : V P fn R gl M w0 L S := fun hg hd w hw => kk hg hd w (by
  have hfe : feet (L ++ T) = feet L := by
    rw [feet_append]
    have : feet T = [] := by
      unfold feet
      rw [List.filterMap_eq_nil_iff]
      exact hf
    rw [this, List.append_nil]
  exact ⟨hw.os, hw.tape, hw.output, hw.draws, hw.size, hw.old, fun E hE => by
    rcases List.mem_append.1 hE with h | h
    · exact hw.ents E h
    · exact hT w E h, by rw [hfe]; exact hw.nodup, fun b hb => hw.fresh b (by rw [← hfe]; exact hb)⟩)
/-- a block of cells, as a row -/
theorem V.torow (i b n size e : Nat) (cs : Array Value) (xs : List Value) (hE : L[i]? = some (.blk b (.cells cs e (0, 0)))) (hs : Nat.beq cs.size (n * size) = true) (hx : cs.toList = xs) (hn : n ≤ maxLen)
    (kk : V P fn R gl M w0 (L.set i (.row (.slice (some ⟨b, 0, none⟩) n n) e size n xs)) S) : V P fn R gl M w0 L S := fun hg hd w hw => kk hg hd w (by
  have hh : (Ent.blk b (.cells cs e (0, 0))).holds w := hw.ents _ (List.mem_of_getElem? hE)
  have hb : w.heap[b]? = some (.cells cs e (0, 0)) := hh
  have hsz := Nat.eq_of_beq_eq_true hs
  have hf : (Ent.row (.slice (some ⟨b, 0, none⟩) n n) e size n xs).holds w := by
    refine ⟨by rw [← hx, Array.length_toList]; exact hsz, .inr ⟨b, n, cs, rfl, Nat.zero_le _, hb, Nat.le_refl _, hn, hsz, ?_⟩⟩
    rw [hx, List.take_of_length_le (by rw [← hx, Array.length_toList, hsz]; exact Nat.le_refl _)]
  obtain ⟨L1, L3, e1, hs2⟩ := set_split hE
  rw [hs2]
  subst e1
  have hfe : feet (L1 ++ Ent.row (.slice (some ⟨b, 0, none⟩) n n) e size n xs :: L3) = feet (L1 ++ Ent.blk b (.cells cs e (0, 0)) :: L3) := by
    simp only [feet_append]
    congr 1
  exact ⟨hw.os, hw.tape, hw.output, hw.draws, hw.size, hw.old, fun E hE' => by
    rcases List.mem_append.1 hE' with h1 | h1
    · exact hw.ents E (List.mem_append_left _ h1)
    · rcases List.mem_cons.1 h1 with rfl | h1
      · exact hf
      · exact hw.ents E (List.mem_append_right _ (List.mem_cons_of_mem _ h1)), by rw [hfe]; exact hw.nodup, fun b hb => hw.fresh b (by rw [← hfe]; exact hb)⟩)
/-- all that is known is from now on only read -/
theorem V.freezeall (kk : ∀ w1, (∀ X w, Reach [] w1 X w → Reach M w0 (X ++ L) w) → V P fn R (gl ++ L) [] w1 [] S) : V P fn R gl M w0 L S :=
  V.freeze L.length fun w1 hR => by
    rw [List.take_length, List.drop_length] at *
    exact kk w1 hR
/-- the first n elements of a row -/
theorem row_prefix {w : World} {a : Option Addr} {cap e size n i : Nat} {xs : List Value} (h : (Ent.row (.slice a n cap) e size n xs).holds w) (hi : i ≤ n) : (Ent.row (.slice a i cap) e size i (xs.take (i * size))).holds w := by
  have h : w.ownsRow 0 e size (.slice a n cap) n xs := h
  have hm : i * size ≤ n * size := Nat.mul_le_mul_right size hi
  refine ⟨by rw [List.length_take, h.1]; omega, ?_⟩
  rcases h.2 with ⟨hv, hn⟩ | ⟨g, cap', cur, hv, h1, h2, h3, h4, h5, h6⟩
  · cases hv
    left
    exact ⟨by rw [show i = 0 by omega], by omega⟩
  · cases hv
    right
    refine ⟨g, cap, cur, rfl, h1, h2, by omega, h4, h5, ?_⟩
    rw [← h6, List.take_take, Nat.min_eq_left hm]

/-! ### a slice's part -/
def slcH (P : Program) (H : Hd) : Option (Option Addr × Nat × Nat × Option Value × Option Value × Nat) :=
  match H.2 with
  | none => none
  | some o => match o.op with
    | .slice t x lo hi mx => match mx with
      | some _ => none
      | none => match P.underlying t with
        | some (.slice e) => bif hasT P e then match evl H.1 x with
          | .slice a len cap => some (a, len, cap, lo.map (evl H.1), hi.map (evl H.1), sizeP P e)
          | _ => none
          else none
        | _ => none
    | _ => none
/-- a bound that is not given, or a number -/
def bndIs (v : Option Value) (d k : Nat) : Prop := (v = none ∧ k = d) ∨ ∃ kd, v = some (.int kd (k : Int))
theorem does_slc {H : Hd} {a : Option Addr} {len cap size l h : Nat} {lo hi : Option Value} {w : World} (hh : slcH P H = some (a, len, cap, lo, hi, size)) (hl : bndIs lo 0 l) (hb : bndIs hi len h) (h1 : l ≤ h) (h2 : h ≤ cap) :
    ∃ o, H.2 = some o ∧ (execOp (evl H.1) o).run P w = .ok (.value (.slice (if cap = l then a else a.map (·.add (l * size))) (h - l) (cap - l))) w := by
  obtain ⟨F, o⟩ := H
  unfold slcH at hh
  cases o with
  | none => cases hh
  | some o =>
    refine ⟨o, rfl, ?_⟩
    simp only at hh
    split at hh
    · rename_i t x lo' hi' mx hop
      cases mx with
      | some _ => cases hh
      | none =>
        simp only at hh
        split at hh
        · rename_i e hu
          cases ht : hasT P e with
          | false => rw [ht] at hh; cases hh
          | true =>
            rw [ht] at hh
            simp only [cond_true] at hh
            split at hh
            · rename_i a' len' cap' hx
              simp only [Option.some.injEq, Prod.mk.injEq] at hh
              obtain ⟨rfl, rfl, rfl, h3, h4, rfl⟩ := hh
              have hsb : ∀ (k : IntKind) (i : Nat) (y : Nat) (code : BoundsCode), i ≤ y → (Instr.sliceBound (.int k (i : Int)) y code).run P w = .ok i w := fun k i y code hy => by
                have : (0 : Int) ≤ (i : Int) ∧ (i : Int) ≤ (y : Int) := by omega
                simp [Instr.sliceBound, asIntOf, this]
              have hbs : (Instr.sliceBounds true len' cap' lo hi none).run P w = .ok (l, h, cap') w := by
                rcases hb with ⟨rfl, rfl⟩ | ⟨kh, rfl⟩
                · rcases hl with ⟨rfl, rfl⟩ | ⟨kl, rfl⟩
                  · simp [Instr.sliceBounds, Sem.run_bind, Result.andThen]
                  · simp [Instr.sliceBounds, Sem.run_bind, Result.andThen, hsb _ _ _ _ h1]
                · rcases hl with ⟨rfl, rfl⟩ | ⟨kl, rfl⟩
                  · simp [Instr.sliceBounds, Sem.run_bind, Result.andThen, hsb _ _ _ _ h2]
                  · simp [Instr.sliceBounds, Sem.run_bind, Result.andThen, hsb _ _ _ _ h1, hsb _ _ _ _ h2]
              simp only [execOp, hop, h3, h4, hx, Option.map_none]
              have hrun : (Instr.sliceAt t (.slice a' len' cap') lo hi none).run P w = .ok (.slice (if cap' = l then a' else a'.map (·.add (l * sizeP P e))) (h - l) (cap' - l)) w := by
                simp [Instr.sliceAt, Instr.slice, Sem.run_bind, run_underlying hu, hbs, run_sizeOf' ht, Result.andThen]
              simp only [Sem.run_bind, hrun, Result.andThen_ok, Sem.run_pure]
            · cases hh
        · cases hh
    · cases hh
theorem V.slc (l h : Nat) {a : Option Addr} {len cap size : Nat} {lo hi : Option Value} (v : Value) (hh : slcH P (headS fn.ntmps (A P fn S)) = some (a, len, cap, lo, hi, size)) (hl : bndIs lo 0 l) (hb : bndIs hi len h) (h1 : l ≤ h) (h2 : h ≤ cap)
    (hv : .slice (if cap = l then a else a.map (·.add (l * size))) (h - l) (cap - l) = v) (kk : V P fn R gl M w0 L (nx (A P fn S) v)) : V P fn R gl M w0 L S :=
  V.does fun hg hd w hw => by
    obtain ⟨o, ho, hr⟩ := does_slc (w := w) hh hl hb h1 h2
    subst hv
    exact ⟨o, ho, .inl ⟨_, w, hr, kk hg hd w hw⟩⟩
/-! ### an element of an array's value -/
def aixH (P : Program) (H : Hd) : Option (Array Value × Nat × Value) :=
  match H.2 with
  | none => none
  | some o => match o.op with
    | .index t x i => match P.underlying t with
      | some (.array len e) => match isRow P e with
        | some false => bif hasT P e then bif Nat.beq (sizeP P e) 1 then match evl H.1 x with
          | .agg cs => some (cs, len, evl H.1 i)
          | _ => none
          else none else none
        | _ => none
      | _ => none
    | _ => none
theorem does_aix {H : Hd} {cs : Array Value} {len j : Nat} {kd : IntKind} {v : Value} {w : World} (h : aixH P H = some (cs, len, .int kd (j : Int))) (hj : j < len) (hv : cs[j]? = some v) :
    ∃ o, H.2 = some o ∧ (execOp (evl H.1) o).run P w = .ok (.value v) w := by
  obtain ⟨F, o⟩ := H
  unfold aixH at h
  cases o with
  | none => cases h
  | some o =>
    refine ⟨o, rfl, ?_⟩
    simp only at h
    split at h
    · rename_i t x i hop
      split at h
      · rename_i len' e hu
        split at h
        · rename_i hrow
          cases ht : hasT P e with
          | false => rw [ht] at h; cases h
          | true =>
            rw [ht] at h
            simp only [cond_true] at h
            cases hs : Nat.beq (sizeP P e) 1 with
            | false => rw [hs] at h; cases h
            | true =>
              rw [hs] at h
              simp only [cond_true] at h
              split at h
              · rename_i cs' hx
                simp only [Option.some.injEq, Prod.mk.injEq] at h
                obtain ⟨rfl, rfl, hi⟩ := h
                have hsz : sizeP P e = 1 := Nat.eq_of_beq_eq_true hs
                have h1 : (0 : Int) ≤ (j : Int) ∧ (j : Int) < (len' : Int) := by omega
                have hrun : (Instr.index t (.agg cs') (.int kd (j : Int))).run P w = .ok v w := by
                  simp [Instr.index, asIntOf, Sem.run_bind, run_underlying hu, run_sizeOf' ht, Result.andThen, h1, hsz, part, run_isAgg' hrow, hv]
                  omega
                simp only [execOp, hop, hx, hi, Sem.run_bind, hrun, Result.andThen_ok, Sem.run_pure]
              · cases h
        · cases h
      · cases h
    · cases h
theorem V.aix (j : Nat) {cs : Array Value} {len : Nat} {kd : IntKind} (v : Value) (h : aixH P (headS fn.ntmps (A P fn S)) = some (cs, len, .int kd (j : Int))) (hj : j < len) (hv : cs[j]? = some v) (kk : V P fn R gl M w0 L (nx (A P fn S) v)) : V P fn R gl M w0 L S :=
  V.does fun hg hd w hw => by
    obtain ⟨o, ho, hr⟩ := does_aix (w := w) h hj hv
    exact ⟨o, ho, .inl ⟨_, w, hr, kk hg hd w hw⟩⟩
/-- many cells of a block read as one value -/
theorem loadVar_cells {t : TypeId} {a : Addr} {cs : List Value} {w : World} (hr : isRow P t = some true) (ht : hasT P t = true) (hs : sizeP P t = cs.length) (h : ∀ j u, cs[j]? = some u → w.cell? (a.add j) = some u) : (loadVar t a).run P w = .ok (.agg cs.toArray) w := by
  have h1 := run_loadCells_list (P := P) (w := w) a cs h
  simp [loadVar, Sem.run_bind, run_isAgg' hr, run_sizeOf' ht, hs, h1, Result.andThen]
/-! ### clear: what stands behind the first elements of a row is given up -/
def clrH (P : Program) (H : Hd) : Option (Nat × Nat × Value) :=
  match H.2 with
  | none => none
  | some o => match o.op with
    | .call c => match c.callee with
      | .builtin b => match b with
        | .clear => match c.args.toList with
          | [s] => match c.argTypes.toList with
            | [t] => match P.underlying t with
              | some (.slice e) => some (t, e, evl H.1 s)
              | _ => none
            | _ => none
          | _ => none
        | _ => none
      | _ => none
    | _ => none
theorem clr_run {H : Hd} {t e : Nat} {s : Value} (h : clrH P H = some (t, e, s)) : P.underlying t = some (.slice e) ∧ ∃ o, H.2 = some o ∧ ∀ (w w' : World) (v' : Value), (Builtin.clear_ #[t] o.type #[s]).run P w = .ok v' w' → (execOp (evl H.1) o).run P w = .ok (.value v') w' := by
  obtain ⟨F, o⟩ := H
  unfold clrH at h
  cases o with
  | none => cases h
  | some o =>
    simp only at h
    split at h
    · rename_i c hop
      split at h
      · rename_i b hcal
        split at h
        · split at h
          · rename_i s' hargs
            split at h
            · rename_i t1 hty
              split at h
              · rename_i e' hu
                simp only [Option.some.injEq, Prod.mk.injEq] at h
                obtain ⟨rfl, rfl, rfl⟩ := h
                refine ⟨hu, o, rfl, fun w w' v' hr => ?_⟩
                have ha : c.args = #[s'] := by apply Array.ext'; simpa using hargs
                have hty' : c.argTypes = #[t1] := by apply Array.ext'; simpa using hty
                simp only [execOp, hop, resolve, hcal, invoke, builtin, ha, hty', Sem.run_bind, Sem.run_pure, Result.andThen_ok, List.map_toArray, List.map_cons, List.map_nil, hr]
              · cases h
            · cases h
          · cases h
        · cases h
      · cases h
    · cases h
theorem does_clear {H : Hd} {t e size bytes n l cap : Nat} {a : Option Addr} {xs : List Value} {i : Nat} (h : clrH P H = some (t, e, .slice (if cap = l then a else a.map (·.add (l * size))) (n - l) (cap - l))) (ht : tyOk P e size bytes = true)
    (hz1 : ∀ z, pureVal P (zeroValue e) = some z → ∀ u ∈ z.cells.toList, u.oneCell' = true) (hz : (pureVal P (zeroValue e)).isSome = true) (hi : L[i]? = some (.row (.slice a n cap) e size n xs)) (hl : l ≤ n) {w : World} (hw : Reach M w0 L w) :
    Does P H w (fun u w' => u = .tuple #[] ∧ Reach M w0 (L.set i (.row (.slice a l cap) e size l (xs.take (l * size)))) w') := by
  obtain ⟨hu, o, ho, hrun⟩ := clr_run h
  obtain ⟨inf, z0, hinf, hz0, h1, h2, h3, h4⟩ := tyOk_spec ht
  have hh : (Ent.row (.slice a n cap) e size n xs).holds w := hw.ents _ (List.mem_of_getElem? hi)
  have hown : w.ownsRow 0 e size (.slice a n cap) n xs := hh
  have hml : l * size ≤ n * size := Nat.mul_le_mul_right size hl
  rcases hown.2 with ⟨hv, hn⟩ | ⟨g, cap', cur, hv, hbase, hb, hnc, hcm, hcs, htk⟩
  · cases hv
    obtain rfl : l = 0 := by omega
    refine ⟨o, ho, .inl ⟨.tuple #[], w, hrun w w _ ?_, rfl, ?_⟩⟩
    · simp [Builtin.clear_, Sem.run_bind, run_underlying hu, Result.andThen]
    · obtain ⟨L1, L3, e1, hs⟩ := set_split hi
      rw [hs]
      have hx : xs.take (0 * size) = xs := by
        have := hown.1
        simp at this
        simp [this]
      rw [hx, ← e1]
      exact hw
  · cases hv
    by_cases hln : l = n
    · subst hln
      refine ⟨o, ho, .inl ⟨.tuple #[], w, hrun w w _ ?_, rfl, ?_⟩⟩
      · rw [Nat.sub_self]
        by_cases hc : cap = l
        · simp [Builtin.clear_, Sem.run_bind, run_underlying hu, Result.andThen, hc]
        · simp [Builtin.clear_, Sem.run_bind, run_underlying hu, Result.andThen, hc]
      · obtain ⟨L1, L3, e1, hs⟩ := set_split hi
        rw [hs, List.take_of_length_le (by rw [hown.1]; omega), ← e1]
        exact hw
    · have hlc : ¬ cap = l := by omega
      cases hzv : pureVal P (zeroValue e) with
      | none => rw [hzv] at hz; cases hz
      | some z =>
        have hzr := pureVal_run hzv w
        have hzs : z.cells.size = size := by
          have h5 : zeroValue e = (do let i ← typeInfo e; match i.zero with | some v => pure v | none => stuck "no zero value") ∨ True := .inr trivial
          have h6 : (zeroValue e).run P w = .ok z0 w := by
            simp [zeroValue, typeInfo, Sem.run_bind, program, Sem.run, hinf, hz0, Result.andThen]
          rw [h6] at hzr
          injection hzr with h7
          rw [← h7]; exact h3
        have hone := hz1 z hzv
        have hzl : (Builtin.zeroCells z.cells (n - l)).toList.length = (n - l) * size := by simp [Builtin.zeroCells, hzs]
        have hz1' : ∀ u ∈ (Builtin.zeroCells z.cells (n - l)).toList, u.oneCell' = true := by
          intro u hu'
          simp only [Builtin.zeroCells, Array.toList_map, List.mem_map] at hu'
          obtain ⟨j, _, rfl⟩ := hu'
          have hlt : j % z.cells.size < z.cells.size := Nat.mod_lt _ (by omega)
          rw [getElem!_pos z.cells _ hlt]
          exact hone _ (by simp)
        have hle : l * size + 0 + (Builtin.zeroCells z.cells (n - l)).toList.length ≤ cur.size := by
          have h8 : l * size + (n - l) * size = n * size := by rw [← Nat.add_mul]; congr 1; omega
          have h9 : n * size ≤ cap * size := Nat.mul_le_mul_right size hnc
          rw [hzl, hcs]; omega
        have hst := run_storeCells_at P g (l * size) e (Builtin.zeroCells z.cells (n - l)).toList 0 cur w hb hle hz1'
        have hadd : ((⟨g, 0, none⟩ : Addr).add (l * size)) = ⟨g, l * size, none⟩ := by rw [add_mk, Nat.zero_add]
        refine ⟨o, ho, .inl ⟨.tuple #[], w.setRow g (cur.toList.take (l * size + 0) ++ (Builtin.zeroCells z.cells (n - l)).toList ++ cur.toList.drop (l * size + 0 + (Builtin.zeroCells z.cells (n - l)).toList.length)).toArray, hrun w _ _ ?_, rfl, ?_⟩⟩
        · obtain ⟨m, hm⟩ : ∃ m, n - l = m + 1 := ⟨n - l - 1, by omega⟩
          rw [hm] at hst ⊢
          simp only [if_neg hlc, Option.map_some, hadd]
          simp [Builtin.clear_, Sem.run_bind, run_underlying hu, Result.andThen, hzr, hst]
        · refine hw.setg hi (grown_reach (v := some g) ⟨rfl, rfl, rfl, by simp, fun q _ hq => setRow_other w g q _ (fun e => hq (by rw [e]))⟩ (Nat.le_refl _) ?_ (fun b hb => by cases hb; exact .inr rfl))
          refine ⟨by rw [List.length_take, hown.1]; omega, .inr ⟨g, cap, _, rfl, Nat.zero_le _, setRow_heap w g cur _ e _ hb, by omega, hcm, ?_, ?_⟩⟩
          · simp only [List.size_toArray, List.length_append, List.length_take, List.length_drop]
            rw [Array.length_toList (xs := cur)]
            omega
          · simp only []
            rw [Nat.add_zero, List.append_assoc, List.take_append_of_le_length (by rw [List.length_take, Array.length_toList]; omega), List.take_take, Nat.min_self, ← htk, List.take_take, Nat.min_eq_left hml]
/-- clear(s[l:]): the row of the first l elements stays -/
theorem V.clear (i l bytes : Nat) {t e size n cap : Nat} {a : Option Addr} {xs : List Value} (hi : L[i]? = some (.row (.slice a n cap) e size n xs)) (h : clrH P (headS fn.ntmps (A P fn S)) = some (t, e, .slice (if cap = l then a else a.map (·.add (l * size))) (n - l) (cap - l))) (ht : tyOk P e size bytes = true)
    (hz1 : ∀ z, pureVal P (zeroValue e) = some z → ∀ u ∈ z.cells.toList, u.oneCell' = true) (hz : (pureVal P (zeroValue e)).isSome = true) (hl : l ≤ n)
    (kk : V P fn R gl M w0 (L.set i (.row (.slice a l cap) e size l (xs.take (l * size)))) (nx (A P fn S) (.tuple #[]))) : V P fn R gl M w0 L S :=
  V.does fun hg hd _ hw => (does_clear h ht hz1 hz hi hl hw).mono fun _ w' hu => by obtain ⟨rfl, hr⟩ := hu; exact kk hg hd w' hr
attribute [irreducible] slcH aixH clrH
end Go.Ev
