/- Shown here: Plain law of StepMoves. Plain law of StepMoves, the end. Plain law of StepMoves: proved. Conditions: none beyond those in each theorem. -/
import Derived.Test.YtpnknnlnkmhgpaaGreatDoorK18
namespace Go.Ev
open Go Proofs Bil

def mvB (d : Vec) (b : Body) : Body := ⟨b.key, b.rad, b.ax, b.ay, b.inv, b.bo, b.px + d.x, b.py + d.y, b.vx, b.vy⟩
structure Fine (d : Vec) : Prop where
  x : -2147483648 ≤ d.x ∧ d.x ≤ 2147483647
  y : -2147483648 ≤ d.y ∧ d.y ≤ 2147483647
theorem outB_iff {d : Vec} (hd : Fine d) {b : Body} (hx : -1073741824 ≤ b.px ∧ b.px ≤ 1073741824) (hy : -1073741824 ≤ b.py ∧ b.py ≤ 1073741824) :
    outB d b = false ↔ (-1073741824 ≤ b.px + d.x ∧ b.px + d.x ≤ 1073741824) ∧ -1073741824 ≤ b.py + d.y ∧ b.py + d.y ≤ 1073741824 := by
  have := hd.x; have := hd.y
  unfold outB movX movY
  rw [w64_id (x := b.px) (by omega) (by omega), w64_id (x := d.x) (by omega) (by omega), w64_id (x := b.py) (by omega) (by omega), w64_id (x := d.y) (by omega) (by omega), w64_id (x := b.px + d.x) (by omega) (by omega), w64_id (x := b.py + d.y) (by omega) (by omega)]
  simp only [Bool.or_eq_false_iff, decide_eq_false_iff_not]
  omega
theorem moveTo_eq {d : Vec} (hd : Fine d) {b : Body} (hx : -1073741824 ≤ b.px ∧ b.px ≤ 1073741824) (hy : -1073741824 ≤ b.py ∧ b.py ≤ 1073741824) (ho : outB d b = false) : moveTo d b = mvB d b := by
  have h := (outB_iff hd hx hy).1 ho
  have := hd.x; have := hd.y
  unfold moveTo mvB movX movY
  rw [w64_id (x := b.px) (by omega) (by omega), w64_id (x := d.x) (by omega) (by omega), w64_id (x := b.py) (by omega) (by omega), w64_id (x := d.y) (by omega) (by omega), w64_id (x := b.px + d.x) (by omega) (by omega), w64_id (x := b.py + d.y) (by omega) (by omega),
    w32_id (x := b.px + d.x) (by omega) (by omega), w32_id (x := b.py + d.y) (by omega) (by omega)]
/-- valid, also when moved -/
structure Both2 (d : Vec) (b : Body) : Prop where
  v : Valid b
  m : Valid (mvB d b)
theorem both2 {d : Vec} (hd : Fine d) {b : Body} (h : Valid b) (ho : outB d b = false) : Both2 d b := by
  have h1 := (outB_iff hd h.px h.py).1 ho
  exact ⟨h, ⟨h.rad, h.ax, h.ay, h.inv, h.bo, h1.1, h1.2, h.vx, h.vy⟩⟩
theorem seg_of {d : Vec} {b : Body} (h : Both2 d b) : Seg d (first b) (second b) ∧ first (mvB d b) = mv d (first b) ∧ second (mvB d b) = mv d (second b) := by
  have a1 := h.v.px; have a2 := h.v.py; have a3 := h.v.ax; have a4 := h.v.ay
  have m1 := h.m.px; have m2 := h.m.py
  unfold mvB at m1 m2
  simp only at m1 m2
  have e1 : first b = ⟨b.px - b.ax, b.py - b.ay⟩ := by unfold first; rw [w32_id (by omega) (by omega), w32_id (by omega) (by omega)]
  have e2 : second b = ⟨b.px + b.ax, b.py + b.ay⟩ := by unfold second; rw [w32_id (by omega) (by omega), w32_id (by omega) (by omega)]
  have e3 : first (mvB d b) = ⟨b.px + d.x - b.ax, b.py + d.y - b.ay⟩ := by unfold first mvB; simp only; rw [w32_id (by omega) (by omega), w32_id (by omega) (by omega)]
  have e4 : second (mvB d b) = ⟨b.px + d.x + b.ax, b.py + d.y + b.ay⟩ := by unfold second mvB; simp only; rw [w32_id (by omega) (by omega), w32_id (by omega) (by omega)]
  rw [e1, e2, e3, e4]
  have inb : ∀ x y : Int, (-1077936128 ≤ x ∧ x ≤ 1077936128) → (-1077936128 ≤ y ∧ y ≤ 1077936128) → InB ⟨x, y⟩ := fun x y h1 h2 => ⟨h1, h2⟩
  have q1 : mv d ⟨b.px - b.ax, b.py - b.ay⟩ = ⟨b.px + d.x - b.ax, b.py + d.y - b.ay⟩ := by
    show (⟨b.px - b.ax + d.x, b.py - b.ay + d.y⟩ : Vec) = _
    congr 1 <;> omega
  have q2 : mv d ⟨b.px + b.ax, b.py + b.ay⟩ = ⟨b.px + d.x + b.ax, b.py + d.y + b.ay⟩ := by
    show (⟨b.px + b.ax + d.x, b.py + b.ay + d.y⟩ : Vec) = _
    congr 1 <;> omega
  refine ⟨⟨inb _ _ (by omega) (by omega), inb _ _ (by omega) (by omega), by rw [q1]; exact inb _ _ (by omega) (by omega), by rw [q2]; exact inb _ _ (by omega) (by omega), ?_, ?_⟩, q1.symm, q2.symm⟩
  · show -8388608 ≤ b.px + b.ax - (b.px - b.ax) ∧ b.px + b.ax - (b.px - b.ax) ≤ 8388608
    omega
  · show -8388608 ≤ b.py + b.ay - (b.py - b.ay) ∧ b.py + b.ay - (b.py - b.ay) ≤ 8388608
    omega
theorem cho_bodies {d : Vec} {a b : Body} (ha : Both2 d a) (hb : Both2 d b) : mdx (mvB d a) (mvB d b) = mdx a b ∧ mdy (mvB d a) (mvB d b) = mdy a b := by
  obtain ⟨s1, f1, g1⟩ := seg_of ha
  obtain ⟨s2, f2, g2⟩ := seg_of hb
  obtain ⟨c1, c2⟩ := cho_mv s1 s2
  unfold mdx mdy cho
  rw [f1, g1, f2, g2, c1]
  exact ⟨dfx_mv c2.a.i c2.b.i c2.a.m c2.b.m, dfy_mv c2.a.i c2.b.i c2.a.m c2.b.m⟩
theorem contactLH_mv {d : Vec} {a b : Body} (ha : Both2 d a) (hb : Both2 d b) : contactLH (mvB d a) (mvB d b) = contactLH a b := by
  obtain ⟨h1, h2⟩ := cho_bodies ha hb
  unfold contactLH touch ctc
  rw [h1, h2]
  rfl
theorem contact_mv {d : Vec} {a b : Body} (ha : Both2 d a) (hb : Both2 d b) : contact (mvB d a) (mvB d b) = contact a b := by
  unfold contact low high
  have e1 : (mvB d a).key = a.key := rfl
  have e2 : (mvB d b).key = b.key := rfl
  rw [e1, e2]
  by_cases h : a.key > b.key
  · rw [if_pos h, if_pos h, if_pos h, if_pos h]; exact contactLH_mv hb ha
  · rw [if_neg h, if_neg h, if_neg h, if_neg h]; exact contactLH_mv ha hb
theorem overlap_mv {d : Vec} {a b : Body} (ha : Both2 d a) (hb : Both2 d b) : overlap (boxOf (mvB d a)) (boxOf (mvB d b)) = overlap (boxOf a) (boxOf b) := by
  have e1 : extX (mvB d a) = extX a := rfl
  have e2 : extX (mvB d b) = extX b := rfl
  have e3 : extY (mvB d a) = extY a := rfl
  have e4 : extY (mvB d b) = extY b := rfl
  have hi : overlap (boxOf (mvB d a)) (boxOf (mvB d b)) = true ↔ overlap (boxOf a) (boxOf b) = true := by
    rw [overlap_iff, overlap_iff, boxOf_valid ha.v, boxOf_valid hb.v, boxOf_valid ha.m, boxOf_valid hb.m, e1, e2, e3, e4]
    unfold mvB mx mn
    simp only
    split <;> split <;> split <;> split <;> split <;> split <;> split <;> split <;> omega
  cases h : overlap (boxOf a) (boxOf b) with
  | true => exact hi.2 h
  | false =>
    cases h2 : overlap (boxOf (mvB d a)) (boxOf (mvB d b)) with
    | false => rfl
    | true => rw [hi.1 h2] at h; cases h
end Go.Ev

namespace Go.Ev
open Go Proofs Bil

theorem keys_mvB (v : List Body) (d : Vec) : keys (v.map (mvB d)) = keys v := by unfold keys; rw [List.map_map]; rfl
theorem findP_mv {d : Vec} {v : List Body} (hs : Srt v) (h : ∀ b ∈ v, Both2 d b) : findP (v.map (mvB d)) = findP v := by
  refine findP_ext fun p => ?_
  rw [mem_findP (Srt_keys (keys_mvB v d) hs) (fun b hb => by obtain ⟨c, hc, rfl⟩ := List.mem_map.1 hb; exact (h c hc).m), mem_findP hs (fun b hb => (h b hb).v)]
  constructor
  · rintro ⟨a, b, ha, hb, hlt, rfl, ho⟩
    obtain ⟨x, hx, rfl⟩ := List.mem_map.1 ha
    obtain ⟨y, hy, rfl⟩ := List.mem_map.1 hb
    exact ⟨x, y, hx, hy, hlt, rfl, by rw [← overlap_mv (h x hx) (h y hy)]; exact ho⟩
  · rintro ⟨x, y, hx, hy, hlt, rfl, ho⟩
    exact ⟨mvB d x, mvB d y, List.mem_map.2 ⟨x, hx, rfl⟩, List.mem_map.2 ⟨y, hy, rfl⟩, hlt, rfl, by rw [overlap_mv (h x hx) (h y hy)]; exact ho⟩
theorem byKey_mv (d : Vec) (k : Int) : ∀ v : List Body, byKey (v.map (mvB d)) k = (byKey v k).map (mvB d)
  | [] => rfl
  | b :: v => by
    have ih := byKey_mv d k v
    unfold byKey at *
    rw [List.map_cons, List.find?_cons, List.find?_cons]
    have e : (mvB d b).key = b.key := rfl
    rw [e]
    cases b.key == k with
    | true => rfl
    | false => exact ih
theorem contacts_mv {d : Vec} {v : List Body} (hs : Srt v) (h : ∀ b ∈ v, Both2 d b) : contacts (v.map (mvB d)) = contacts v := by
  unfold contacts
  rw [findP_mv hs h]
  congr 1
  funext p
  unfold ctcP
  rw [byKey_mv, byKey_mv]
  cases ha : byKey v p.lo with
  | none => rfl
  | some a =>
    cases hb : byKey v p.hi with
    | none => rfl
    | some b =>
      show (if (contact (mvB d a) (mvB d b)).2 = true then some (contact (mvB d a) (mvB d b)).1 else none) = _
      rw [contact_mv (h a (byKey_some ha).1) (h b (byKey_some hb).1)]
theorem mapI_mv (d : Vec) {f : Nat → Body → Body} (hf : ∀ i b, f i (mvB d b) = mvB d (f i b)) : ∀ (i : Nat) (v : List Body), mapI f i (v.map (mvB d)) = (mapI f i v).map (mvB d)
  | _, [] => rfl
  | i, b :: v => by
    rw [List.map_cons, mapI, mapI, List.map_cons, hf, mapI_mv d hf (i + 1) v]
theorem grav_mv (d : Vec) (v : List Body) : gravB (v.map (mvB d)) = (gravB v).map (mvB d) := by
  refine mapI_mv d (f := fun _ b => fallB b) (fun _ b => ?_) 0 v
  have e : (mvB d b).inv = b.inv := rfl
  unfold fallB
  rw [e]
  split <;> rfl
theorem bodyAt_mv (d : Vec) (v : List Body) {i : Nat} (h : i < v.length) : bodyAt (v.map (mvB d)) i = mvB d (bodyAt v i) := by
  unfold bodyAt
  rw [List.getD_eq_getElem?_getD, List.getElem?_map, List.getElem?_eq_getElem h, List.getD_eq_getElem?_getD, List.getElem?_eq_getElem h]
  rfl
theorem ia_mv (d : Vec) (v : List Body) (c : Contact) : ia (v.map (mvB d)) c = ia v c := lb_keys (keys_mvB v d) _
theorem ib_mv (d : Vec) (v : List Body) (c : Contact) : ib (v.map (mvB d)) c = ib v c := lb_keys (keys_mvB v d) _
theorem add_mv {d : Vec} {v : List Body} {c : Contact} (h : ia v c < v.length ∧ ib v c < v.length) (n : Int) (x : List Int) : addX (v.map (mvB d)) c n x = addX v c n x := by
  have e : jmp (v.map (mvB d)) c = jmp v c := by unfold jmp; rw [ia_mv, ib_mv, bodyAt_mv d v h.1, bodyAt_mv d v h.2]; rfl
  unfold addX setB setA
  rw [e, ia_mv, ib_mv, bodyAt_mv d v h.1, bodyAt_mv d v h.2]
  rfl
theorem adds_mv {d : Vec} {v : List Body} (f : Contact → Int) : ∀ (l : List Contact) (x : List Int), Both v l → l.foldl (fun x c => addX (v.map (mvB d)) c (f c) x) x = l.foldl (fun x c => addX v c (f c) x) x
  | [], _, _ => rfl
  | c :: l, x, h => by
    rw [List.foldl_cons, List.foldl_cons, add_mv (h c (by simp)), adds_mv f l _ (fun c' hc => h c' (by simp [hc]))]
theorem round_mv {d : Vec} {v : List Body} {l : List Contact} (h : Both v l) : roundV (v.map (mvB d)) l = (roundV v l).map (mvB d) := by
  have e1 : sumX (v.map (mvB d)) l = sumX v l := by unfold sumX addsX; rw [adds_mv _ _ _ h, List.length_map]
  have e2 : sumY (v.map (mvB d)) l = sumY v l := by unfold sumY addsY; rw [adds_mv _ _ _ h, List.length_map]
  unfold roundV
  rw [e1, e2]
  exact mapI_mv d (f := rndB (sumX v l) (sumY v l)) (fun _ _ => rfl) 0 v
theorem iter_mv {d : Vec} {v : List Body} {l : List Contact} (h : Both v l) : ∀ k, iterV (v.map (mvB d)) l k = (iterV v l k).map (mvB d)
  | 0 => rfl
  | k + 1 => by rw [iterV, iterV, iter_mv h k, round_mv (Both_keys (keys_iter v l k) h)]
theorem shiftC_mv {d : Vec} {v : List Body} {c : Contact} (h : ia v c < v.length ∧ ib v c < v.length) (ss : List Shift) : shiftC (v.map (mvB d)) c ss = shiftC v c ss := by
  unfold shiftC
  rw [ia_mv, ib_mv, bodyAt_mv d v h.1, bodyAt_mv d v h.2]
  rfl
theorem shifts_mv {d : Vec} {v : List Body} {l : List Contact} (h : Both v l) : shifts (v.map (mvB d)) l = shifts v l := by
  have : ∀ (l : List Contact) (ss : List Shift), Both v l → shiftsFrom (v.map (mvB d)) l ss = shiftsFrom v l ss := by
    intro l
    induction l with
    | nil => intro ss _; rfl
    | cons c l ih =>
      intro ss h
      unfold shiftsFrom at *
      rw [List.foldl_cons, List.foldl_cons, shiftC_mv (h c (by simp)), ih _ (fun c' hc => h c' (by simp [hc]))]
  unfold shifts
  rw [this l _ h, List.length_map]
end Go.Ev

namespace Go.Ev
open Go Proofs Bil

theorem w64_mod (x : Int) : ∃ k : Int, w64 x = x + k * 18446744073709551616 := by
  rw [w64_eq]
  split
  · exact ⟨-(x / 18446744073709551616) - 1, by omega⟩
  · exact ⟨-(x / 18446744073709551616), by omega⟩
theorem limit_free {n l : Int} (h0 : 0 ≤ l) (h1 : l < 2147483648) (h : (limit n l).2 = false) : (limit n l).1 = n ∧ -l ≤ n ∧ n ≤ l := by
  have hb := limit_in n l h0 h1
  unfold limit at h hb ⊢
  simp only [Bool.not_eq_false', beq_iff_eq] at h
  simp only at hb ⊢
  rw [h] at hb
  exact ⟨h, hb⟩
theorem one_move {n p q f dd : Int} (hd : -2147483648 ≤ dd ∧ dd ≤ 2147483647) (h1 : (limit (w64 (w64 (w64 p + q) + f)) 1073741824).2 = false) (h2 : (limit (w64 (w64 (w64 (p + dd) + q) + f)) 1073741824).2 = false) (hn : n = (limit (w64 (w64 (w64 p + q) + f)) 1073741824).1) :
    (limit (w64 (w64 (w64 (p + dd) + q) + f)) 1073741824).1 = n + dd ∧ (-1073741824 ≤ n ∧ n ≤ 1073741824) ∧ -1073741824 ≤ n + dd ∧ n + dd ≤ 1073741824 := by
  obtain ⟨a1, a2, a3⟩ := limit_free (by decide) (by decide) h1
  obtain ⟨b1, b2, b3⟩ := limit_free (by decide) (by decide) h2
  rw [a1] at hn
  rw [b1]
  obtain ⟨k1, e1⟩ := w64_mod p
  obtain ⟨k2, e2⟩ := w64_mod (w64 p + q)
  obtain ⟨k3, e3⟩ := w64_mod (w64 (w64 p + q) + f)
  obtain ⟨k4, e4⟩ := w64_mod (p + dd)
  obtain ⟨k5, e5⟩ := w64_mod (w64 (p + dd) + q)
  obtain ⟨k6, e6⟩ := w64_mod (w64 (w64 (p + dd) + q) + f)
  omega
theorem move_mv {d : Vec} (hd : Fine d) {s : Shift} {b : Body} (h1 : moveH s b = false) (h2 : moveH s (mvB d b) = false) : moveB s (mvB d b) = mvB d (moveB s b) ∧ outB d (moveB s b) = false ∧ (-1073741824 ≤ (moveB s b).px ∧ (moveB s b).px ≤ 1073741824) ∧ -1073741824 ≤ (moveB s b).py ∧ (moveB s b).py ≤ 1073741824 := by
  unfold moveH at h1 h2
  rw [Bool.or_eq_false_iff] at h1 h2
  unfold moveX moveY at h1 h2
  obtain ⟨x1, x2, x3⟩ := one_move (q := s.x) (f := w64 (Int.fdiv b.vx 64)) hd.x h1.1 h2.1 rfl
  obtain ⟨y1, y2, y3⟩ := one_move (q := s.y) (f := w64 (Int.fdiv b.vy 64)) hd.y h1.2 h2.2 rfl
  have px : (moveB s b).px = (moveX s b).1 := by unfold moveB; exact w32_id (by unfold moveX; omega) (by unfold moveX; omega)
  have py : (moveB s b).py = (moveY s b).1 := by unfold moveB; exact w32_id (by unfold moveY; omega) (by unfold moveY; omega)
  have qx : (moveB s (mvB d b)).px = (moveX s b).1 + d.x := by
    show w32 (moveX s (mvB d b)).1 = _
    have e : (moveX s (mvB d b)).1 = (moveX s b).1 + d.x := x1
    rw [e]
    exact w32_id (by unfold moveX; omega) (by unfold moveX; omega)
  have qy : (moveB s (mvB d b)).py = (moveY s b).1 + d.y := by
    show w32 (moveY s (mvB d b)).1 = _
    have e : (moveY s (mvB d b)).1 = (moveY s b).1 + d.y := y1
    rw [e]
    exact w32_id (by unfold moveY; omega) (by unfold moveY; omega)
  have rx : -1073741824 ≤ (moveB s b).px ∧ (moveB s b).px ≤ 1073741824 := by rw [px]; exact x2
  have ry : -1073741824 ≤ (moveB s b).py ∧ (moveB s b).py ≤ 1073741824 := by rw [py]; exact y2
  refine ⟨?_, (outB_iff hd rx ry).2 ⟨by rw [px]; exact x3, by rw [py]; exact y3⟩, rx, ry⟩
  have e : moveB s (mvB d b) = ⟨b.key, b.rad, b.ax, b.ay, b.inv, b.bo, (moveB s (mvB d b)).px, (moveB s (mvB d b)).py, b.vx, b.vy⟩ := rfl
  have e2 : mvB d (moveB s b) = ⟨b.key, b.rad, b.ax, b.ay, b.inv, b.bo, (moveB s b).px + d.x, (moveB s b).py + d.y, b.vx, b.vy⟩ := rfl
  rw [e, e2, qx, qy, px, py]
theorem mapI_mv' (d : Vec) {f : Nat → Body → Body} : ∀ (i : Nat) (v : List Body), (∀ j b, v[j]? = some b → f (i + j) (mvB d b) = mvB d (f (i + j) b)) → mapI f i (v.map (mvB d)) = (mapI f i v).map (mvB d)
  | _, [], _ => rfl
  | i, b :: v, h => by
    rw [List.map_cons, mapI, mapI, List.map_cons, show f i (mvB d b) = mvB d (f i b) from h 0 b rfl, mapI_mv' d (i + 1) v (fun j c hc => by
      have := h (j + 1) c (by simpa using hc)
      rw [show i + 1 + j = i + (j + 1) by omega]; exact this)]
theorem anyI_false {h : Nat → Body → Bool} : ∀ {i : Nat} {v : List Body}, anyI h i v = false → ∀ j b, v[j]? = some b → h (i + j) b = false
  | _, [], _, j, b, hb => by simp at hb
  | i, c :: v, ha, 0, b, hb => by
    simp at hb; subst hb
    rw [anyI, Bool.or_eq_false_iff] at ha
    exact ha.1
  | i, c :: v, ha, j + 1, b, hb => by
    rw [anyI, Bool.or_eq_false_iff] at ha
    have := anyI_false ha.2 j b (by simpa using hb)
    rwa [show i + 1 + j = i + (j + 1) by omega] at this
theorem mem_mapI {f : Nat → Body → Body} {i : Nat} {v : List Body} {b : Body} (h : b ∈ mapI f i v) : ∃ j c, v[j]? = some c ∧ b = f (i + j) c := by
  obtain ⟨j, hj⟩ := List.mem_iff_getElem?.1 h
  rw [mapI_get] at hj
  obtain ⟨c, hc, rfl⟩ := Option.map_eq_some_iff.1 hj
  exact ⟨j, c, hc, rfl⟩
theorem movesLaw : MovesLaw := by
  intro v d hv hx hy ho h1 h2
  have hd : Fine d := ⟨hx, hy⟩
  have hval : ∀ b ∈ v, Valid b := fun b hb => (chk_zero b).1 (hv.ok b hb)
  have hout : ∀ b ∈ v, outB d b = false := fun b hb => by
    cases h : outB d b with
    | false => rfl
    | true => rw [List.any_eq_true.2 ⟨b, hb, h⟩] at ho; cases ho
  have hb2 : ∀ b ∈ v, Both2 d b := fun b hb => both2 hd (hval b hb) (hout b hb)
  have hw : v.map (moveTo d) = v.map (mvB d) := List.map_congr_left fun b hb => moveTo_eq hd (hval b hb).px (hval b hb).py (hout b hb)
  rw [hw] at h2 ⊢
  have hl := contacts_mv hv.srt hb2
  have hbt := both_contacts hv.srt
  have hbg : Both (gravB v) (contacts v) := Both_keys (keys_grav v) hbt
  have hi : iterV (gravB (v.map (mvB d))) (contacts v) 4 = (iterV (gravB v) (contacts v) 4).map (mvB d) := by rw [grav_mv, iter_mv hbg]
  have hsh := shifts_mv (d := d) hbt
  unfold stepH at h1 h2
  rw [hl, hi, hsh] at h2
  rw [Bool.or_eq_false_iff] at h1 h2
  have m1 := h1.2
  have m2 := h2.2
  have key : ∀ j b, (iterV (gravB v) (contacts v) 4)[j]? = some b → moveB (shiftAt (shifts v (contacts v)) j) (mvB d b) = mvB d (moveB (shiftAt (shifts v (contacts v)) j) b) ∧ outB d (moveB (shiftAt (shifts v (contacts v)) j) b) = false ∧
      (-1073741824 ≤ (moveB (shiftAt (shifts v (contacts v)) j) b).px ∧ (moveB (shiftAt (shifts v (contacts v)) j) b).px ≤ 1073741824) ∧ -1073741824 ≤ (moveB (shiftAt (shifts v (contacts v)) j) b).py ∧ (moveB (shiftAt (shifts v (contacts v)) j) b).py ≤ 1073741824 := fun j b hb => by
    have a1 := anyI_false m1 j b hb
    have a2 := anyI_false m2 j (mvB d b) (by rw [List.getElem?_map, hb]; rfl)
    rw [Nat.zero_add] at a1 a2
    exact move_mv hd a1 a2
  have hall : ∀ b ∈ stepV v, outB d b = false ∧ (-1073741824 ≤ b.px ∧ b.px ≤ 1073741824) ∧ -1073741824 ≤ b.py ∧ b.py ≤ 1073741824 := fun b hb => by
    obtain ⟨j, c, hc, rfl⟩ := mem_mapI hb
    rw [Nat.zero_add]
    exact (key j c hc).2
  refine ⟨?_, ?_, by rw [hl]⟩
  · cases h : (stepV v).any (outB d) with
    | false => rfl
    | true =>
      obtain ⟨b, hb, hob⟩ := List.any_eq_true.1 h
      rw [(hall b hb).1] at hob
      cases hob
  · have e1 : (stepV v).map (moveTo d) = (stepV v).map (mvB d) := List.map_congr_left fun b hb => moveTo_eq hd (hall b hb).2.1 (hall b hb).2.2 (hall b hb).1
    rw [e1]
    unfold stepV
    rw [hl, hi, hsh]
    exact mapI_mv' d 0 _ (fun j b hb => by rw [Nat.zero_add]; exact (key j b hb).1)
end Go.Ev
