/- Shown here: Walks: grid.Insert. Walks: grid.Candidates. Walks: the closures of pairs.counting; slices.IndexFunc and DeleteFunc at pairs. Walks: slices.DeleteFunc at pairs. Walks: pairs.Find. Walks: the package contacts. Walks: contacts.each and contacts.All. Walks: the package step. Walks: step.Step, Free, slices.Clone and Steps. Walks: step.Steps. Walks: the references of the layers 5 to 8 and 11, first part. Walks: the reference of layer 6 (Find, Put, Add, All). Walks: the references Sort, View, Same, Abs, Of, Empty, Overlap. Walks: the references Abs, Of, Empty, Overlap, Lonely, Moved. Walks: the reference Moved. Walks: awake of law 20. Plain laws for StepSplits: several steps are made one after the other; a free body remains valid. From what the walks show to the statements: memory as the form reads it, and back. From what the walks show to the statements: what a law that returns true and writes nothing old gives. Plain laws of pairs.Find: it finds exactly the pairs whose boxes overlap, whatever the grid. Walk: StepMoves, given its plain law. Plain laws for StepMoves: a contact depends on differences of positions only. Conditions: none beyond those in each theorem. -/
import Derived.Test.YtpnknnlnkmhgpaaGreatDoorRows
import Derived.WalkKit
import Derived.ProofKit
import Derived.OpenShut
import Derived.WideKeyArgs
import Derived.Deep.DeepHandedRow
import Derived.Lib.LaidTab
import Derived.Deep.Slices
import Derived.Test.YtpnknnlnkmhgpaaGreatDoorK17
namespace Go.Ev
open Go Proofs Bil

abbrev u32s (l : List Int) : List Value := l.map (Value.int .u32)
def rowU (b : Buck) : Ent := .row b.v 36 1 b.l.length (u32s b.l)
def gridE (bg : Nat) (g : List Buck) (cnt : Int) : Ent := .row (.slice (some ⟨bg, 0, none⟩) 1025 1025) 104 1 1025 (gcells g cnt)
def gridRows (g : List Buck) : List Ent := g.map rowU
theorem gcells_cnt {g : List Buck} (h : g.length = 1024) (cnt : Int) : ((gcells g cnt).drop (1024 * 1)).take 1 = [.int .i64 cnt] := by
  rw [gcells, List.drop_append_of_le_length (by simp [h]), List.drop_of_length_le (by simp [h])]; rfl
theorem gcells_at {g : List Buck} {n : Nat} {b : Buck} (h : g[n]? = some b) (cnt : Int) : ((gcells g cnt).drop (n * 1)).take 1 = [b.v] := by
  have hn : n < g.length := (List.getElem?_eq_some_iff.1 h).1
  rw [Nat.mul_one, gcells, List.drop_append_of_le_length (by simp; omega), List.drop_eq_getElem_cons (by simpa using hn)]
  have : g[n] = b := by rw [List.getElem?_eq_getElem hn] at h; exact Option.some.inj h
  simp [this]
theorem rowOut_cnt {g : List Buck} (h : g.length = 1024) (c c' : Int) : rowOut (gcells g c) (1024 * 1) [.int .i64 c'] = gcells g c' := by
  unfold rowOut splL gcells
  rw [List.take_append_of_le_length (by simp [h]), List.take_of_length_le (by simp [h])]
  have : (List.map Buck.v g ++ [Value.int IntKind.i64 c]).drop (1024 * 1 + [Value.int IntKind.i64 c'].length) = [] := List.drop_of_length_le (by simp [h])
  rw [this]
  simp
theorem rowOut_at {g : List Buck} {n : Nat} (h : n < g.length) (c : Int) (b : Buck) : rowOut (gcells g c) (n * 1) [b.v] = gcells (g.set n b) c := by
  unfold rowOut splL gcells
  rw [Nat.mul_one, List.map_set, List.set_eq_take_append_cons_drop, if_pos (by simpa using h), List.take_append_of_le_length (by simp; omega), List.drop_append_of_le_length (by simp; omega)]
  simp
/-- the map of the buckets that are done -/
def doneM (cs : List Vec) : List (Int × Value) := cs.foldl (fun m c => mput (bucket c : Int) (.bool true) m) []
theorem doneM_snoc (cs : List Vec) (c : Vec) : doneM (cs ++ [c]) = mput (bucket c : Int) (.bool true) (doneM cs) := by simp [doneM]
theorem mget_mput {K : Type} [DecidableEq K] (k x : K) (v : Value) : ∀ m : List (K × Value), mget k (mput x v m) = if k = x then some v else mget k m
  | [] => by simp [mput, mget]
  | (y, u) :: m => by
    simp only [mput]
    by_cases hy : x = y
    · subst hy
      simp only [if_true, mget]
      by_cases hk : k = x <;> simp [hk]
    · simp only [if_neg hy, mget, mget_mput k x v m]
      by_cases hk : k = y
      · subst hk
        have : ¬ k = x := fun e => hy e.symm
        simp [this]
      · simp [hk]
theorem mget_done (n : Nat) (cs : List Vec) : mget (n : Int) (doneM cs) = if n ∈ cs.map bucket then some (.bool true) else none := by
  suffices h : ∀ m : List (Int × Value), mget (n : Int) (cs.foldl (fun m c => mput (bucket c : Int) (.bool true) m) m) = if n ∈ cs.map bucket then some (.bool true) else mget (n : Int) m by
    rw [doneM, h]; rfl
  induction cs with
  | nil => intro m; simp
  | cons c cs ih =>
    intro m
    rw [List.foldl_cons, ih, mget_mput]
    by_cases h1 : n ∈ cs.map bucket
    · simp [h1]
    · by_cases h2 : n = bucket c
      · subst h2; simp
      · have : ¬ (n : Int) = (bucket c : Int) := by omega
        simp [h1, h2, this]
theorem look_done (n : Nat) (cs : List Vec) : lookV (.bool false) (mget (n : Int) (doneM cs)) false = .bool (decide (n ∈ cs.map bucket)) := by
  rw [mget_done]
  by_cases h : n ∈ cs.map bucket
  · rw [if_pos h, decide_eq_true h]; rfl
  · rw [if_neg h, decide_eq_false h]; rfl
theorem mput_same {K : Type} [DecidableEq K] (k : K) (v : Value) : ∀ m : List (K × Value), mget k m = some v → mput k v m = m
  | [], h => by cases h
  | (y, u) :: m, h => by
    simp only [mget] at h
    simp only [mput]
    by_cases hy : k = y
    · subst hy
      simp only [if_true, Option.some.injEq] at h ⊢
      rw [h]
    · rw [if_neg hy] at h ⊢
      rw [mput_same k v m h]
theorem gridRows_perm {g : List Buck} {n : Nat} {b : Buck} (h : g[n]? = some b) : (gridRows g).Perm (rowU b :: (g.eraseIdx n).map rowU) := (perm_eraseIdx g n b h).map rowU
theorem gridRows_set {g : List Buck} {n : Nat} {b : Buck} (h : n < g.length) : (gridRows (g.set n b)).Perm (rowU b :: (g.eraseIdx n).map rowU) := (perm_set g n b h).map rowU
theorem keyI : KeyOk Tryz.prog 3 (Value.int .i64) := keyInt (kd2 := .i64) (by kernel_rfl)
theorem insert_f (bg : Nat) (g : List Buck) (cnt key : Int) (a : Box) (ha : BoxOk a) (hg : g.length = 1024) (hlen : ∀ b ∈ g, b.l.length ≤ 65536) :
    Spec Tryz.prog GLS 51 #[ptr bg, .int .u32 key, a.v] (fun _ => True) (gridE bg g cnt :: gridRows g) (fun _ : List Buck => .tuple #[])
      (fun g' => g'.length = 1024 ∧ g'.map (·.l) = insG key (cellsOf a) (g.map (·.l))) (fun g' => gridE bg g' (w64 (cnt + 1)) :: gridRows g') := by
  refine Spec.enter Tryz.func51 (by kernel_rfl) (by kernel_rfl) fun w _ _ => ?_
  refine V.aside (L := [gridE bg g cnt]) (T := gridRows g) fun w1 un => ?_
  refine V.new (fun _ => by kernel_rfl) fun b5 => ?_
  refine V.val (.bool false) (by kernel_rfl) ?_
  refine V.ifb false false (by kernel_rfl) rfl ?_
  refine V.focus 0 1024 [.int .i64 cnt] (.slice (some ⟨bg, 0, none⟩) 1025 1025) 104 1 1025 (gcells g cnt) (by kernel_rfl) (by decide) (gcells_cnt hg cnt) (by kernel_rfl) ?_
  refine V.loads [500] (by kernel_rfl) ?_
  refine V.rst 0 0 (.slice (some ⟨bg, 0, none⟩) 1025 1025) 104 1 1025 (gcells g cnt) (1024 * 1) [.int .i64 cnt] [.int .i64 (w64 (cnt + 1))] (by kernel_rfl) (by kernel_rfl) (by kernel_rfl) (by kernel_rfl) ?_
  refine V.unfocus 0 (.slice (some ⟨bg, 0, none⟩) 1025 1025) 104 1 1025 (rowOut (gcells g cnt) (1024 * 1) [.int .i64 (w64 (cnt + 1))]) (1024 * 1) [.int .i64 (w64 (cnt + 1))] (by kernel_rfl) ?_
  refine V.new (fun _ => by kernel_rfl) fun b6 => ?_
  refine V.mapnew (Value.int .i64) 2 b6 (by kernel_rfl) ?_
  refine V.loads [1] (by kernel_rfl) ?_
  refine V.call0 [1000, 1001] (cellAll_f a ha) (by kernel_rfl) (by kernel_rfl) (by kernel_rfl) (fun _ _ => trivial) fun y _ => ?_
  obtain ⟨ac, cc⟩ := y
  refine V.keep [0, 2, 3] (by kernel_rfl) ?_
  refine V.conv (L' := [gridE bg g (w64 (cnt + 1)), .gen b6 (MapIs (Value.int .i64) (doneM [])), rowV ac cc (cellsOf a)]) ((show _ = [Ent.row (.slice (some ⟨bg, 0, none⟩) 1025 1025) 104 1 1025 (rowOut (gcells g cnt) (1024 * 1) [.int .i64 (w64 (cnt + 1))]), .gen b6 (MapIs (Value.int .i64) []), rowV ac cc (cellsOf a)] by kernel_rfl).trans (by rw [rowOut_cnt hg]; rfl)) rfl ?_
  refine un _ _ ?_
  have hcl := cellsOf_length ha
  refine V.loop [0, 1, 6, 21, 22, 23] (fun x : Nat × List Buck => [ptr bg, .int .u32 key, .map (some b6), .slice ac (cellsOf a).length cc, .int .i64 ((cellsOf a).length : Int), .int .i64 (x.1 : Int)])
    (fun x => [gridE bg x.2 (w64 (cnt + 1)), .gen b6 (MapIs (Value.int .i64) (doneM ((cellsOf a).take x.1))), rowV ac cc (cellsOf a)] ++ gridRows x.2)
    (fun x => x.1 ≤ (cellsOf a).length ∧ x.2.length = 1024 ∧ x.2.map (·.l) = insG key ((cellsOf a).take x.1) (g.map (·.l))) (fun x => (cellsOf a).length - x.1) (0, g)
    (by kernel_rfl) (by kernel_rfl) rfl ⟨Nat.zero_le _, hg, by rw [List.take_zero, insG_nil]⟩ ?_
  rintro F ⟨k, g'⟩ ⟨hk, hg', hgl⟩ again
  have hk : k ≤ (cellsOf a).length := hk
  have hg' : g'.length = 1024 := hg'
  have hgl : g'.map (·.l) = insG key ((cellsOf a).take k) (g.map (·.l)) := hgl
  refine V.ite (decide ((k : Int) < ((cellsOf a).length : Int))) (by kernel_rfl) (fun hlt => ?_) (fun hlt => ?_)
  · have hlt : k < (cellsOf a).length := by have := of_decide_eq_true hlt; omega
    have hcell : (cellsOf a)[k]? = some (cellsOf a)[k] := List.getElem?_eq_getElem hlt
    have htk := take_succ_get hlt
    revert hcell htk
    generalize (cellsOf a)[k] = c
    intro hcell htk
    obtain ⟨n, hn⟩ : ∃ n, n = bucket c := ⟨_, rfl⟩
    have hnl : n < g'.length := by rw [hn, hg']; exact bucket_lt c
    have hb : g'[n]? = some g'[n] := List.getElem?_eq_getElem hnl
    have hbl : g'[n].l.length ≤ 65537 := by
      have h1 : (g'.map (·.l))[n]? = some g'[n].l := by rw [List.getElem?_map, hb]; rfl
      rw [hgl, insG, mapI_get] at h1
      cases h2 : (g.map (·.l))[n]? with
      | none => rw [h2] at h1; cases h1
      | some l =>
        rw [h2] at h1
        simp only [Option.map_some, Option.some.injEq] at h1
        rw [← h1]
        rw [List.getElem?_map] at h2
        cases h3 : g[n]? with
        | none => rw [h3] at h2; cases h2
        | some b0 =>
          rw [h3] at h2
          simp only [Option.map_some, Option.some.injEq] at h2
          have := hlen b0 (List.mem_of_getElem? h3)
          rw [← h2]
          split
          · simp; omega
          · omega
    revert hb hbl
    generalize g'[n] = b
    intro hb hbl
    refine V.perm (L' := [gridE bg g' (w64 (cnt + 1)), .gen b6 (MapIs (Value.int .i64) (doneM ((cellsOf a).take k))), rowV ac cc (cellsOf a), rowU b] ++ (g'.eraseIdx n).map rowU) ((gridRows_perm hb).symm.append_left [_, _, _]) ?_
    refine V.aside (L := [gridE bg g' (w64 (cnt + 1)), .gen b6 (MapIs (Value.int .i64) (doneM ((cellsOf a).take k))), rowV ac cc (cellsOf a), rowU b]) (T := (g'.eraseIdx n).map rowU) fun w2 un2 => ?_
    refine V.rix 2 k .i64 (.slice ac (cellsOf a).length cc) 130 2 (cellsOf a).length (flat Vec.cells (cellsOf a)) (by kernel_rfl) (by kernel_rfl) (by kernel_rfl) hlt ?_
    refine V.focus 2 k c.cells (.slice ac (cellsOf a).length cc) 130 2 (cellsOf a).length (flat Vec.cells (cellsOf a)) (by kernel_rfl) hlt (flat_at Vec.cells 2 Vec.cells_length _ k c hcell) (by kernel_rfl) ?_
    refine V.loads [502] (by kernel_rfl) ?_
    refine V.unfocus 2 (.slice ac (cellsOf a).length cc) 130 2 (cellsOf a).length (flat Vec.cells (cellsOf a)) (k * 2) c.cells (by kernel_rfl) ?_
    refine V.new (fun _ => by kernel_rfl) fun b8 => ?_
    refine V.store 4 (by kernel_rfl) (by kernel_rfl) (by kernel_rfl) ?_
    refine V.loads [4] (by kernel_rfl) ?_
    refine V.callp (bucket_f c) (by kernel_rfl) ?_
    refine V.keep [0, 1, 2, 3] (by kernel_rfl) ?_
    refine V.lookup (K := Int) 1 (t := 127) (kt := 3) (e := 4) (b := b6) (enc := Value.int .i64) (kvs := doneM ((cellsOf a).take k)) (z := .bool false) (ok := false) (bucket c : Int) (.bool (decide (bucket c ∈ ((cellsOf a).take k).map bucket))) keyI (by kernel_rfl) (by kernel_rfl) (by kernel_rfl) (by kernel_rfl) (look_done _ _) ?_
    refine V.ite (decide (bucket c ∈ ((cellsOf a).take k).map bucket)) (by kernel_rfl) (fun hd => ?_) (fun hd => ?_)
    · have hd := of_decide_eq_true hd
      refine V.norm 23 (.int .i64 (IntKind.wrap .i64 ((k : Int) + 1))) (.int .i64 ((k + 1 : Nat) : Int)) (by kernel_rfl) (vInt (w64_succ (by omega))) ?_
      refine V.conv (L' := [gridE bg g' (w64 (cnt + 1)), .gen b6 (MapIs (Value.int .i64) (doneM ((cellsOf a).take k))), rowV ac cc (cellsOf a), rowU b]) (by kernel_rfl) rfl ?_
      refine un2 _ _ ?_
      have e1 : doneM ((cellsOf a).take (k + 1)) = doneM ((cellsOf a).take k) := by
        rw [htk, doneM_snoc]
        exact mput_same _ _ _ (by rw [mget_done, if_pos hd])
      refine V.perm (L' := [gridE bg g' (w64 (cnt + 1)), .gen b6 (MapIs (Value.int .i64) (doneM ((cellsOf a).take (k + 1)))), rowV ac cc (cellsOf a)] ++ gridRows g') (by rw [e1]; exact (gridRows_perm hb).append_left [_, _, _]) ?_
      exact again (k + 1, g') _ ⟨(show k + 1 ≤ _ by omega), hg', (show _ = insG key ((cellsOf a).take (k + 1)) _ by rw [htk, insG_old key _ _ _ hd]; exact hgl)⟩ (show (cellsOf a).length - (k + 1) < (cellsOf a).length - k by omega) (by kernel_rfl) (by kernel_rfl)
    · have hd := of_decide_eq_false hd
      refine V.mapput (K := Int) 1 (t := 127) (kt := 3) (e := 4) (b := b6) (enc := Value.int .i64) (kvs := doneM ((cellsOf a).take k)) (bucket c : Int) (.bool true) keyI (by kernel_rfl) (by kernel_rfl) ?_
      subst hn
      refine V.focus 0 (bucket c) [b.v] (.slice (some ⟨bg, 0, none⟩) 1025 1025) 104 1 1025 (gcells g' (w64 (cnt + 1))) (by kernel_rfl) (by have := bucket_lt c; omega) (gcells_at hb _) (by kernel_rfl) ?_
      refine V.drawn mix (by kernel_rfl) ?_
      refine VD.idx0 6 bg 1024 1 (bucket c) .i64 (by kernel_rfl) (by kernel_rfl) (bucket_lt c) ?_
      refine VD.loads [500] (by kernel_rfl) ?_
      refine VD.new 9 (by kernel_rfl) (by kernel_rfl) (fun _ => by kernel_rfl) fun b9 => ?_
      refine VD.append 10 3 4 4 (t := 101) (e := 36) (size := 1) (n := b.l.length) (m := 1) (b := b9) (c := 1) (T := 36) (v := b.v) (xs := u32s b.l) (cs := #[.int .u32 key]) (by kernel_rfl) (by kernel_rfl) (by kernel_rfl) (by kernel_rfl) (by kernel_rfl) (by kernel_rfl) (by kernel_rfl) (by kernel_rfl) (by kernel_rfl) (by unfold maxLen; omega) (by omega) fun a' cap' => ?_
      refine VD.idxO 13 bg 1024 1 (bucket c) .i64 (by kernel_rfl) (by kernel_rfl) (by kernel_rfl) (bucket_lt c) ?_
      refine VD.rst 14 0 0 (.slice (some ⟨bg, 0, none⟩) 1025 1025) 104 1 1025 (gcells g' (w64 (cnt + 1))) (bucket c * 1) [b.v] [.slice a' (b.l.length + 1) cap'] (by kernel_rfl) (by kernel_rfl) (by kernel_rfl) (by kernel_rfl) (by kernel_rfl) (by kernel_rfl) (by kernel_rfl) ?_
      refine VD.done (by kernel_rfl) ?_
      refine V.norm 23 (.int .i64 (IntKind.wrap .i64 ((k : Int) + 1))) (.int .i64 ((k + 1 : Nat) : Int)) (by kernel_rfl) (vInt (w64_succ (by omega))) ?_
      refine V.unfocus 0 (.slice (some ⟨bg, 0, none⟩) 1025 1025) 104 1 1025 (rowOut (gcells g' (w64 (cnt + 1))) (bucket c * 1) [.slice a' (b.l.length + 1) cap']) (bucket c * 1) [.slice a' (b.l.length + 1) cap'] (by kernel_rfl) ?_
      refine V.keep [0, 1, 2, 3] (by kernel_rfl) ?_
      obtain ⟨b', hb'⟩ : ∃ b' : Buck, b' = ⟨a', cap', b.l ++ [key]⟩ := ⟨_, rfl⟩
      have hbv : b'.v = .slice a' (b.l.length + 1) cap' := by rw [hb']; simp [Buck.v]
      have hbr : rowU b' = .row (.slice a' (b.l.length + 1) cap') 36 1 (b.l.length + 1) (u32s b.l ++ [.int .u32 key]) := by rw [hb']; simp [rowU, Buck.v, u32s]
      refine V.conv (L' := [gridE bg (g'.set (bucket c) b') (w64 (cnt + 1)), .gen b6 (MapIs (Value.int .i64) (doneM ((cellsOf a).take (k + 1)))), rowV ac cc (cellsOf a), rowU b'])
        ((show _ = [Ent.row (.slice (some ⟨bg, 0, none⟩) 1025 1025) 104 1 1025 (rowOut (gcells g' (w64 (cnt + 1))) (bucket c * 1) [.slice a' (b.l.length + 1) cap']), .gen b6 (MapIs (Value.int .i64) (mput (bucket c : Int) (.bool true) (doneM ((cellsOf a).take k)))), rowV ac cc (cellsOf a),
          .row (.slice a' (b.l.length + 1) cap') 36 1 (b.l.length + 1) (u32s b.l ++ [.int .u32 key])] by kernel_rfl).trans (by rw [htk, doneM_snoc, hbr, ← hbv, rowOut_at hnl]; rfl)) rfl ?_
      refine un2 _ _ ?_
      refine V.perm (L' := [gridE bg (g'.set (bucket c) b') (w64 (cnt + 1)), .gen b6 (MapIs (Value.int .i64) (doneM ((cellsOf a).take (k + 1)))), rowV ac cc (cellsOf a)] ++ gridRows (g'.set (bucket c) b')) ((gridRows_set hnl).append_left [_, _, _]) ?_
      refine again (k + 1, g'.set (bucket c) b') _ ⟨(show k + 1 ≤ _ by omega), (by simp [hg']), ?_⟩ (show (cellsOf a).length - (k + 1) < (cellsOf a).length - k by omega) (by kernel_rfl) (by kernel_rfl)
      have hx : (insG key ((cellsOf a).take k) (g.map (·.l)))[bucket c]? = some b.l := by rw [← hgl, List.getElem?_map, hb]; rfl
      show (g'.set (bucket c) b').map (·.l) = insG key ((cellsOf a).take (k + 1)) (g.map (·.l))
      rw [htk, insG_new key _ c _ hd b.l hx, ← hgl, List.map_set, hb']
  · have hlt : ¬ k < (cellsOf a).length := by have := of_decide_eq_false hlt; omega
    have hk2 : k = (cellsOf a).length := by omega
    subst hk2
    rw [List.take_length] at hgl
    exact V.retx g' (.tuple #[]) (by kernel_rfl) (by kernel_rfl) rfl ⟨hg', hgl⟩ (fun w h => h.sub (((List.sublist_cons_self _ _).trans (List.sublist_cons_self _ _)).cons_cons _))
end Go.Ev

namespace Go.Ev
open Go Proofs Bil

theorem gridE_arr {bg : Nat} {g : List Buck} {cnt : Int} {w : World} (h : (gridE bg g cnt).holds w) (hg : g.length = 1024) : (loadVar 102 ⟨bg, 0, none⟩).run Tryz.prog w = .ok (.agg (g.map Buck.v).toArray) w := by
  have hown : w.ownsRow 0 104 1 (.slice (some ⟨bg, 0, none⟩) 1025 1025) 1025 (gcells g cnt) := h
  refine loadVar_cells (by kernel_rfl) (by kernel_rfl) (by rw [List.length_map, hg]; kernel_rfl) fun j u hu => ?_
  refine hown.cells (g := bg) rfl j u ?_
  have hj : j < (g.map Buck.v).length := (List.getElem?_eq_some_iff.1 hu).1
  rw [gcells, List.getElem?_append_left hj]
  exact hu
theorem rowU_holds {b : Buck} {w : World} : (rowU b).holds w ↔ (Ent.row (.slice b.a b.l.length b.cap) 36 1 b.l.length (u32s b.l)).holds w := Iff.rfl
/-- the map's entries behind these pairs -/
def putsP (ps : List Pair) : List (Pair × Value) := ps.foldl (fun m p => mput p unitV m) []
theorem putsP_snoc (ps : List Pair) (p : Pair) : putsP (ps ++ [p]) = mput p unitV (putsP ps) := by simp [putsP]
theorem u32s_at {l : List Int} {i : Nat} (h : i < l.length) : ((u32s l).drop (i * 1)).take 1 = [.int .u32 (l.getD i 0)] := by
  rw [Nat.mul_one, List.drop_eq_getElem_cons (by simpa using h)]
  simp [List.getD_eq_getElem?_getD, List.getElem?_eq_getElem h]
theorem cand_f (bg : Nat) (g : List Buck) (cnt : Int) (hg : g.length = 1024) (hlen : ∀ b ∈ g, b.l.length ≤ 65536) (hnd : ((putsP (pairsOf (g.map (·.l)))).map (·.1)).Nodup) (hfew : (putsP (pairsOf (g.map (·.l)))).length ≤ 1048576) :
    Spec Tryz.prog GLS 54 #[ptr bg] (fun _ => True) (gridE bg g cnt :: gridRows g) (fun x : Option Addr × Nat => .slice x.1 (sortP ((putsP (pairsOf (g.map (·.l)))).map (·.1))).length x.2)
      (fun _ => True) (fun x => [rowP x.1 x.2 (sortP ((putsP (pairsOf (g.map (·.l)))).map (·.1)))]) := by
  generalize hbs : g.map (·.l) = bs at hnd hfew ⊢
  have hbl : bs.length = 1024 := by rw [← hbs, List.length_map, hg]
  refine Spec.enter Tryz.func54 (by kernel_rfl) (by kernel_rfl) fun w _ _ => ?_
  refine V.freezeall fun w1 hR => ?_
  refine V.val (.bool false) (by kernel_rfl) ?_
  refine V.ifb false false (by kernel_rfl) rfl ?_
  refine V.new (fun _ => by kernel_rfl) fun b3 => ?_
  refine V.mapnew Pair.v 0 b3 (by kernel_rfl) ?_
  refine V.loadf ⟨bg, 0, none⟩ 102 (.agg (g.map Buck.v).toArray) (by kernel_rfl) (fun hgl w2 hw2 => gridE_arr (hgl.reach (Dis.nil _) hw2 (gridE bg g cnt) (by simp [gridRows])) hg) ?_
  refine V.cut 1 [3] (fun _ : Unit => [.map (some b3)]) (fun _ => [.gen b3 (MapIs Pair.v (putsP (pairsOf bs)))]) (fun _ => True) (fun F z _ => ?_) (fun after => ?_)
  · refine V.call0 [1000, 1001] (keysOf_f b3) (by kernel_rfl) (by kernel_rfl) (by kernel_rfl) (fun _ _ => trivial) fun bm _ => ?_
    refine V.call0 [1, 0] (sorted_f bm b3 _ hnd hfew) (by kernel_rfl) (by kernel_rfl) (by kernel_rfl) (fun _ _ => trivial) fun x _ => ?_
    exact V.ret _ (by kernel_rfl) (by kernel_rfl) fun w2 hw2 => ⟨x, rfl, trivial, (hR _ _ (hw2.picked [2] (by kernel_rfl) (by kernel_rfl))).sub (List.sublist_append_left _ _)⟩
  refine V.loop [3, 16, 17] (fun k : Nat => [.map (some b3), .agg (g.map Buck.v).toArray, .int .i64 (k : Int)])
    (fun k => [.gen b3 (MapIs Pair.v (putsP (pairsOf (bs.take k))))]) (fun k => k ≤ 1024) (fun k => 1024 - k) 0 (by kernel_rfl) (by kernel_rfl) (by kernel_rfl) (Nat.zero_le _) ?_
  rintro F k hk again
  have hk : k ≤ 1024 := hk
  refine V.ite (decide ((k : Int) < 1024)) (by kernel_rfl) (fun hlt => ?_) (fun hlt => ?_)
  · have hlt : k < 1024 := by have := of_decide_eq_true hlt; omega
    have hb : g[k]? = some (g[k]'(by omega)) := List.getElem?_eq_getElem (by omega)
    revert hb
    generalize g[k]'(by omega) = b
    intro hb
    have hbk : bs[k]? = some b.l := by rw [← hbs, List.getElem?_map, hb]; rfl
    have htk : bs.take (k + 1) = bs.take k ++ [b.l] := by rw [List.take_add_one, hbk]; rfl
    have hbl2 : b.l.length ≤ 65536 := hlen b (List.mem_of_getElem? hb)
    have hmem : rowU b ∈ GLS ++ (gridE bg g cnt :: gridRows g) := by
      refine List.mem_append_right _ (List.mem_cons_of_mem _ ?_)
      exact List.mem_map.2 ⟨b, List.mem_of_getElem? hb, rfl⟩
    refine V.aix k (cs := (g.map Buck.v).toArray) (len := 1024) (kd := .i64) b.v (by kernel_rfl) hlt (by simp [hb]) ?_
    refine V.dup (E := rowU b) hmem ?_
    refine V.loop [3, 16, 17, 5, 20, 21, 22] (fun i : Nat => [.map (some b3), .agg (g.map Buck.v).toArray, .int .i64 (k : Int), b.v, b.v, .int .i64 (b.l.length : Int), .int .i64 (i : Int)])
      (fun i => [.gen b3 (MapIs Pair.v (putsP (pairsOf (bs.take k) ++ pairsTo b.l i)))]) (fun i => i ≤ b.l.length) (fun i => b.l.length - i) 0 (by kernel_rfl) (by kernel_rfl) (by rw [show pairsTo b.l 0 = [] from rfl, List.append_nil]) (Nat.zero_le _) ?_
    rintro F i hi again2
    have hi : i ≤ b.l.length := hi
    refine V.ite (decide ((i : Int) < (b.l.length : Int))) (by kernel_rfl) (fun hlt2 => ?_) (fun hlt2 => ?_)
    · have hlt2 : i < b.l.length := by have := of_decide_eq_true hlt2; omega
      refine V.glfact (E := rowU b) (φ := ∃ gb, b.a = some ⟨gb, 0, none⟩ ∧ b.l.length ≤ b.cap) (List.mem_cons_self ..) (fun w h => ?_) fun hgb => ?_
      · have h : w.ownsRow 0 36 1 (.slice b.a b.l.length b.cap) b.l.length (u32s b.l) := h
        rcases h.2 with ⟨_, h0⟩ | ⟨gb, cap, cur, hv, _, _, h3, _⟩
        · omega
        · injection hv with h4 h5 h6
          exact ⟨gb, h4, by rw [h6]; exact h3⟩
      obtain ⟨gb, hba, hcap⟩ := hgb
      refine V.rix 1000 i .i64 b.v 36 1 b.l.length (u32s b.l) (by kernel_rfl) (by kernel_rfl) (by kernel_rfl) hlt2 ?_
      refine V.part 1000 i [.int .u32 (b.l.getD i 0)] b.v 36 1 b.l.length (u32s b.l) (by kernel_rfl) (by kernel_rfl) hlt2 (u32s_at hlt2) ?_
      refine V.loads [2000] (by kernel_rfl) ?_
      refine V.unpart ?_
      refine V.slc 0 i (a := b.a) (len := b.l.length) (cap := b.cap) (size := 1) (lo := none) (hi := some (.int .i64 (i : Int))) (.slice b.a i b.cap) (by kernel_rfl) (.inl ⟨rfl, rfl⟩) (.inr ⟨_, rfl⟩) (Nat.zero_le _) (by omega) (by rw [hba]; split <;> rfl) ?_
      refine V.gladd (.row (.slice b.a i b.cap) 36 1 i ((u32s b.l).take (i * 1))) (fun w h => row_prefix (h (rowU b) (List.mem_cons_self ..)) hi) (fun bb hbb => ⟨rowU b, List.mem_cons_self .., by rw [← hbb]; simp [rowU, Ent.foot, Buck.v, hba, Value.ownBlock]⟩) ?_
      obtain ⟨a, ha⟩ : ∃ a, a = b.l.getD i 0 := ⟨_, rfl⟩
      have hcl : ((u32s b.l).take (i * 1)) = u32s (b.l.take i) := by rw [Nat.mul_one]; exact (List.map_take ..).symm
      refine V.loop [3, 16, 17, 5, 20, 21, 22, 7, 29, 30, 31] (fun j : Nat => [.map (some b3), .agg (g.map Buck.v).toArray, .int .i64 (k : Int), b.v, b.v, .int .i64 (b.l.length : Int), .int .i64 (i : Int), .int .u32 (b.l.getD i 0), .slice b.a i b.cap, .int .i64 (i : Int), .int .i64 (j : Int)])
        (fun j => [.gen b3 (MapIs Pair.v (putsP (pairsOf (bs.take k) ++ pairsTo b.l i ++ pairsWith (b.l.getD i 0) (b.l.take j))))]) (fun j => j ≤ i) (fun j => i - j) 0 (by kernel_rfl) (by kernel_rfl) (by rw [show pairsWith (b.l.getD i 0) (b.l.take 0) = [] from rfl, List.append_nil]) (Nat.zero_le _) ?_
      rintro F j hj again3
      have hj : j ≤ i := hj
      refine V.ite (decide ((j : Int) < (i : Int))) (by kernel_rfl) (fun hlt3 => ?_) (fun hlt3 => ?_)
      · have hlt3 : j < i := by have := of_decide_eq_true hlt3; omega
        have hjt : b.l.take (j + 1) = b.l.take j ++ [b.l.getD j 0] := by
          rw [List.take_add_one, List.getD_eq_getElem?_getD, List.getElem?_eq_getElem (by omega)]; rfl
        refine V.rix 1000 j .i64 (.slice b.a i b.cap) 36 1 i ((u32s b.l).take (i * 1)) (by kernel_rfl) (by kernel_rfl) (by kernel_rfl) hlt3 ?_
        refine V.part 1000 j [.int .u32 (b.l.getD j 0)] (.slice b.a i b.cap) 36 1 i ((u32s b.l).take (i * 1)) (by kernel_rfl) (by kernel_rfl) hlt3 (by
          rw [hcl, u32s_at (by rw [List.length_take]; omega), List.getD_eq_getElem?_getD, List.getElem?_take_of_lt hlt3, ← List.getD_eq_getElem?_getD]) ?_
        refine V.loads [2000] (by kernel_rfl) ?_
        refine V.unpart ?_
        refine V.ite (!(b.l.getD i 0 == b.l.getD j 0)) (by kernel_rfl) (fun hne => ?_) (fun hne => ?_)
        · have hne : b.l.getD i 0 ≠ b.l.getD j 0 := by simpa using hne
          refine V.callg [1002, 1003] (pair_f (b.l.getD i 0) (b.l.getD j 0)) (by kernel_rfl) (by kernel_rfl) (by kernel_rfl) ?_
          refine V.mapput (K := Pair) 0 (t := 134) (kt := 88) (e := 135) (b := b3) (enc := Pair.v) (kvs := putsP (pairsOf (bs.take k) ++ pairsTo b.l i ++ pairsWith (b.l.getD i 0) (b.l.take j))) (pairOf (b.l.getD i 0) (b.l.getD j 0)) unitV keyPair (by kernel_rfl) (by kernel_rfl) ?_
          refine V.norm 31 (.int .i64 (IntKind.wrap .i64 ((j : Int) + 1))) (.int .i64 ((j + 1 : Nat) : Int)) (by kernel_rfl) (vInt (w64_succ (by omega))) ?_
          refine V.conv (L' := [.gen b3 (MapIs Pair.v (putsP (pairsOf (bs.take k) ++ pairsTo b.l i ++ pairsWith (b.l.getD i 0) (b.l.take (j + 1)))))])
            ((show _ = [Ent.gen b3 (MapIs Pair.v (mput (pairOf (b.l.getD i 0) (b.l.getD j 0)) unitV (putsP (pairsOf (bs.take k) ++ pairsTo b.l i ++ pairsWith (b.l.getD i 0) (b.l.take j)))))] by kernel_rfl).trans (by rw [hjt, pairsWith_snoc, if_pos hne, ← List.append_assoc, putsP_snoc])) rfl ?_
          exact again3 (j + 1) _ (show j + 1 ≤ i by omega) (show i - (j + 1) < i - j by omega) (by kernel_rfl) (by kernel_rfl)
        · have hne : b.l.getD i 0 = b.l.getD j 0 := by simpa using hne
          refine V.norm 31 (.int .i64 (IntKind.wrap .i64 ((j : Int) + 1))) (.int .i64 ((j + 1 : Nat) : Int)) (by kernel_rfl) (vInt (w64_succ (by omega))) ?_
          refine V.conv (L' := [.gen b3 (MapIs Pair.v (putsP (pairsOf (bs.take k) ++ pairsTo b.l i ++ pairsWith (b.l.getD i 0) (b.l.take (j + 1)))))]) (by rw [hjt, pairsWith_snoc, if_neg (by simpa using hne), List.append_nil]) rfl ?_
          exact again3 (j + 1) _ (show j + 1 ≤ i by omega) (show i - (j + 1) < i - j by omega) (by kernel_rfl) (by kernel_rfl)
      · have : j = i := by have := of_decide_eq_false hlt3; omega
        subst this
        refine V.norm 22 (.int .i64 (IntKind.wrap .i64 ((j : Int) + 1))) (.int .i64 ((j + 1 : Nat) : Int)) (by kernel_rfl) (vInt (w64_succ (by omega))) ?_
        refine V.unpart ?_
        refine V.conv (L' := [.gen b3 (MapIs Pair.v (putsP (pairsOf (bs.take k) ++ pairsTo b.l (j + 1))))]) (by rw [pairsTo_succ, ← List.append_assoc]; rfl) rfl ?_
        exact again2 (j + 1) _ (show j + 1 ≤ b.l.length by omega) (show b.l.length - (j + 1) < b.l.length - j by omega) (by kernel_rfl) (by kernel_rfl)
    · have : i = b.l.length := by have := of_decide_eq_false hlt2; omega
      subst this
      refine V.norm 17 (.int .i64 (IntKind.wrap .i64 ((k : Int) + 1))) (.int .i64 ((k + 1 : Nat) : Int)) (by kernel_rfl) (vInt (w64_succ (by omega))) ?_
      refine V.unpart ?_
      refine V.conv (L' := [.gen b3 (MapIs Pair.v (putsP (pairsOf (bs.take (k + 1)))))]) (by rw [htk]; simp [pairsIn, pairsOf]) rfl ?_
      exact again (k + 1) _ (show k + 1 ≤ 1024 by omega) (show 1024 - (k + 1) < 1024 - k by omega) (by kernel_rfl) (by kernel_rfl)
  · have : k = 1024 := by have := of_decide_eq_false hlt; omega
    subst this
    exact V.conv (L' := [.gen b3 (MapIs Pair.v (putsP (pairsOf bs)))]) (by rw [List.take_of_length_le (by omega)]) rfl (after () _ trivial (by kernel_rfl) (by kernel_rfl))
end Go.Ev

namespace Go.Ev
open Go Proofs Bil

theorem counting_f (bo : Nat) : SX GLS 52 #[.map (some bo)] [] (fun b : Nat × Nat => .tuple #[.func (.func 65) #[] #[ptr b.1, ptr b.2], .func (.func 67) #[] #[ptr b.1]])
    (fun b => [cell1 b.1 (.int .i64 0) 3, cell1 b.2 (.map (some bo)) 99]) := by
  refine Spec.enter Tryz.func52 (by kernel_rfl) (by kernel_rfl) fun w _ _ => ?_
  refine V.new (fun _ => by kernel_rfl) fun b1 => ?_
  refine V.new (fun _ => by kernel_rfl) fun b4 => ?_
  refine V.store 1 (by kernel_rfl) (by kernel_rfl) (by kernel_rfl) ?_
  exact V.rete (b4, b1) _ [1, 0] (by kernel_rfl) (by kernel_rfl) (by kernel_rfl) (by kernel_rfl) rfl trivial
theorem calls_f (bn : Nat) (n : Int) : PX [cell1 bn (.int .i64 n) 3] 67 #[ptr bn] (.int .i64 n) := by
  refine PureFn.enter Tryz.func67 (by kernel_rfl) (by kernel_rfl) fun w => ?_
  refine V.loads [1002] (by kernel_rfl) ?_
  exact V.retp _ (by kernel_rfl) (by kernel_rfl) rfl
/-- the boxes of a pair -/
structure PairBox (kvs : List (Int × Value)) (p : Pair) (a b : Box) : Prop where
  lo : mget p.lo kvs = some a.v
  hi : mget p.hi kvs = some b.v
theorem apart_f (p : Pair) (bn bm bo : Nat) (n : Int) (kvs : List (Int × Value)) (a b : Box) (h : PairBox kvs p a b) :
    SX (GLS ++ [cell1 bm (.map (some bo)) 99, mapE bo kvs]) 65 #[p.v, ptr bn, ptr bm] [cell1 bn (.int .i64 n) 3] (fun _ : Unit => .bool (!overlap a b)) (fun _ => [cell1 bn (.int .i64 (w64 (n + 1))) 3]) := by
  refine Spec.enter Tryz.func65 (by kernel_rfl) (by kernel_rfl) fun w _ _ => ?_
  refine V.new (fun _ => by kernel_rfl) fun b3 => ?_
  refine V.loads [0] (by kernel_rfl) ?_
  refine V.store 0 (by kernel_rfl) (by kernel_rfl) (by kernel_rfl) ?_
  refine V.loads [1002, 1] (by kernel_rfl) ?_
  refine V.lookup (K := Int) 1003 (t := 99) (kt := 36) (e := 106) (b := bo) (enc := Value.int .u32) (kvs := kvs) (z := .agg #[.int .i32 0, .int .i32 0, .int .i32 0, .int .i32 0]) (ok := false) p.lo a.v keyU (by kernel_rfl) (by kernel_rfl) (by kernel_rfl) (by kernel_rfl) (by rw [h.lo]; rfl) ?_
  refine V.loads [1002, 1] (by kernel_rfl) ?_
  refine V.lookup (K := Int) 1003 (t := 99) (kt := 36) (e := 106) (b := bo) (enc := Value.int .u32) (kvs := kvs) (z := .agg #[.int .i32 0, .int .i32 0, .int .i32 0, .int .i32 0]) (ok := false) p.hi b.v keyU (by kernel_rfl) (by kernel_rfl) (by kernel_rfl) (by kernel_rfl) (by rw [h.hi]; rfl) ?_
  refine V.callg [1000, 1001] (overlap_f a b) (by kernel_rfl) (by kernel_rfl) (by kernel_rfl) ?_
  exact V.rete () (.bool (!overlap a b)) [0] (by kernel_rfl) (by kernel_rfl) (by kernel_rfl) (by kernel_rfl) rfl trivial

/-- what the closure finds of each pair of a list -/
def Tells (kvs : List (Int × Value)) (ov : Pair → Bool) (l : List Pair) : Prop := ∀ p ∈ l, ∃ a b, PairBox kvs p a b ∧ ov p = overlap a b
theorem apart2_f (p : Pair) (bn bm bo : Nat) (n : Nat) (hn : n < 4611686018427387904) (kvs : List (Int × Value)) (ov : Pair → Bool) (h : ∃ a b, PairBox kvs p a b ∧ ov p = overlap a b) :
    SX (GLS ++ [cell1 bm (.map (some bo)) 99, mapE bo kvs]) 65 #[p.v, ptr bn, ptr bm] [cell1 bn (.int .i64 (n : Int)) 3] (fun _ : Unit => .bool (!ov p)) (fun _ => [cell1 bn (.int .i64 ((n + 1 : Nat) : Int)) 3]) := by
  obtain ⟨a, b, h1, h2⟩ := h
  have := apart_f p bn bm bo (n : Int) kvs a b h1
  rw [h2]
  have e : w64 ((n : Int) + 1) = ((n + 1 : Nat) : Int) := w64_succ hn
  rw [e] at this
  exact this
def firstOff (ov : Pair → Bool) (l : List Pair) : Nat := (l.takeWhile ov).length
theorem firstOff_le (ov : Pair → Bool) (l : List Pair) : firstOff ov l ≤ l.length := (List.takeWhile_sublist _).length_le
theorem firstOff_lt {ov : Pair → Bool} : ∀ {l : List Pair} {j : Nat} {p : Pair}, l[j]? = some p → j ≤ firstOff ov l → (ov p = true ↔ j < firstOff ov l)
  | [], j, p, h, _ => by simp at h
  | x :: l, 0, p, h, _ => by
    simp at h
    subst h
    unfold firstOff
    by_cases hx : ov x = true <;> simp [hx]
  | x :: l, j + 1, p, h, hj => by
    unfold firstOff at *
    by_cases hx : ov x = true
    · simp only [List.takeWhile_cons, hx, if_true, List.length_cons] at *
      have := firstOff_lt (ov := ov) (l := l) (j := j) (p := p) (by simpa using h) (by unfold firstOff; omega)
      unfold firstOff at this
      rw [this]; omega
    · simp [hx] at hj
theorem take_firstOff (ov : Pair → Bool) (l : List Pair) : ∀ {j : Nat}, j ≤ firstOff ov l → (l.take j).filter ov = l.take j := by
  intro j hj
  refine List.filter_eq_self.2 fun p hp => ?_
  obtain ⟨i, hi, rfl⟩ := List.mem_iff_getElem.1 hp
  rw [List.length_take] at hi
  rw [List.getElem_take]
  exact (firstOff_lt (List.getElem?_eq_getElem (by omega)) (by omega)).2 (by omega)
theorem index_f (l : List Pair) (a : Option Addr) (cap bn bm bo n : Nat) (kvs : List (Int × Value)) (ov : Pair → Bool) (hov : Tells kvs ov l) (hl : l.length ≤ 1048576) (hn : n ≤ 1048576) :
    SX (GLS ++ [cell1 bm (.map (some bo)) 99, mapE bo kvs, rowP a cap l]) 68 #[.slice a l.length cap, .func (.func 65) #[] #[ptr bn, ptr bm]] [cell1 bn (.int .i64 (n : Int)) 3]
      (fun _ : Unit => .int .i64 (if firstOff ov l = l.length then -1 else (firstOff ov l : Int))) (fun _ => [cell1 bn (.int .i64 ((if firstOff ov l = l.length then n + l.length else n + firstOff ov l + 1 : Nat) : Int)) 3]) := by
  refine Spec.enter Tryz.func68 (by kernel_rfl) (by kernel_rfl) fun w _ _ => ?_
  refine V.loop [0, 1, 6, 7, 8] (fun j : Nat => [.slice a l.length cap, .func (.func 65) #[] #[ptr bn, ptr bm], .slice a l.length cap, .int .i64 (l.length : Int), .int .i64 (j : Int)])
    (fun j => [cell1 bn (.int .i64 ((n + j : Nat) : Int)) 3]) (fun j => j ≤ firstOff ov l) (fun j => l.length - j) 0 (by kernel_rfl) (by kernel_rfl) (by rw [Nat.add_zero]) (Nat.zero_le _) ?_
  rintro F j hj again
  have hj : j ≤ firstOff ov l := hj
  have hle := firstOff_le ov l
  refine V.ite (decide ((j : Int) < (l.length : Int))) (by kernel_rfl) (fun hlt => ?_) (fun hlt => ?_)
  · have hlt : j < l.length := by have := of_decide_eq_true hlt; omega
    have hp : l[j]? = some l[j] := List.getElem?_eq_getElem hlt
    revert hp
    generalize l[j] = p
    intro hp
    refine V.rix 1004 j .i64 (.slice a l.length cap) 88 2 l.length (flat Pair.cells l) (by kernel_rfl) (by kernel_rfl) (by kernel_rfl) hlt ?_
    refine V.part 1004 j p.cells (.slice a l.length cap) 88 2 l.length (flat Pair.cells l) (by kernel_rfl) (by kernel_rfl) hlt (flat_at Pair.cells 2 Pair.cells_length l j p hp) ?_
    refine V.loads [2000] (by kernel_rfl) ?_
    refine V.unpart ?_
    refine V.callcg [1000, 1001, 1002, 1003] 1 (apart2_f p bn bm bo (n + j) (by omega) kvs ov (hov p (List.mem_of_getElem? hp))) (by kernel_rfl) (by kernel_rfl) (by kernel_rfl) (by kernel_rfl) (by kernel_rfl) (fun _ _ => trivial) fun _ _ => ?_
    have hx := firstOff_lt hp hj
    refine V.ite (!ov p) (by kernel_rfl) (fun ho => ?_) (fun ho => ?_)
    · have hne : ¬ j < firstOff ov l := fun h => by rw [hx.2 h] at ho; cases ho
      have e : j = firstOff ov l := by omega
      refine V.retx () (.int .i64 (j : Int)) (by kernel_rfl) (by kernel_rfl) (by rw [if_neg (by omega), e]) trivial (fun w h => ?_)
      rw [if_neg (by omega), ← e]
      exact h.picked [0] (by kernel_rfl) (by kernel_rfl)
    · have ho : ov p = true := by cases h : ov p with | true => rfl | false => rw [h] at ho; cases ho
      have h1 := hx.1 ho
      refine V.norm 8 (.int .i64 (IntKind.wrap .i64 ((j : Int) + 1))) (.int .i64 ((j + 1 : Nat) : Int)) (by kernel_rfl) (vInt (w64_succ (by omega))) ?_
      exact again (j + 1) _ (show j + 1 ≤ _ by omega) (show l.length - (j + 1) < l.length - j by omega) (by kernel_rfl) (by kernel_rfl)
  · have hlt : j = l.length := by have := of_decide_eq_false hlt; omega
    have e : firstOff ov l = l.length := by omega
    subst hlt
    refine V.retx () (.int .i64 (-1)) (by kernel_rfl) (by kernel_rfl) (by rw [if_pos e]) trivial (fun w h => ?_)
    rw [if_pos e]
    exact h
end Go.Ev

namespace Go.Ev
open Go Proofs Bil

theorem flat_take {α : Type} (c : α → List Value) (k : Nat) (hc : ∀ x, (c x).length = k) (l : List α) (i : Nat) : (flat c l).take (i * k) = flat c (l.take i) := by
  by_cases hi : i ≤ l.length
  · have e : flat c l = flat c (l.take i) ++ flat c (l.drop i) := by rw [← flat_append, List.take_append_drop]
    rw [e, List.take_left' (by rw [flat_length c k hc, List.length_take, Nat.min_eq_left hi])]
  · rw [List.take_of_length_le (by rw [flat_length c k hc]; exact Nat.mul_le_mul_right k (by omega)), List.take_of_length_le (by omega)]
theorem zeroPair : ∀ z, pureVal Tryz.prog (zeroValue 88) = some z → ∀ u ∈ z.cells.toList, u.oneCell' = true := by
  intro z hz
  have h : pureVal Tryz.prog (zeroValue 88) = some (.agg #[.int .u32 0, .int .u32 0]) := by kernel_rfl
  rw [h] at hz
  cases hz
  intro u hu
  simp [Value.cells] at hu
  subst hu
  rfl
theorem delete_f (l : List Pair) (a : Option Addr) (cap bn bm bo : Nat) (kvs : List (Int × Value)) (ov : Pair → Bool) (hov : Tells kvs ov l) (hl : l.length ≤ 1048576) :
    SX (GLS ++ [cell1 bm (.map (some bo)) 99, mapE bo kvs]) 53 #[.slice a l.length cap, .func (.func 65) #[] #[ptr bn, ptr bm]] [cell1 bn (.int .i64 0) 3, rowP a cap l]
      (fun _ : Unit => .slice a (l.filter ov).length cap) (fun _ => [cell1 bn (.int .i64 (l.length : Int)) 3, rowP a cap (l.filter ov)]) := by
  refine Spec.enter Tryz.func53 (by kernel_rfl) (by kernel_rfl) fun w _ _ => ?_
  refine V.callcg [1000, 1001, 1002, 1003, 1] 1 (index_f l a cap bn bm bo 0 kvs ov hov hl (Nat.zero_le _)) (by kernel_rfl) (by kernel_rfl) (by kernel_rfl) (by kernel_rfl) (by kernel_rfl) (fun _ _ => trivial) fun _ _ => ?_
  have hle := firstOff_le ov l
  refine V.ite ((if firstOff ov l = l.length then (-1 : Int) else (firstOff ov l : Int)) == -1) (by kernel_rfl) (fun h => ?_) (fun h => ?_)
  · have e : firstOff ov l = l.length := by
      by_cases h1 : firstOff ov l = l.length
      · exact h1
      · rw [if_neg h1] at h
        have : (firstOff ov l : Int) = -1 := by simp at h
        omega
    have e2 : l.filter ov = l := by
      have := take_firstOff ov l (j := l.length) (by omega)
      rwa [List.take_length] at this
    rw [if_pos e, e2, Nat.zero_add]
    exact V.rete () _ [0, 1] (by kernel_rfl) (by kernel_rfl) (by kernel_rfl) (by kernel_rfl) rfl trivial
  have e : ¬ firstOff ov l = l.length := fun h1 => by rw [if_pos h1] at h; exact absurd h (by decide)
  rw [if_neg e, if_neg e]
  obtain ⟨i0, hi0⟩ : ∃ i0, i0 = firstOff ov l := ⟨_, rfl⟩
  rw [← hi0] at e hle ⊢
  have hp0 : l[i0]? = some (l[i0]'(by omega)) := List.getElem?_eq_getElem (by omega)
  have hoff : ov (l[i0]'(by omega)) = false := by
    have := firstOff_lt (ov := ov) hp0 (by omega)
    cases h2 : ov (l[i0]'(by omega)) with
    | false => rfl
    | true => have := this.1 h2; omega
  have hpre : (l.take i0).filter ov = l.take i0 := take_firstOff ov l (by omega)
  have hpre1 : (l.take (i0 + 1)).filter ov = l.take i0 := by
    rw [List.take_add_one, hp0, List.filter_append, hpre]
    simp [hoff]
  refine V.norm 6 (.int .i64 (IntKind.wrap .i64 ((i0 : Int) + 1))) (.int .i64 ((i0 + 1 : Nat) : Int)) (by kernel_rfl) (vInt (w64_succ (by omega))) ?_
  refine V.loop [0, 1, 5, 6] (fun x : Nat × Nat × List Pair => [.slice a l.length cap, .func (.func 65) #[] #[ptr bn, ptr bm], .int .i64 (x.1 : Int), .int .i64 (x.2.1 : Int)])
    (fun x => [cell1 bn (.int .i64 (x.2.1 : Int)) 3, .row (.slice a l.length cap) 88 2 l.length (flat Pair.cells x.2.2)])
    (fun x => x.1 < x.2.1 ∧ x.2.1 ≤ l.length ∧ x.2.2.length = l.length ∧ x.2.2.take x.1 = (l.take x.2.1).filter ov ∧ x.2.2.drop x.2.1 = l.drop x.2.1) (fun x => l.length - x.2.1) (i0, i0 + 1, l)
    (by kernel_rfl) (by kernel_rfl) (by rw [Nat.zero_add]; kernel_rfl) ⟨Nat.lt_succ_self _, (show i0 + 1 ≤ l.length by omega), rfl, hpre1.symm, rfl⟩ ?_
  rintro F ⟨i, j, r⟩ ⟨hij, hj, hr, ht, hd⟩ again
  have hij : i < j := hij
  have hj : j ≤ l.length := hj
  have hr : r.length = l.length := hr
  have ht : r.take i = (l.take j).filter ov := ht
  have hd : r.drop j = l.drop j := hd
  refine V.ite (decide ((j : Int) < (l.length : Int))) (by kernel_rfl) (fun hlt => ?_) (fun hlt => ?_)
  · have hlt : j < l.length := by have := of_decide_eq_true hlt; omega
    have hp : l[j]? = some l[j] := List.getElem?_eq_getElem hlt
    have htk := take_succ_get hlt
    have hrj : r[j]? = some l[j] := by
      have := congrArg (fun m => m[0]?) hd
      simp only [List.getElem?_drop, Nat.add_zero] at this
      rw [this, hp]
    have hd1 : r.drop (j + 1) = l.drop (j + 1) := by
      have := congrArg (List.drop 1) hd
      simpa [List.drop_drop, Nat.add_comm] using this
    revert hp htk hrj
    generalize l[j] = p
    intro hp htk hrj
    have hcs := flat_at Pair.cells 2 Pair.cells_length r j p hrj
    refine V.rix 1 j .i64 (.slice a l.length cap) 88 2 l.length (flat Pair.cells r) (by kernel_rfl) (by kernel_rfl) (by kernel_rfl) hlt ?_
    refine V.focus 1 j p.cells (.slice a l.length cap) 88 2 l.length (flat Pair.cells r) (by kernel_rfl) hlt hcs (by kernel_rfl) ?_
    refine V.loads [501] (by kernel_rfl) ?_
    refine V.unfocus 1 (.slice a l.length cap) 88 2 l.length (flat Pair.cells r) (j * 2) p.cells (by kernel_rfl) ?_
    refine V.new (fun _ => by kernel_rfl) fun b7 => ?_
    refine V.store 2 (by kernel_rfl) (by kernel_rfl) (by kernel_rfl) ?_
    refine V.loads [2] (by kernel_rfl) ?_
    refine V.callcg [1000, 1001, 1002, 1003] 1 (apart2_f p bn bm bo j (by omega) kvs ov (hov p (List.mem_of_getElem? hp))) (by kernel_rfl) (by kernel_rfl) (by kernel_rfl) (by kernel_rfl) (by kernel_rfl) (fun _ _ => trivial) fun _ _ => ?_
    refine V.ite (!(!ov p)) (by kernel_rfl) (fun ho => ?_) (fun ho => ?_)
    · have ho : ov p = true := by simpa using ho
      have hil : i < l.length := by omega
      refine V.loads [2] (by kernel_rfl) ?_
      refine V.rix 1 i .i64 (.slice a l.length cap) 88 2 l.length (flat Pair.cells r) (by kernel_rfl) (by kernel_rfl) (by kernel_rfl) hil ?_
      have hri : r[i]? = some (r[i]'(by omega)) := List.getElem?_eq_getElem (by omega)
      revert hri
      generalize r[i]'(by omega) = q
      intro hri
      have hci := flat_at Pair.cells 2 Pair.cells_length r i q hri
      refine V.focus 1 i q.cells (.slice a l.length cap) 88 2 l.length (flat Pair.cells r) (by kernel_rfl) hil hci (by kernel_rfl) ?_
      refine V.rst 1 0 (.slice a l.length cap) 88 2 l.length (flat Pair.cells r) (i * 2) q.cells p.cells (by kernel_rfl) (by kernel_rfl) (by kernel_rfl) (by kernel_rfl) ?_
      refine V.unfocus 1 (.slice a l.length cap) 88 2 l.length (rowOut (flat Pair.cells r) (i * 2) p.cells) (i * 2) p.cells (by kernel_rfl) ?_
      refine V.keep [0, 1] (by kernel_rfl) ?_
      refine V.norm 5 (.int .i64 (IntKind.wrap .i64 ((i : Int) + 1))) (.int .i64 ((i + 1 : Nat) : Int)) (by kernel_rfl) (vInt (w64_succ (by omega))) ?_
      refine V.norm 6 (.int .i64 (IntKind.wrap .i64 ((j : Int) + 1))) (.int .i64 ((j + 1 : Nat) : Int)) (by kernel_rfl) (vInt (w64_succ (by omega))) ?_
      refine V.conv (L' := [cell1 bn (.int .i64 ((j + 1 : Nat) : Int)) 3, .row (.slice a l.length cap) 88 2 l.length (flat Pair.cells (r.set i p))])
        ((show _ = [cell1 bn (.int .i64 ((j + 1 : Nat) : Int)) 3, Ent.row (.slice a l.length cap) 88 2 l.length (rowOut (flat Pair.cells r) (i * 2) p.cells)] by kernel_rfl).trans (by rw [rowOut_flat Pair.cells 2 Pair.cells_length p r i (by omega)])) rfl ?_
      refine again (i + 1, j + 1, r.set i p) _ ⟨(show i + 1 < j + 1 by omega), (show j + 1 ≤ l.length by omega), (by simp [hr]), ?_, ?_⟩ (show l.length - (j + 1) < l.length - j by omega) (by kernel_rfl) (by kernel_rfl)
      · show (r.set i p).take (i + 1) = (l.take (j + 1)).filter ov
        rw [htk, List.filter_append, ← ht, List.take_set, List.take_add_one, hri]
        have e4 : (r.take i).length = i := by rw [List.length_take]; omega
        simp only [Option.toList_some]
        rw [List.set_append_right _ _ (by omega), e4, Nat.sub_self]
        simp [ho]
      · show (r.set i p).drop (j + 1) = l.drop (j + 1)
        rw [List.drop_set_of_lt (by omega), hd1]
    · have ho : ov p = false := by cases h : ov p with | false => rfl | true => rw [h] at ho; cases ho
      refine V.keep [0, 1] (by kernel_rfl) ?_
      refine V.norm 6 (.int .i64 (IntKind.wrap .i64 ((j : Int) + 1))) (.int .i64 ((j + 1 : Nat) : Int)) (by kernel_rfl) (vInt (w64_succ (by omega))) ?_
      refine V.conv (L' := [cell1 bn (.int .i64 ((j + 1 : Nat) : Int)) 3, .row (.slice a l.length cap) 88 2 l.length (flat Pair.cells r)]) (by kernel_rfl) rfl ?_
      refine again (i, j + 1, r) _ ⟨(show i < j + 1 by omega), (show j + 1 ≤ l.length by omega), hr, ?_, hd1⟩ (show l.length - (j + 1) < l.length - j by omega) (by kernel_rfl) (by kernel_rfl)
      show r.take i = (l.take (j + 1)).filter ov
      rw [htk, List.filter_append, ht]
      simp [ho]
  · have hlt : j = l.length := by have := of_decide_eq_false hlt; omega
    subst hlt
    have hf : l.filter ov = r.take i := by rw [ht, List.take_length]
    have hfl : (l.filter ov).length = i := by rw [hf, List.length_take]; omega
    refine V.lfact (E := .row (.slice a l.length cap) 88 2 l.length (flat Pair.cells r)) (φ := l.length ≤ cap ∧ ∀ x, a = some x → x = ⟨x.block, 0, none⟩) (by simp) (fun w h => ⟨(row_cap h).1, (row_cap h).2.2⟩) fun hca => ?_
    obtain ⟨hcap, hadr⟩ := hca
    refine V.slc i l.length (a := a) (len := l.length) (cap := cap) (size := 2) (lo := some (.int .i64 (i : Int))) (hi := none) (.slice (if cap = i then a else a.map (·.add (i * 2))) (l.length - i) (cap - i)) (by kernel_rfl) (.inr ⟨_, rfl⟩) (.inl ⟨rfl, rfl⟩) (by omega) hcap rfl ?_
    refine V.clear 1 i 8 (t := 82) (e := 88) (size := 2) (n := l.length) (cap := cap) (a := a) (xs := flat Pair.cells r) (by kernel_rfl) (by kernel_rfl) (by kernel_rfl) zeroPair (by kernel_rfl) (by omega) ?_
    have ea : (if cap = 0 then a else a.map (·.add (0 * 2))) = a := by
      cases a with
      | none => split <;> rfl
      | some x =>
        have := hadr x rfl
        split
        · rfl
        · rw [this]; rfl
    refine V.slc 0 i (a := a) (len := l.length) (cap := cap) (size := 2) (lo := none) (hi := some (.int .i64 (i : Int))) (.slice a i cap) (by kernel_rfl) (.inl ⟨rfl, rfl⟩) (.inr ⟨_, rfl⟩) (Nat.zero_le _) (by omega) (by rw [ea]; rfl) ?_
    refine V.retx () (.slice a i cap) (by kernel_rfl) (by kernel_rfl) (by rw [hfl]) trivial (fun w h => ?_)
    have h2 := h.picked (L' := [cell1 bn (.int .i64 (l.length : Int)) 3, .row (.slice a i cap) 88 2 i ((flat Pair.cells r).take (i * 2))]) [0, 1] (by kernel_rfl) (by kernel_rfl)
    have e5 : (flat Pair.cells r).take (i * 2) = flat Pair.cells (l.filter ov) := by
      rw [hf, flat_take Pair.cells 2 Pair.cells_length]
    rw [e5, ← hfl] at h2
    exact h2
end Go.Ev

namespace Go.Ev
open Go Proofs Bil

/-! ### what it computes -/
def bsFrom (bs : List (List Int)) (v : List Body) : List (List Int) := v.foldl (fun bs b => insG b.key (cellsOf (boxOf b)) bs) bs
def bs0 : List (List Int) := List.replicate 1024 []
def bsOf (v : List Body) : List (List Int) := bsFrom bs0 v
theorem bsOf_snoc (v : List Body) (b : Body) : bsOf (v ++ [b]) = insG b.key (cellsOf (boxOf b)) (bsOf v) := by unfold bsOf bsFrom; rw [List.foldl_append]; rfl
theorem bsOf_length (v : List Body) : (bsOf v).length = 1024 := by
  have : ∀ (v : List Body) (bs : List (List Int)), (bsFrom bs v).length = bs.length := by
    intro v
    induction v with
    | nil => intro bs; rfl
    | cons b v ih => intro bs; rw [bsFrom, List.foldl_cons, ← bsFrom, ih, insG_length]
  rw [bsOf, this, bs0, List.length_replicate]
def cands (v : List Body) : List Pair := (putsP (pairsOf (bsOf v))).map (·.1)
def byKey (v : List Body) (k : Int) : Option Body := v.find? (fun b => b.key == k)
def ovP (v : List Body) (p : Pair) : Bool := match byKey v p.lo, byKey v p.hi with
  | some a, some b => overlap (boxOf a) (boxOf b)
  | _, _ => false
/-- pairs.Find -/
def findP (v : List Body) : List Pair := (sortP (cands v)).filter (ovP v)

/-! ### facts -/
theorem keys_mput {K : Type} [DecidableEq K] (k : K) (v : Value) : ∀ m : List (K × Value), (mput k v m).map (·.1) = if k ∈ m.map (·.1) then m.map (·.1) else m.map (·.1) ++ [k]
  | [] => by simp [mput]
  | (y, u) :: m => by
    simp only [mput]
    by_cases hy : k = y
    · subst hy; simp
    · rw [if_neg hy, List.map_cons, keys_mput k v m]
      by_cases h : k ∈ m.map (·.1)
      · rw [if_pos h, if_pos (by rw [List.map_cons]; exact List.mem_cons_of_mem _ h)]; rfl
      · rw [if_neg h, if_neg (by rw [List.map_cons]; intro h2; rcases List.mem_cons.1 h2 with h3 | h3; exact hy h3; exact h h3)]; rfl
theorem putsP_nodup (ps : List Pair) : ((putsP ps).map (·.1)).Nodup := by
  suffices h : ∀ (ps : List Pair) (m : List (Pair × Value)), (m.map (·.1)).Nodup → ((ps.foldl (fun m p => mput p unitV m) m).map (·.1)).Nodup from h ps [] List.nodup_nil
  intro ps
  induction ps with
  | nil => intro m h; exact h
  | cons p ps ih =>
    intro m h
    rw [List.foldl_cons]
    refine ih _ ?_
    rw [keys_mput]
    split
    · exact h
    · rename_i hp
      rw [List.nodup_append]
      exact ⟨h, by simp, fun a ha b hb e => by simp only [List.mem_singleton] at hb; subst hb; subst e; exact hp ha⟩
theorem mem_putsP (ps : List Pair) (p : Pair) : p ∈ (putsP ps).map (·.1) ↔ p ∈ ps := by
  suffices h : ∀ (ps : List Pair) (m : List (Pair × Value)), p ∈ ((ps.foldl (fun m p => mput p unitV m) m).map (·.1)) ↔ p ∈ m.map (·.1) ∨ p ∈ ps by
    rw [putsP, h]; simp
  intro ps
  induction ps with
  | nil => intro m; simp
  | cons q ps ih =>
    intro m
    rw [List.foldl_cons, ih, keys_mput]
    split
    · rename_i hq
      rw [List.mem_cons]
      constructor
      · rintro (h | h); exact .inl h; exact .inr (.inr h)
      · rintro (h | h | h)
        · exact .inl h
        · subst h; exact .inl hq
        · exact .inr h
    · rw [List.mem_append, List.mem_singleton, List.mem_cons, or_assoc]
theorem mem_pairsOf {bs : List (List Int)} {p : Pair} : p ∈ pairsOf bs ↔ ∃ l ∈ bs, ∃ i, ∃ (h : i < l.length), ∃ j, ∃ (h2 : j < i), l[i] ≠ l[j] ∧ p = pairOf l[i] l[j] := by
  unfold pairsOf pairsIn pairsTo
  rw [List.mem_flatMap]
  constructor
  · rintro ⟨l, hl, hp⟩
    obtain ⟨i, hi, hp⟩ := List.mem_flatMap.1 hp
    rw [List.mem_range] at hi
    unfold pairsAt pairsWith at hp
    obtain ⟨b, hb, hq⟩ := List.mem_filterMap.1 hp
    obtain ⟨j, hj, rfl⟩ := List.mem_iff_getElem.1 hb
    rw [List.length_take] at hj
    rw [List.getElem_take, List.getD_eq_getElem?_getD, List.getElem?_eq_getElem hi, Option.getD_some] at hq
    split at hq
    · rename_i hne
      cases hq
      exact ⟨l, hl, i, hi, j, by omega, hne, rfl⟩
    · cases hq
  · rintro ⟨l, hl, i, hi, j, hj, hne, rfl⟩
    refine ⟨l, hl, List.mem_flatMap.2 ⟨i, List.mem_range.2 hi, ?_⟩⟩
    unfold pairsAt pairsWith
    refine List.mem_filterMap.2 ⟨l[j], ?_, ?_⟩
    · rw [List.mem_take_iff_getElem]
      exact ⟨j, by omega, rfl⟩
    · rw [List.getD_eq_getElem?_getD, List.getElem?_eq_getElem hi, Option.getD_some, if_pos hne]
theorem bsOf_keys (v : List Body) : ∀ l ∈ bsOf v, (∀ k ∈ l, k ∈ keys v) ∧ l.length ≤ v.length := by
  suffices h : ∀ (u v : List Body) (bs : List (List Int)), (∀ l ∈ bs, (∀ k ∈ l, k ∈ keys u) ∧ l.length ≤ u.length) → ∀ l ∈ bsFrom bs v, (∀ k ∈ l, k ∈ keys (u ++ v)) ∧ l.length ≤ (u ++ v).length by
    have := h [] v bs0 (fun l hl => by rw [bs0, List.mem_replicate] at hl; rw [hl.2]; simp)
    rw [List.nil_append] at this
    exact this
  intro u v
  induction v generalizing u with
  | nil => intro bs h; simpa [bsFrom] using h
  | cons b v ih =>
    intro bs h
    rw [bsFrom, List.foldl_cons, ← bsFrom]
    have := ih (u ++ [b]) (insG b.key (cellsOf (boxOf b)) bs) (fun l hl => by
      obtain ⟨j, h1⟩ := List.mem_iff_getElem?.1 hl
      rw [insG, mapI_get] at h1
      cases h2 : bs[j]? with
      | none => rw [h2] at h1; cases h1
      | some l0 =>
        rw [h2] at h1
        simp only [Option.map_some, Option.some.injEq] at h1
        have h0 := h l0 (List.mem_of_getElem? h2)
        rw [← h1]
        split
        · refine ⟨fun k hk => ?_, by simp; omega⟩
          rcases List.mem_append.1 hk with hk | hk
          · have := h0.1 k hk; simp [keys] at this ⊢; exact .inl this
          · simp only [List.mem_singleton] at hk; subst hk; simp [keys]
        · exact ⟨fun k hk => by have := h0.1 k hk; simp [keys] at this ⊢; exact .inl this, by simp; omega⟩)
    simpa using this
theorem mem_cands {v : List Body} {p : Pair} (h : p ∈ cands v) : p.lo ∈ keys v ∧ p.hi ∈ keys v := by
  rw [cands, mem_putsP, mem_pairsOf] at h
  obtain ⟨l, hl, i, hi, j, hj, hne, rfl⟩ := h
  have hk := (bsOf_keys v l hl).1
  have h1 := hk _ (List.getElem_mem hi)
  have h2 := hk _ (List.getElem_mem (show j < l.length by omega))
  unfold pairOf mn mx
  constructor <;> (simp only; split <;> assumption)
theorem cands_length (v : List Body) : (cands v).length ≤ v.length * v.length := by
  have h := nodup_len (m := (keys v).flatMap fun a => (keys v).map fun b => (⟨a, b⟩ : Pair)) (putsP_nodup (pairsOf (bsOf v))) (fun p hp => by
    have := mem_cands (v := v) (p := p) hp
    exact List.mem_flatMap.2 ⟨p.lo, this.1, List.mem_map.2 ⟨p.hi, this.2, rfl⟩⟩)
  have e : ((keys v).flatMap fun a => (keys v).map fun b => (⟨a, b⟩ : Pair)).length = v.length * v.length := by
    have : ∀ (l m : List Int), (l.flatMap fun a => m.map fun b => (⟨a, b⟩ : Pair)).length = l.length * m.length := by
      intro l m
      induction l with
      | nil => simp
      | cons x l ih => rw [List.flatMap_cons, List.length_append, ih, List.length_map, List.length_cons, Nat.add_mul, Nat.one_mul, Nat.add_comm]
    rw [this]; simp [keys]
  rw [e] at h
  exact h
theorem mget_map (f : Body → Value) (k : Int) : ∀ (v : List Body) (m : List (Int × Value)), (keys v).Nodup → mget k (v.foldl (fun m b => mput b.key (f b) m) m) = match byKey v k with | some b => some (f b) | none => mget k m
  | [], m, _ => rfl
  | b :: v, m, h => by
    have h2 : b.key ∉ keys v ∧ (keys v).Nodup := by simpa [keys, List.nodup_cons] using h
    rw [List.foldl_cons, mget_map f k v _ h2.2]
    unfold byKey
    rw [List.find?_cons]
    by_cases hk : b.key = k
    · subst hk
      have h3 : v.find? (fun x => x.key == b.key) = none := by
        rw [List.find?_eq_none]
        intro x hx hxk
        exact h2.1 (by simp only [keys, List.mem_map]; exact ⟨x, hx, by simpa using hxk⟩)
      rw [h3]
      simp [mget_mput]
    · have : (b.key == k) = false := by simpa using hk
      rw [this]
      simp only []
      cases v.find? (fun x => x.key == k) with
      | some c => rfl
      | none => simp only; rw [mget_mput, if_neg (fun e => hk e.symm)]
theorem keys_nodup {v : List Body} (h : Srt v) : (keys v).Nodup := ((Srt_iff v).1 h).imp fun h => by omega
theorem byKey_mem {v : List Body} {k : Int} (h : k ∈ keys v) : ∃ b, byKey v k = some b ∧ b ∈ v ∧ b.key = k := by
  simp only [keys, List.mem_map] at h
  obtain ⟨b, hb, hk⟩ := h
  cases hf : byKey v k with
  | none =>
    unfold byKey at hf
    rw [List.find?_eq_none] at hf
    exact absurd (hf b hb) (by simp [hk])
  | some c =>
    unfold byKey at hf
    exact ⟨c, rfl, List.mem_of_find?_eq_some hf, by simpa using List.find?_some hf⟩
theorem boxMap_get {v : List Body} (h : Srt v) {k : Int} {b : Body} (hb : byKey v k = some b) : mget k (boxMap v) = some (boxOf b).v := by
  unfold boxMap
  rw [mget_map _ _ _ _ (keys_nodup h), hb]
theorem byKey_self {v : List Body} (h : Srt v) {b : Body} (hb : b ∈ v) : byKey v b.key = some b := by
  obtain ⟨c, h1, h2, h3⟩ := byKey_mem (v := v) (k := b.key) (by simp only [keys, List.mem_map]; exact ⟨b, hb, rfl⟩)
  rw [h1]
  exact congrArg some (inj_of_nodup (f := Body.key) (keys_nodup h) h2 hb h3)
theorem tells_cands {v : List Body} (h : Srt v) : Tells (boxMap v) (ovP v) (sortP (cands v)) := fun p hp => by
  have hm := mem_cands (v := v) ((sortP_perm _).mem_iff.1 hp)
  obtain ⟨a, ha, _⟩ := byKey_mem hm.1
  obtain ⟨b, hb, _⟩ := byKey_mem hm.2
  exact ⟨boxOf a, boxOf b, ⟨boxMap_get h ha, boxMap_get h hb⟩, by unfold ovP; rw [ha, hb]⟩
theorem w32_bd (x : Int) : -2147483648 ≤ w32 x ∧ w32 x < 2147483648 := by rw [w32_eq]; split <;> omega
theorem boxOk (b : Body) : BoxOk (boxOf b) := ⟨w32_bd _, w32_bd _, w32_bd _, w32_bd _⟩
/-- an empty grid -/
def emptyG : List Buck := List.replicate 1024 ⟨none, 0, []⟩
theorem pfind_f (v : List Body) (a : Option Addr) (cap : Nat) (hs : Srt v) (hn : v.length ≤ 1000) :
    SX (GLS ++ [rowB a cap v]) 41 #[.slice a v.length cap] [] (fun x : Option Addr × Nat => .tuple #[.slice x.1 (findP v).length x.2, .int .i64 ((cands v).length : Int)]) (fun x => [rowP x.1 x.2 (findP v)]) := by
  refine Spec.enter Tryz.func41 (by kernel_rfl) (by kernel_rfl) fun w _ _ => ?_
  refine V.call0 [1000, 1001, 1002] (boxes_f v a cap (by omega)) (by kernel_rfl) (by kernel_rfl) (by kernel_rfl) (fun _ _ => trivial) fun bo _ => ?_
  refine V.new (fun _ => by kernel_rfl) fun b5 => ?_
  refine V.torow 1 b5 1025 1 104 (gcells emptyG 0).toArray (gcells emptyG 0) (by kernel_rfl) (by kernel_rfl) (by simp) (by unfold maxLen; omega) ?_
  refine V.addents (gridRows emptyG) (fun E hE => by
    simp only [gridRows, emptyG, List.map_replicate, List.mem_replicate] at hE; rw [hE.2]; rfl) (fun w E hE => by
    simp only [gridRows, emptyG, List.map_replicate, List.mem_replicate] at hE; rw [hE.2]; exact World.ownsRow_nil w 0 36 1) ?_
  refine V.conv (L' := [mapE bo (boxMap v), gridE b5 emptyG 0] ++ gridRows emptyG) (congrArg (· ++ gridRows emptyG) (show _ = [mapE bo (boxMap v), gridE b5 emptyG 0] by kernel_rfl)) rfl ?_
  refine V.cut 1 [0, 4, 5] (fun _ : List Buck => [.slice a v.length cap, .map (some bo), ptr b5]) (fun g => [mapE bo (boxMap v), gridE b5 g (v.length : Int)] ++ gridRows g) (fun g => g.length = 1024 ∧ g.map (·.l) = bsOf v) (fun F g hg => ?_) (fun after => ?_)
  · obtain ⟨hg, hgl⟩ := hg
    refine V.aside (L := [mapE bo (boxMap v)]) (T := gridE b5 g (v.length : Int) :: gridRows g) fun w1 un => ?_
    refine V.call0 [1000, 1001] (counting_f bo) (by kernel_rfl) (by kernel_rfl) (by kernel_rfl) (fun _ _ => trivial) fun bb _ => ?_
    obtain ⟨bn, bm⟩ := bb
    refine V.conv (L' := [mapE bo (boxMap v), cell1 bn (.int .i64 0) 3, cell1 bm (.map (some bo)) 99]) (by kernel_rfl) rfl ?_
    refine un _ _ ?_
    refine V.perm (L' := (gridE b5 g (v.length : Int) :: gridRows g) ++ [mapE bo (boxMap v), cell1 bn (.int .i64 0) 3, cell1 bm (.map (some bo)) 99]) List.perm_append_comm ?_
    have hlen : ∀ b ∈ g, b.l.length ≤ 65536 := fun b hb => by
      have h1 : b.l ∈ bsOf v := by rw [← hgl]; exact List.mem_map.2 ⟨b, hb, rfl⟩
      have h2 := (bsOf_keys _ _ h1).2
      omega
    have hc := cands_length v
    have hv2 : v.length * v.length ≤ 1000 * 1000 := Nat.mul_le_mul hn hn
    have hpl : (putsP (pairsOf (bsOf v))).length ≤ 1048576 := by
      have : (putsP (pairsOf (bsOf v))).length = (cands v).length := by simp [cands]
      omega
    have hcand := cand_f b5 g (v.length : Int) hg hlen (by rw [hgl]; exact putsP_nodup _) (by rw [hgl]; exact hpl)
    rw [hgl] at hcand
    refine V.callcg [1000, 1001] 1025 hcand (List.take_left' (by simp [gridRows, hg])) (by kernel_rfl) (by kernel_rfl) (by kernel_rfl) (by kernel_rfl) (fun _ _ => trivial) fun x _ => ?_
    obtain ⟨ax, cx⟩ := x
    refine V.conv (L' := [rowP ax cx (sortP (cands v)), mapE bo (boxMap v), cell1 bn (.int .i64 0) 3, cell1 bm (.map (some bo)) 99]) (by rw [List.drop_left' (by simp [gridRows, hg])]; rfl) rfl ?_
    refine V.keep [2, 0, 3, 1] (by kernel_rfl) ?_
    have hsl : (sortP (cands v)).length = (cands v).length := (sortP_perm _).length_eq
    refine V.callcg [1000, 1001, 2, 3] 2 (delete_f (sortP (cands v)) ax cx bn bm bo (boxMap v) (ovP v) (tells_cands hs) (by omega)) (by kernel_rfl) (by kernel_rfl) (by kernel_rfl) (by kernel_rfl) (by kernel_rfl) (fun _ _ => trivial) fun _ _ => ?_
    refine V.callg [1000, 1001, 0] (calls_f bn ((sortP (cands v)).length : Int)) (by kernel_rfl) (by kernel_rfl) (by kernel_rfl) ?_
    refine V.rete (ax, cx) (.tuple #[.slice ax (findP v).length cx, .int .i64 ((sortP (cands v)).length : Int)]) [1] (by kernel_rfl) (by kernel_rfl) (by kernel_rfl) (by kernel_rfl) (by rw [hsl]) trivial
  refine V.loop [0, 4, 5, 12, 13, 14] (fun x : Nat × List Buck => [.slice a v.length cap, .map (some bo), ptr b5, .slice a v.length cap, .int .i64 (v.length : Int), .int .i64 (x.1 : Int)])
    (fun x => [mapE bo (boxMap v), gridE b5 x.2 (x.1 : Int)] ++ gridRows x.2) (fun x => x.1 ≤ v.length ∧ x.2.length = 1024 ∧ x.2.map (·.l) = bsOf (v.take x.1)) (fun x => v.length - x.1) (0, emptyG)
    (by kernel_rfl) (by kernel_rfl) rfl ⟨Nat.zero_le _, by rw [emptyG, List.length_replicate], by rw [List.take_zero]; exact List.map_replicate⟩ ?_
  rintro F ⟨k, g⟩ ⟨hk, hg, hgl⟩ again
  have hk : k ≤ v.length := hk
  have hg : g.length = 1024 := hg
  have hgl : g.map (·.l) = bsOf (v.take k) := hgl
  refine V.ite (decide ((k : Int) < (v.length : Int))) (by kernel_rfl) (fun hlt => ?_) (fun hlt => ?_)
  · have hlt : k < v.length := by have := of_decide_eq_true hlt; omega
    have hb : v[k]? = some v[k] := List.getElem?_eq_getElem hlt
    have htk := take_succ_get hlt
    revert hb htk
    generalize v[k] = b
    intro hb htk
    have hmem : b ∈ v := List.mem_of_getElem? hb
    refine V.aside (L := [mapE bo (boxMap v)]) (T := gridE b5 g (k : Int) :: gridRows g) fun w1 un => ?_
    refine V.rix 1002 k .i64 (.slice a v.length cap) 38 10 v.length (flat Body.cells v) (by kernel_rfl) (by kernel_rfl) (by kernel_rfl) hlt ?_
    refine V.part 1002 k b.cells (.slice a v.length cap) 38 10 v.length (flat Body.cells v) (by kernel_rfl) (by kernel_rfl) hlt (flat_at Body.cells 10 Body.cells_length v k b hb) ?_
    refine V.loads [2000] (by kernel_rfl) ?_
    refine V.unpart ?_
    refine V.new (fun _ => by kernel_rfl) fun b7 => ?_
    refine V.store 1 (by kernel_rfl) (by kernel_rfl) (by kernel_rfl) ?_
    refine V.loads [1, 1] (by kernel_rfl) ?_
    refine V.lookup (K := Int) 0 (t := 99) (kt := 36) (e := 106) (b := bo) (enc := Value.int .u32) (kvs := boxMap v) (z := .agg #[.int .i32 0, .int .i32 0, .int .i32 0, .int .i32 0]) (ok := false) b.key (boxOf b).v keyU (by kernel_rfl) (by kernel_rfl) (by kernel_rfl) (by kernel_rfl) (by rw [boxMap_get hs (byKey_self hs hmem)]; rfl) ?_
    refine V.keep [0] (by kernel_rfl) ?_
    refine V.conv (L' := [mapE bo (boxMap v)]) (by kernel_rfl) rfl ?_
    refine un _ _ ?_
    refine V.perm (L' := (gridE b5 g (k : Int) :: gridRows g) ++ [mapE bo (boxMap v)]) List.perm_append_comm ?_
    have hlen : ∀ b ∈ g, b.l.length ≤ 65536 := fun b hb => by
      have h1 : b.l ∈ bsOf (v.take k) := by rw [← hgl]; exact List.mem_map.2 ⟨b, hb, rfl⟩
      have h2 := (bsOf_keys _ _ h1).2
      rw [List.length_take] at h2
      omega
    refine V.callcg [1000, 1001] 1025 (insert_f b5 g (k : Int) b.key (boxOf b) (boxOk b) hg hlen) (List.take_left' (by simp [gridRows, hg])) (by kernel_rfl) (by kernel_rfl) (by kernel_rfl) (by kernel_rfl) (fun _ _ => trivial) fun g' hg' => ?_
    obtain ⟨hg', hgl'⟩ := hg'
    refine V.norm 14 (.int .i64 (IntKind.wrap .i64 ((k : Int) + 1))) (.int .i64 ((k + 1 : Nat) : Int)) (by kernel_rfl) (vInt (w64_succ (by omega))) ?_
    refine V.conv (L' := (gridE b5 g' ((k + 1 : Nat) : Int) :: gridRows g') ++ [mapE bo (boxMap v)]) (by rw [List.drop_left' (by simp [gridRows, hg]), show w64 ((k : Int) + 1) = ((k + 1 : Nat) : Int) from w64_succ (by omega)]) rfl ?_
    refine V.perm (L' := [mapE bo (boxMap v), gridE b5 g' ((k + 1 : Nat) : Int)] ++ gridRows g') (List.perm_append_comm (l₁ := [mapE bo (boxMap v)]) (l₂ := gridE b5 g' ((k + 1 : Nat) : Int) :: gridRows g')) ?_
    exact again (k + 1, g') _ ⟨(show k + 1 ≤ _ by omega), hg', (show g'.map (·.l) = bsOf (v.take (k + 1)) by rw [htk, bsOf_snoc, hgl', hgl])⟩ (show v.length - (k + 1) < v.length - k by omega) (by kernel_rfl) (by kernel_rfl)
  · have hlt : k = v.length := by have := of_decide_eq_false hlt; omega
    subst hlt
    rw [List.take_length] at hgl
    exact after g _ ⟨hg, hgl⟩ (by kernel_rfl) (by kernel_rfl)
end Go.Ev

namespace Go.Ev
open Go Proofs Bil

def bodyMap (v : List Body) : List (Int × Value) := v.foldl (fun m b => mput b.key b.v m) []
def ctcP (v : List Body) (p : Pair) : Option Contact := match byKey v p.lo, byKey v p.hi with
  | some a, some b => if (contact a b).2 = true then some (contact a b).1 else none
  | _, _ => none
/-- contacts.All -/
def contacts (v : List Body) : List Contact := (findP v).filterMap (ctcP v)
abbrev colE (bc bm : Nat) (a : Option Addr) (n cap : Nat) : Ent := .blk bc (.cells #[.map (some bm), .slice a n cap] 81 (0, 0))
theorem bodyMap_get {v : List Body} (h : Srt v) {k : Int} {b : Body} (hb : byKey v k = some b) : mget k (bodyMap v) = some b.v := by
  unfold bodyMap
  rw [mget_map _ _ _ _ (keys_nodup h), hb]
theorem zBody : pureVal Tryz.prog (zeroValue 38) = some noBody.v := by kernel_rfl
theorem colPair_f (v : List Body) (p : Pair) (x y : Body) (hs : Srt v) (hx : byKey v p.lo = some x) (hy : byKey v p.hi = some y) (bc bm : Nat) (a : Option Addr) (cap : Nat) (out : List Contact) (hl : out.length ≤ 1048576) :
    SX (GLS ++ [mapE bm (bodyMap v)]) 43 #[ptr bc, p.v] [colE bc bm a out.length cap, rowC a cap out] (fun _ : Option Addr × Nat => .tuple #[]) (fun z => [colE bc bm z.1 (out ++ (ctcP v p).toList).length z.2, rowC z.1 z.2 (out ++ (ctcP v p).toList)]) := by
  refine Spec.enter Tryz.func43 (by kernel_rfl) (by kernel_rfl) fun w _ _ => ?_
  refine V.new (fun _ => by kernel_rfl) fun b3 => ?_
  have hc := contact_f x y
  rw [show contactLH (low x y) (high x y) = contact x y from rfl] at hc
  revert hc
  have hctc : ctcP v p = if (contact x y).2 = true then some (contact x y).1 else none := by unfold ctcP; rw [hx, hy]
  revert hctc
  generalize contact x y = co
  obtain ⟨c, ok⟩ := co
  intro hctc hc
  refine V.cut 1 [0, 4, 5] (fun b4 : Nat => [ptr bc, ptr b4, .bool ok]) (fun b4 => [colE bc bm a out.length cap, rowC a cap out, .blk b4 (.cells c.cells.toArray 90 (0, 0))]) (fun _ => True) (fun F b4 _ => ?_) (fun after => ?_)
  rotate_left
  · refine V.draw [3, 5, 6, 10, 12, 13] mix (by kernel_rfl) ?_
    refine VD.loads [0, 2, 0, 2] (by kernel_rfl) ?_
    refine VD.lookf (K := Int) 6 1002 (t := 79) (kt := 36) (e := 38) (b := bm) (enc := Value.int .u32) (kvs := bodyMap v) (z := noBody.v) (ok := false) p.lo x.v keyU (by kernel_rfl) (by kernel_rfl) (by kernel_rfl) (by kernel_rfl) (by kernel_rfl) zBody (by rw [bodyMap_get hs hx]; rfl) ?_
    refine VD.lookf (K := Int) 13 1002 (t := 79) (kt := 36) (e := 38) (b := bm) (enc := Value.int .u32) (kvs := bodyMap v) (z := noBody.v) (ok := false) p.hi y.v keyU (by kernel_rfl) (by kernel_rfl) (by kernel_rfl) (by kernel_rfl) (by kernel_rfl) zBody (by rw [bodyMap_get hs hy]; rfl) ?_
    refine VD.two 14 18 (by kernel_rfl) (by kernel_rfl) ?_ ?_
    · refine G1.callg 14 [1000, 1001] hc (by kernel_rfl) (by kernel_rfl) (by kernel_rfl) ?_
      refine VD.new 18 (by kernel_rfl) (by kernel_rfl) (fun _ => by kernel_rfl) fun b4 => ?_
      refine VD.store 19 (by kernel_rfl) (by kernel_rfl) (by kernel_rfl) 3 (by kernel_rfl) (by kernel_rfl) (by kernel_rfl) ?_
      refine VD.done (by kernel_rfl) ?_
      refine V.keep [0, 1, 3] (by kernel_rfl) ?_
      exact V.conv (by kernel_rfl) rfl (after b4 _ trivial (by kernel_rfl) (by kernel_rfl))
    · refine G1.new 18 (fun _ => by kernel_rfl) fun b4 => ?_
      refine VD.callg [1000, 1001] hc (by kernel_rfl) (by kernel_rfl) 14 (by kernel_rfl) (by kernel_rfl) (by kernel_rfl) ?_
      refine VD.store 19 (by kernel_rfl) (by kernel_rfl) (by kernel_rfl) 3 (by kernel_rfl) (by kernel_rfl) (by kernel_rfl) ?_
      refine VD.done (by kernel_rfl) ?_
      refine V.keep [0, 1, 3] (by kernel_rfl) ?_
      exact V.conv (by kernel_rfl) rfl (after b4 _ trivial (by kernel_rfl) (by kernel_rfl))
  refine V.ite ok (by kernel_rfl) (fun ho => ?_) (fun ho => ?_)
  · have e : ctcP v p = some c := by rw [hctc, if_pos ho]
    rw [e]
    refine V.keep [1, 0, 2] (by kernel_rfl) ?_
    refine V.conv (L' := [rowC a cap out, colE bc bm a out.length cap, .blk b4 (.cells c.cells.toArray 90 (0, 0))]) (by kernel_rfl) rfl ?_
    refine V.drawk 1 mix (by kernel_rfl) ?_
    refine VD.loads [0, 1] (by kernel_rfl) ?_
    refine VD.new 6 (by kernel_rfl) (by kernel_rfl) (fun _ => by kernel_rfl) fun b5 => ?_
    refine VD.appendk 1 2 7 0 3 20 (t := 47) (e := 90) (size := 5) (n := out.length) (m := 1) (b := b5) (c := 1) (T := 90) (v := .slice a out.length cap) (xs := flat Contact.cells out) (cs := c.cells.toArray) (by kernel_rfl) (by kernel_rfl) (by kernel_rfl) (by kernel_rfl) (by kernel_rfl) (by kernel_rfl) (by kernel_rfl) (by kernel_rfl) (by kernel_rfl) (by kernel_rfl) (by unfold maxLen; omega) (by omega) fun a' cap' => ?_
    refine VD.store 10 (by kernel_rfl) (by kernel_rfl) (by kernel_rfl) 1 (by kernel_rfl) (by kernel_rfl) (by kernel_rfl) ?_
    refine VD.done (by kernel_rfl) ?_
    refine V.retx (a', cap') (.tuple #[]) (by kernel_rfl) (by kernel_rfl) rfl trivial (fun w h => ?_)
    have h2 := h.picked (L' := [colE bc bm a' (out.length + 1) cap', .row (.slice a' (out.length + 1) cap') 90 5 (out.length + 1) (flat Contact.cells out ++ c.cells)]) [1, 0] (by kernel_rfl) (by kernel_rfl)
    have e2 : [colE bc bm a' (out.length + 1) cap', .row (.slice a' (out.length + 1) cap') 90 5 (out.length + 1) (flat Contact.cells out ++ c.cells)] =
      [colE bc bm a' (out ++ (some c).toList).length cap', rowC a' cap' (out ++ (some c).toList)] := by simp [flat, rowC]
    rw [e2] at h2
    exact h2
  · have e : ctcP v p = none := by rw [hctc, if_neg (by simp [ho])]
    rw [e]
    refine V.retx (a, cap) (.tuple #[]) (by kernel_rfl) (by kernel_rfl) rfl trivial (fun w h => ?_)
    have h2 := h.picked (L' := [colE bc bm a out.length cap, rowC a cap out]) [0, 1] (by kernel_rfl) (by kernel_rfl)
    simpa using h2
end Go.Ev

namespace Go.Ev
open Go Proofs Bil

def Known (v : List Body) (l : List Pair) : Prop := ∀ p ∈ l, ∃ x y, byKey v p.lo = some x ∧ byKey v p.hi = some y
theorem known_findP (v : List Body) : Known v (findP v) := fun p hp => by
  have hm := mem_cands (v := v) ((sortP_perm _).mem_iff.1 (List.mem_filter.1 hp).1)
  obtain ⟨a, ha, _⟩ := byKey_mem hm.1
  obtain ⟨b, hb, _⟩ := byKey_mem hm.2
  exact ⟨a, b, ha, hb⟩
theorem findP_length (v : List Body) : (findP v).length ≤ v.length * v.length :=
  Nat.le_trans (List.length_filter_le _ _) (by rw [(sortP_perm _).length_eq]; exact cands_length v)
theorem filterMap_snoc {α β : Type} (f : α → Option β) (l : List α) (x : α) : (l ++ [x]).filterMap f = l.filterMap f ++ (f x).toList := by
  rw [List.filterMap_append]
  congr 1
theorem ctcEach_f (v : List Body) (l : List Pair) (al : Option Addr) (cl : Nat) (hs : Srt v) (hk : Known v l) (hl : l.length ≤ 1048576) (bc bm : Nat) :
    SX (GLS ++ [mapE bm (bodyMap v), rowP al cl l]) 42 #[.slice al l.length cl, .func (.func 43) #[ptr bc] #[]] [colE bc bm none 0 0, rowC none 0 []] (fun _ : Option Addr × Nat => .tuple #[])
      (fun z => [colE bc bm z.1 (l.filterMap (ctcP v)).length z.2, rowC z.1 z.2 (l.filterMap (ctcP v))]) := by
  refine Spec.enter Tryz.func42 (by kernel_rfl) (by kernel_rfl) fun w _ _ => ?_
  refine V.loop [6, 7, 8, 1] (fun x : Nat × Option Addr × Nat => [.slice al l.length cl, .int .i64 (l.length : Int), .int .i64 (x.1 : Int), .func (.func 43) #[ptr bc] #[]])
    (fun x => [colE bc bm x.2.1 ((l.take x.1).filterMap (ctcP v)).length x.2.2, rowC x.2.1 x.2.2 ((l.take x.1).filterMap (ctcP v))]) (fun x => x.1 ≤ l.length) (fun x => l.length - x.1) (0, none, 0)
    (by kernel_rfl) (by kernel_rfl) rfl (Nat.zero_le _) ?_
  rintro F ⟨k, a, cap⟩ hk2 again
  have hk2 : k ≤ l.length := hk2
  refine V.ite (decide ((k : Int) < (l.length : Int))) (by kernel_rfl) (fun hlt => ?_) (fun hlt => ?_)
  · have hlt : k < l.length := by have := of_decide_eq_true hlt; omega
    have hp : l[k]? = some l[k] := List.getElem?_eq_getElem hlt
    have htk := take_succ_get hlt
    have hkn := hk _ (List.getElem_mem hlt)
    revert hp htk hkn
    generalize l[k] = p
    intro hp htk hkn
    obtain ⟨x, y, hx, hy⟩ := hkn
    have e1 : (l.take (k + 1)).filterMap (ctcP v) = (l.take k).filterMap (ctcP v) ++ (ctcP v p).toList := by rw [htk, filterMap_snoc]
    have hln : ((l.take k).filterMap (ctcP v)).length ≤ 1048576 := Nat.le_trans (List.length_filterMap_le _ _) (by rw [List.length_take]; omega)
    refine V.rix 1003 k .i64 (.slice al l.length cl) 88 2 l.length (flat Pair.cells l) (by kernel_rfl) (by kernel_rfl) (by kernel_rfl) hlt ?_
    refine V.part 1003 k p.cells (.slice al l.length cl) 88 2 l.length (flat Pair.cells l) (by kernel_rfl) (by kernel_rfl) hlt (flat_at Pair.cells 2 Pair.cells_length l k p hp) ?_
    refine V.loads [2000] (by kernel_rfl) ?_
    refine V.unpart ?_
    refine V.new (fun _ => by kernel_rfl) fun b7 => ?_
    refine V.store 2 (by kernel_rfl) (by kernel_rfl) (by kernel_rfl) ?_
    refine V.loads [2] (by kernel_rfl) ?_
    refine V.callcg [1000, 1001, 1002] 2 (colPair_f v p x y hs hx hy bc bm a cap _ hln) (by kernel_rfl) (by kernel_rfl) (by kernel_rfl) (by kernel_rfl) (by kernel_rfl) (fun _ _ => trivial) fun z _ => ?_
    obtain ⟨a', cap'⟩ := z
    refine V.keep [0, 1] (by kernel_rfl) ?_
    refine V.norm 8 (.int .i64 (IntKind.wrap .i64 ((k : Int) + 1))) (.int .i64 ((k + 1 : Nat) : Int)) (by kernel_rfl) (vInt (w64_succ (by omega))) ?_
    refine V.conv ((show _ = [colE bc bm a' ((l.take k).filterMap (ctcP v) ++ (ctcP v p).toList).length cap', rowC a' cap' ((l.take k).filterMap (ctcP v) ++ (ctcP v p).toList)] by kernel_rfl).trans ?_) rfl (again (k + 1, a', cap') _ (show k + 1 ≤ _ by omega) (show l.length - (k + 1) < l.length - k by omega) (by kernel_rfl) (by kernel_rfl))
    rw [← e1]
  · have hlt : k = l.length := by have := of_decide_eq_false hlt; omega
    subst hlt
    have e : l.take l.length = l := List.take_length
    refine V.conv ((show _ = [colE bc bm a ((l.take l.length).filterMap (ctcP v)).length cap, rowC a cap ((l.take l.length).filterMap (ctcP v))] by kernel_rfl)) rfl ?_
    rw [e]
    exact V.rete (a, cap) (.tuple #[]) [0, 1] (by kernel_rfl) (by kernel_rfl) (by kernel_rfl) (by kernel_rfl) rfl trivial
theorem contacts_length (v : List Body) : (contacts v).length ≤ v.length * v.length := Nat.le_trans (List.length_filterMap_le _ _) (findP_length v)
theorem all_f (v : List Body) (a : Option Addr) (cap : Nat) (hs : Srt v) (hn : v.length ≤ 1000) :
    SX (GLS ++ [rowB a cap v]) 29 #[.slice a v.length cap] [] (fun x : Option Addr × Nat => .tuple #[.slice x.1 (contacts v).length x.2, .int .i64 ((cands v).length : Int)]) (fun x => [rowC x.1 x.2 (contacts v)]) := by
  refine Spec.enter Tryz.func29 (by kernel_rfl) (by kernel_rfl) fun w _ _ => ?_
  refine V.new (fun _ => by kernel_rfl) fun bm => ?_
  refine V.mapnew (Value.int .u32) 0 bm (by kernel_rfl) ?_
  refine V.new (fun _ => by kernel_rfl) fun bc => ?_
  refine V.conv (L' := [mapE bm (bodyMap []), colE bc bm none 0 0]) (by kernel_rfl) rfl ?_
  refine V.cut 1 [0, 4] (fun _ : Unit => [.slice a v.length cap, ptr bc]) (fun _ => [mapE bm (bodyMap v), colE bc bm none 0 0]) (fun _ => True) (fun F z _ => ?_) (fun after => ?_)
  · refine V.call0 [1000, 1001, 1002] (pfind_f v a cap hs hn) (by kernel_rfl) (by kernel_rfl) (by kernel_rfl) (fun _ _ => trivial) fun x _ => ?_
    obtain ⟨ap, cp⟩ := x
    refine V.addents [rowC none 0 []] (fun E hE => by rw [List.mem_singleton.1 hE]; rfl) (fun w E hE => by rw [List.mem_singleton.1 hE]; exact World.ownsRow_nil w 0 90 5) ?_
    refine V.conv (L' := [mapE bm (bodyMap v), colE bc bm none 0 0, rowP ap cp (findP v), rowC none 0 []]) (by kernel_rfl) rfl ?_
    refine V.keep [1, 3, 0, 2] (by kernel_rfl) ?_
    refine V.conv (L' := [colE bc bm none 0 0, rowC none 0 [], mapE bm (bodyMap v), rowP ap cp (findP v)]) (by kernel_rfl) rfl ?_
    have hfl := findP_length v
    have hv2 : v.length * v.length ≤ 1000 * 1000 := Nat.mul_le_mul hn hn
    refine V.callcg [1000, 1001, 2, 3] 2 (ctcEach_f v (findP v) ap cp hs (known_findP v) (by omega) bc bm) (by kernel_rfl) (by kernel_rfl) (by kernel_rfl) (by kernel_rfl) (by kernel_rfl) (fun _ _ => trivial) fun z _ => ?_
    obtain ⟨a', cap'⟩ := z
    refine V.conv (L' := [colE bc bm a' (contacts v).length cap', rowC a' cap' (contacts v), mapE bm (bodyMap v), rowP ap cp (findP v)]) (by kernel_rfl) rfl ?_
    refine V.loads [0] (by kernel_rfl) ?_
    exact V.rete (a', cap') (.tuple #[.slice a' (contacts v).length cap', .int .i64 ((cands v).length : Int)]) [1] (by kernel_rfl) (by kernel_rfl) (by kernel_rfl) (by kernel_rfl) rfl trivial
  refine V.loop [0, 4, 11, 12, 13] (fun k : Nat => [.slice a v.length cap, ptr bc, .slice a v.length cap, .int .i64 (v.length : Int), .int .i64 (k : Int)])
    (fun k => [mapE bm (bodyMap (v.take k)), colE bc bm none 0 0]) (fun k => k ≤ v.length) (fun k => v.length - k) 0 (by kernel_rfl) (by kernel_rfl) (by kernel_rfl) (Nat.zero_le _) ?_
  rintro F k hk again
  have hk : k ≤ v.length := hk
  refine V.ite (decide ((k : Int) < (v.length : Int))) (by kernel_rfl) (fun hlt => ?_) (fun hlt => ?_)
  · have hlt : (k : Int) < (v.length : Int) := of_decide_eq_true hlt
    have hlt : k < v.length := by omega
    have hb : v[k]? = some v[k] := List.getElem?_eq_getElem hlt
    have htk := take_succ_get hlt
    revert hb htk
    generalize v[k] = b
    intro hb htk
    refine V.rix 1002 k .i64 (.slice a v.length cap) 38 10 v.length (flat Body.cells v) (by kernel_rfl) (by kernel_rfl) (by kernel_rfl) hlt ?_
    refine V.part 1002 k b.cells (.slice a v.length cap) 38 10 v.length (flat Body.cells v) (by kernel_rfl) (by kernel_rfl) hlt (flat_at Body.cells 10 Body.cells_length v k b hb) ?_
    refine V.loads [2000] (by kernel_rfl) ?_
    refine V.unpart ?_
    refine V.new (fun _ => by kernel_rfl) fun b7 => ?_
    refine V.store 2 (by kernel_rfl) (by kernel_rfl) (by kernel_rfl) ?_
    refine V.drawn mix (by kernel_rfl) ?_
    refine VD.loads [1, 2, 2] (by kernel_rfl) ?_
    refine VD.mapput 7 0 (t := 79) (kt := 36) (e := 38) (b := bm) (enc := Value.int .u32) (kvs := bodyMap (v.take k)) b.key b.v keyU (by kernel_rfl) (by kernel_rfl) (by kernel_rfl) (by kernel_rfl) (by kernel_rfl) ?_
    refine VD.done (by kernel_rfl) ?_
    refine V.keep [0, 1] (by kernel_rfl) ?_
    refine V.norm 13 (.int .i64 (IntKind.wrap .i64 ((k : Int) + 1))) (.int .i64 ((k + 1 : Nat) : Int)) (by kernel_rfl) (vInt (w64_succ (by omega))) ?_
    refine V.conv ((show _ = [mapE bm (mput b.key b.v (bodyMap (v.take k))), colE bc bm none 0 0] by kernel_rfl).trans ?_) rfl (again (k + 1) _ (show k + 1 ≤ _ by omega) (show v.length - (k + 1) < v.length - k by omega) (by kernel_rfl) (by kernel_rfl))
    show _ = [mapE bm (bodyMap (v.take (k + 1))), colE bc bm none 0 0]
    rw [htk, bodyMap, bodyMap, List.foldl_append]
    rfl
  · have hlt : ¬ (k : Int) < (v.length : Int) := of_decide_eq_false hlt
    have hk2 : k = v.length := by omega
    subst hk2
    have e : v.take v.length = v := List.take_length
    exact V.conv ((show _ = [mapE bm (bodyMap (v.take v.length)), colE bc bm none 0 0] by kernel_rfl).trans (by rw [e])) rfl (after () _ trivial (by kernel_rfl) (by kernel_rfl))
end Go.Ev

namespace Go.Ev
open Go Proofs Bil

structure Stats where
  tests : Int
  contacts : Int
  clamped : Bool
deriving DecidableEq
def Stats.v (s : Stats) : Value := .agg #[.int .i64 s.tests, .int .i64 s.contacts, .bool s.clamped]
abbrev stE (bs : Nat) (f0 f1 f2 : Value) (t n : Int) (c : Bool) : Ent := .blk bs (.cells #[f0, f1, f2, .int .i64 t, .int .i64 n, .bool c] 49 (0, 0))
/-- the step -/
def stepV (v : List Body) : List Body := movB (shifts v (contacts v)) (iterV (gravB v) (contacts v) 4)
def stepH (v : List Body) : Bool := gravH v || iterH (gravB v) (contacts v) 4 || movH (shifts v (contacts v)) (iterV (gravB v) (contacts v) 4)
def stepS (v : List Body) : Stats := ⟨(cands v).length, (contacts v).length, stepH v⟩

theorem lb_at {v : List Body} (hs : Srt v) {k : Int} (h : k ∈ keys v) : lb v k < v.length := by
  simp only [keys, List.mem_map] at h
  obtain ⟨b, hb, rfl⟩ := h
  obtain ⟨i, hi, rfl⟩ := List.mem_iff_getElem.1 hb
  have hlt := lb_lt hs (List.getElem?_eq_getElem hi) (key := v[i].key)
  have : ¬ i < lb v v[i].key := fun h => absurd (hlt.2 h) (by omega)
  omega
theorem ctcP_keys {v : List Body} {p : Pair} {c : Contact} (h : ctcP v p = some c) : c.lo ∈ keys v ∧ c.hi ∈ keys v := by
  unfold ctcP at h
  split at h
  · rename_i a b ha hb
    have ha2 : a.key ∈ keys v := List.mem_map.2 ⟨a, List.mem_of_find?_eq_some ha, rfl⟩
    have hb2 : b.key ∈ keys v := List.mem_map.2 ⟨b, List.mem_of_find?_eq_some hb, rfl⟩
    have hl : (low a b).key ∈ keys v := by unfold low; split <;> assumption
    have hh : (high a b).key ∈ keys v := by unfold high; split <;> assumption
    split at h
    · rename_i ho
      cases h
      unfold contact contactLH at ho ⊢
      split at ho
      · rename_i ht
        rw [if_pos ht]
        exact ⟨hl, hh⟩
      · cases ho
    · cases h
  · cases h
theorem both_contacts {v : List Body} (hs : Srt v) : Both v (contacts v) := fun c hc => by
  obtain ⟨p, _, hp⟩ := List.mem_filterMap.1 hc
  have := ctcP_keys hp
  exact ⟨lb_at hs this.1, lb_at hs this.2⟩
theorem keys_grav (v : List Body) : keys (gravB v) = keys v := mapI_keys (f := fun _ b => fallB b) (fun _ b => by unfold fallB; split <;> rfl) 0 v
theorem keys_mov (ss : List Shift) (v : List Body) : keys (movB ss v) = keys v := mapI_keys (f := fun i b => moveB (shiftAt ss i) b) (fun _ _ => rfl) 0 v
theorem keys_step (v : List Body) : keys (stepV v) = keys v := by rw [stepV, keys_mov, keys_iter, keys_grav]
theorem Srt_step {v : List Body} (h : Srt v) : Srt (stepV v) := Srt_keys (keys_step v) h
theorem step_length (v : List Body) : (stepV v).length = v.length := len_keys (keys_step v)

theorem sfind_f (v : List Body) (a : Option Addr) (cap : Nat) (hs : Srt v) (hn : v.length ≤ 1000) (bs : Nat) (f1 f2 : Value) (t n : Int) (c : Bool) :
    SX (GLS ++ [rowB a cap v]) 16 #[ptr bs] [stE bs (.slice a v.length cap) f1 f2 t n c] (fun _ : Option Addr × Nat => .tuple #[]) (fun x => [stE bs (.slice a v.length cap) f1 (.slice x.1 (contacts v).length x.2) (cands v).length (contacts v).length c, rowC x.1 x.2 (contacts v)]) := by
  refine Spec.enter Tryz.func16 (by kernel_rfl) (by kernel_rfl) fun w _ _ => ?_
  refine V.loads [0] (by kernel_rfl) ?_
  refine V.call0 [1000, 1001, 1002] (all_f v a cap hs hn) (by kernel_rfl) (by kernel_rfl) (by kernel_rfl) (fun _ _ => trivial) fun x _ => ?_
  refine V.store 0 (by kernel_rfl) (by kernel_rfl) (by kernel_rfl) ?_
  refine V.store 0 (by kernel_rfl) (by kernel_rfl) (by kernel_rfl) ?_
  refine V.loads [0] (by kernel_rfl) ?_
  refine V.store 0 (by kernel_rfl) (by kernel_rfl) (by kernel_rfl) ?_
  exact V.rete x (.tuple #[]) [0, 1] (by kernel_rfl) (by kernel_rfl) (by kernel_rfl) (by kernel_rfl) rfl trivial
theorem use_f {gl : Gls} (bs : Nat) (f0 f1 f2 : Value) (t n : Int) (c d : Bool) (a : Option Addr) (m cap : Nat) :
    SX gl 30 #[ptr bs, .slice a m cap, .bool d] [stE bs f0 f1 f2 t n c] (fun _ : Unit => .tuple #[]) (fun _ => [stE bs f0 (.slice a m cap) f2 t n (c || d)]) := by
  refine Spec.enter Tryz.func30 (by kernel_rfl) (by kernel_rfl) fun w _ _ => ?_
  refine V.store 0 (by kernel_rfl) (by kernel_rfl) (by kernel_rfl) ?_
  refine V.loads [0] (by kernel_rfl) ?_
  refine V.grd 16 c (by kernel_rfl) (fun h => ?_) (fun h => ?_)
  · subst h
    refine V.store 0 (by kernel_rfl) (by kernel_rfl) (by kernel_rfl) ?_
    exact V.rete () (.tuple #[]) [0] (by kernel_rfl) (by kernel_rfl) (by kernel_rfl) (by kernel_rfl) rfl trivial
  · subst h
    refine V.store 0 (by kernel_rfl) (by kernel_rfl) (by kernel_rfl) ?_
    exact V.rete () (.tuple #[]) [0] (by kernel_rfl) (by kernel_rfl) (by kernel_rfl) (by kernel_rfl) rfl trivial
theorem use1_f {gl : Gls} (E : Ent) (bs : Nat) (f0 f1 f2 : Value) (t n : Int) (c d : Bool) (a : Option Addr) (m cap : Nat) :
    SX gl 30 #[ptr bs, .slice a m cap, .bool d] [E, stE bs f0 f1 f2 t n c] (fun _ : Unit => .tuple #[]) (fun _ => [E, stE bs f0 (.slice a m cap) f2 t n (c || d)]) := by
  refine Spec.enter Tryz.func30 (by kernel_rfl) (by kernel_rfl) fun w _ _ => ?_
  refine V.store 1 (by kernel_rfl) (by kernel_rfl) (by kernel_rfl) ?_
  refine V.loads [1] (by kernel_rfl) ?_
  refine V.grd 16 c (by kernel_rfl) (fun h => ?_) (fun h => ?_)
  · subst h
    refine V.store 1 (by kernel_rfl) (by kernel_rfl) (by kernel_rfl) ?_
    exact V.rete () (.tuple #[]) [0, 1] (by kernel_rfl) (by kernel_rfl) (by kernel_rfl) (by kernel_rfl) rfl trivial
  · subst h
    refine V.store 1 (by kernel_rfl) (by kernel_rfl) (by kernel_rfl) ?_
    exact V.rete () (.tuple #[]) [0, 1] (by kernel_rfl) (by kernel_rfl) (by kernel_rfl) (by kernel_rfl) rfl trivial
theorem use2_f {gl : Gls} (E F : Ent) (bs : Nat) (f0 f1 f2 : Value) (t n : Int) (c d : Bool) (a : Option Addr) (m cap : Nat) :
    SX gl 30 #[ptr bs, .slice a m cap, .bool d] [E, F, stE bs f0 f1 f2 t n c] (fun _ : Unit => .tuple #[]) (fun _ => [E, F, stE bs f0 (.slice a m cap) f2 t n (c || d)]) := by
  refine Spec.enter Tryz.func30 (by kernel_rfl) (by kernel_rfl) fun w _ _ => ?_
  refine V.store 2 (by kernel_rfl) (by kernel_rfl) (by kernel_rfl) ?_
  refine V.loads [2] (by kernel_rfl) ?_
  refine V.grd 16 c (by kernel_rfl) (fun h => ?_) (fun h => ?_)
  · subst h
    refine V.store 2 (by kernel_rfl) (by kernel_rfl) (by kernel_rfl) ?_
    exact V.rete () (.tuple #[]) [0, 1, 2] (by kernel_rfl) (by kernel_rfl) (by kernel_rfl) (by kernel_rfl) rfl trivial
  · subst h
    refine V.store 2 (by kernel_rfl) (by kernel_rfl) (by kernel_rfl) ?_
    exact V.rete () (.tuple #[]) [0, 1, 2] (by kernel_rfl) (by kernel_rfl) (by kernel_rfl) (by kernel_rfl) rfl trivial
theorem sfall_f (v : List Body) (a : Option Addr) (cap : Nat) (hn : v.length ≤ 65536) (bs : Nat) (f1 f2 : Value) (t n : Int) (c : Bool) :
    SX (GLS ++ [rowB a cap v]) 17 #[ptr bs] [stE bs (.slice a v.length cap) f1 f2 t n c] (fun _ : Option Addr × Nat => .tuple #[]) (fun x => [stE bs (.slice a v.length cap) (.slice x.1 v.length x.2) f2 t n (c || gravH v), rowB x.1 x.2 (gravB v)]) := by
  refine Spec.enter Tryz.func17 (by kernel_rfl) (by kernel_rfl) fun w _ _ => ?_
  refine V.loads [0] (by kernel_rfl) ?_
  refine V.call0 [1000, 1001, 1002] (gravity_f v a cap hn) (by kernel_rfl) (by kernel_rfl) (by kernel_rfl) (fun _ _ => trivial) fun x _ => ?_
  refine V.callc 1 (use_f bs (.slice a v.length cap) f1 f2 t n c (gravH v) x.1 v.length x.2) (by kernel_rfl) (by kernel_rfl) (fun _ _ => trivial) fun _ _ => ?_
  exact V.rete x (.tuple #[]) [0, 1] (by kernel_rfl) (by kernel_rfl) (by kernel_rfl) (by kernel_rfl) rfl trivial
theorem ssolve_f (v : List Body) (a : Option Addr) (cap : Nat) (l : List Contact) (al : Option Addr) (cl : Nat) (hs : Srt v) (hn : v.length ≤ 65536) (hl : l.length ≤ 4294967296) (hb : Both v l) (bs : Nat) (f0 : Value) (t n : Int) (c : Bool) :
    SX (GLS ++ [rowC al cl l]) 18 #[ptr bs] [rowB a cap v, stE bs f0 (.slice a v.length cap) (.slice al l.length cl) t n c] (fun _ : Option Addr × Nat => .tuple #[])
      (fun x => [stE bs f0 (.slice x.1 (iterV v l 4).length x.2) (.slice al l.length cl) t n (c || iterH v l 4), rowB x.1 x.2 (iterV v l 4)]) := by
  refine Spec.enter Tryz.func18 (by kernel_rfl) (by kernel_rfl) fun w _ _ => ?_
  refine V.drawn mix (by kernel_rfl) ?_
  refine VD.loads [1, 1] (by kernel_rfl) ?_
  refine VD.callc 1 (solve_f v a cap l al cl hs hn hl hb) (by kernel_rfl) 9 (by kernel_rfl) (by kernel_rfl) (by kernel_rfl) (by kernel_rfl) (fun _ _ => trivial) fun x _ => ?_
  refine VD.callc 2 (use1_f (rowB x.1 x.2 (iterV v l 4)) bs f0 (.slice a v.length cap) (.slice al l.length cl) t n c (iterH v l 4) x.1 (iterV v l 4).length x.2) (by kernel_rfl) 12 (by kernel_rfl) (by kernel_rfl) (by kernel_rfl) (by kernel_rfl) (fun _ _ => trivial) fun _ _ => ?_
  refine VD.done (by kernel_rfl) ?_
  exact V.rete x (.tuple #[]) [1, 0] (by kernel_rfl) (by kernel_rfl) (by kernel_rfl) (by kernel_rfl) rfl trivial
theorem smove_f (v u : List Body) (a a1 : Option Addr) (cap c1 : Nat) (l : List Contact) (al : Option Addr) (cl : Nat) (hs : Srt v) (hk : keys u = keys v) (hn : v.length ≤ 65536) (hl : l.length ≤ 4294967296) (hb : Both v l) (bs : Nat) (t n : Int) (c : Bool) :
    SX (GLS ++ [rowB a cap v, rowB a1 c1 u, rowC al cl l]) 19 #[ptr bs] [stE bs (.slice a v.length cap) (.slice a1 u.length c1) (.slice al l.length cl) t n c] (fun _ : Option Addr × Nat => .tuple #[])
      (fun x => [stE bs (.slice a v.length cap) (.slice x.1 u.length x.2) (.slice al l.length cl) t n (c || movH (shifts v l) u), rowB x.1 x.2 (movB (shifts v l) u)]) := by
  refine Spec.enter Tryz.func19 (by kernel_rfl) (by kernel_rfl) fun w _ _ => ?_
  refine V.drawn mix (by kernel_rfl) ?_
  refine VD.loads [0, 0, 0] (by kernel_rfl) ?_
  have hul : u.length = v.length := len_keys hk
  have hsl : (shifts v l).length = v.length := by rw [shifts, shiftsFrom_length, List.length_replicate]
  refine VD.callckg [1000, 1001, 1002, 1004] 0 0 (shifts_f v a cap l al cl hs hn hl hb) (by kernel_rfl) (by kernel_rfl) (by kernel_rfl) (by kernel_rfl) 13 (by kernel_rfl) (by kernel_rfl) (by kernel_rfl) (by kernel_rfl) (by kernel_rfl) (fun _ _ => trivial) fun y _ => ?_
  have hm := moves_f u a1 c1 (shifts v l) (some ⟨y, 0, none⟩) v.length (by omega) (by omega)
  simp only [rowS, hsl] at hm
  refine VD.callckg [1000, 1001, 1003, 0] 1 0 hm (by kernel_rfl) (by kernel_rfl) (by kernel_rfl) (by kernel_rfl) 14 (by kernel_rfl) (by kernel_rfl) (by kernel_rfl) (by kernel_rfl) (by kernel_rfl) (fun _ _ => trivial) fun x _ => ?_
  refine VD.callc 3 (use2_f (rowB x.1 x.2 (movB (shifts v l) u)) (rowSn (some ⟨y, 0, none⟩) v.length v.length (shifts v l)) bs (.slice a v.length cap) (.slice a1 u.length c1) (.slice al l.length cl) t n c (movH (shifts v l) u) x.1 u.length x.2) (by kernel_rfl) 17 (by kernel_rfl) (by kernel_rfl) (by kernel_rfl) (by kernel_rfl) (fun _ _ => trivial) fun _ _ => ?_
  refine VD.done (by kernel_rfl) ?_
  exact V.rete x (.tuple #[]) [2, 0] (by kernel_rfl) (by kernel_rfl) (by kernel_rfl) (by kernel_rfl) rfl trivial
end Go.Ev

namespace Go.Ev
open Go Proofs Bil

abbrev fnv (g : Nat) : Value := .func (.func g) #[] #[]
theorem step_f (v : List Body) (a : Option Addr) (cap : Nat) (hs : Srt v) (hn : v.length ≤ 1000) :
    SX (GLS ++ [rowB a cap v]) 9 #[.slice a v.length cap] [] (fun x : Option Addr × Nat => .tuple #[.slice x.1 v.length x.2, (stepS v).v]) (fun x => [rowB x.1 x.2 (stepV v)]) := by
  have hc := contacts_length v
  have hv2 : v.length * v.length ≤ 1000 * 1000 := Nat.mul_le_mul hn hn
  have hkk := keys_iter (gravB v) (contacts v) 4
  have hlg : (gravB v).length = v.length := len_keys (keys_grav v)
  have hli : (iterV (gravB v) (contacts v) 4).length = v.length := by rw [len_keys hkk, hlg]
  refine Spec.enter Tryz.func9 (by kernel_rfl) (by kernel_rfl) fun w _ _ => ?_
  refine V.new (fun _ => by kernel_rfl) fun b3 => ?_
  refine V.new (fun _ => by kernel_rfl) fun bs => ?_
  refine V.keep [1, 0] (by kernel_rfl) ?_
  refine V.conv (L' := [stE bs (.slice a v.length cap) (.slice none 0 0) (.slice none 0 0) 0 0 false, .blk b3 (.cells #[.int .i64 0, .int .i64 0, .bool false] 30 (0, 0))]) (by kernel_rfl) rfl ?_
  refine V.roll (by kernel_rfl) ?_
  refine V.ifb (decide ((0 : Int) < 4)) true (by kernel_rfl) rfl ?_
  refine V.aix 0 (cs := #[fnv 16, fnv 17, fnv 18, fnv 19]) (len := 4) (kd := .i64) (fnv 16) (by kernel_rfl) (by decide) rfl ?_
  refine V.callc 1 (sfind_f v a cap hs hn bs (.slice none 0 0) (.slice none 0 0) 0 0 false) (by kernel_rfl) (by kernel_rfl) (fun _ _ => trivial) fun xc _ => ?_
  refine V.again (by kernel_rfl) ?_
  refine V.ifb (decide ((1 : Int) < 4)) true (by kernel_rfl) rfl ?_
  refine V.aix 1 (cs := #[fnv 16, fnv 17, fnv 18, fnv 19]) (len := 4) (kd := .i64) (fnv 17) (by kernel_rfl) (by decide) rfl ?_
  refine V.callc 1 (sfall_f v a cap (by omega) bs (.slice none 0 0) (.slice xc.1 (contacts v).length xc.2) (cands v).length (contacts v).length false) (by kernel_rfl) (by kernel_rfl) (fun _ _ => trivial) fun xg _ => ?_
  refine V.again (by kernel_rfl) ?_
  refine V.ifb (decide ((2 : Int) < 4)) true (by kernel_rfl) rfl ?_
  refine V.aix 2 (cs := #[fnv 16, fnv 17, fnv 18, fnv 19]) (len := 4) (kd := .i64) (fnv 18) (by kernel_rfl) (by decide) rfl ?_
  refine V.keep [1, 0, 2, 3] (by kernel_rfl) ?_
  refine V.conv (L' := [rowB xg.1 xg.2 (gravB v), stE bs (.slice a v.length cap) (.slice xg.1 (gravB v).length xg.2) (.slice xc.1 (contacts v).length xc.2) (cands v).length (contacts v).length (gravH v), rowC xc.1 xc.2 (contacts v), .blk b3 (.cells #[.int .i64 0, .int .i64 0, .bool false] 30 (0, 0))]) (by rw [hlg]; kernel_rfl) rfl ?_
  refine V.callcg [1000, 1001, 2] 2 (ssolve_f (gravB v) xg.1 xg.2 (contacts v) xc.1 xc.2 (Srt_keys (keys_grav v) hs) (by omega) (by omega) (Both_keys (keys_grav v) (both_contacts hs)) bs (.slice a v.length cap) (cands v).length (contacts v).length (gravH v)) (by kernel_rfl) (by kernel_rfl) (by kernel_rfl) (by kernel_rfl) (by kernel_rfl) (fun _ _ => trivial) fun xi _ => ?_
  refine V.again (by kernel_rfl) ?_
  refine V.ifb (decide ((3 : Int) < 4)) true (by kernel_rfl) rfl ?_
  refine V.aix 3 (cs := #[fnv 16, fnv 17, fnv 18, fnv 19]) (len := 4) (kd := .i64) (fnv 19) (by kernel_rfl) (by decide) rfl ?_
  refine V.callcg [1000, 1001, 1002, 1, 2] 1 (smove_f v (iterV (gravB v) (contacts v) 4) a xi.1 cap xi.2 (contacts v) xc.1 xc.2 hs (hkk.trans (keys_grav v)) (by omega) (by omega) (both_contacts hs) bs (cands v).length (contacts v).length (gravH v || iterH (gravB v) (contacts v) 4)) (by kernel_rfl) (by kernel_rfl) (by kernel_rfl) (by kernel_rfl) (by kernel_rfl) (fun _ _ => trivial) fun xm _ => ?_
  refine V.again (by kernel_rfl) ?_
  refine V.ifb (decide ((4 : Int) < 4)) false (by kernel_rfl) rfl ?_
  refine V.keep [0, 1, 4] (by kernel_rfl) ?_
  refine V.conv (L' := [stE bs (.slice a v.length cap) (.slice xm.1 (iterV (gravB v) (contacts v) 4).length xm.2) (.slice xc.1 (contacts v).length xc.2) (cands v).length (contacts v).length (stepH v), rowB xm.1 xm.2 (stepV v), .blk b3 (.cells #[.int .i64 0, .int .i64 0, .bool false] 30 (0, 0))]) (by kernel_rfl) rfl ?_
  rw [hli]
  refine V.drawn mix (by kernel_rfl) ?_
  refine VD.loads [0, 0] (by kernel_rfl) ?_
  refine VD.store 9 (by kernel_rfl) (by kernel_rfl) (by kernel_rfl) 2 (by kernel_rfl) (by kernel_rfl) (by kernel_rfl) ?_
  refine VD.done (by kernel_rfl) ?_
  exact V.retle [2, 2, 2] xm (.tuple #[.slice xm.1 v.length xm.2, (stepS v).v]) [1] (by kernel_rfl) (by kernel_rfl) (by kernel_rfl) (by kernel_rfl) (by kernel_rfl) rfl trivial
/-- step.Free -/
def freeB (b : Body) : Body := moveB noShift (fallB b)
theorem free_f (b : Body) : PureFn Tryz.prog GLS 12 #[b.v] (freeB b).v := by
  refine PureFn.enter Tryz.func12 (by kernel_rfl) (by kernel_rfl) fun w => ?_
  refine V.new (fun _ => by kernel_rfl) fun b1 => ?_
  refine V.new (fun _ => by kernel_rfl) fun b2 => ?_
  refine V.loads [0] (by kernel_rfl) ?_
  refine V.new (fun _ => by kernel_rfl) fun b7 => ?_
  refine V.torow 2 b7 1 10 38 b.cells.toArray b.cells (by kernel_rfl) (by kernel_rfl) rfl (by unfold maxLen; omega) ?_
  refine V.call0 [1000, 1001, 2] (gravity_f [b] (some ⟨b7, 0, none⟩) 1 (by simp)) (by kernel_rfl) (by kernel_rfl) (by kernel_rfl) (fun _ _ => trivial) fun x _ => ?_
  refine V.make 1 2 16 (t := 58) (e := 75) (kl := .i64) (kc := .i64) (by kernel_rfl) (by kernel_rfl) (by simp only [maxLen]; omega) (by omega) (flat Shift.cells [noShift]) (by kernel_rfl) fun bx => ?_
  refine V.call0 [1000, 1001, 3, 4] (moves_f (gravB [b]) x.1 x.2 [noShift] (some ⟨bx, 0, none⟩) 1 (show 1 ≤ 65536 by decide) rfl) (by kernel_rfl) (by kernel_rfl) (by kernel_rfl) (fun _ _ => trivial) fun y _ => ?_
  refine V.conv (L' := [.blk b1 (.cells b.cells.toArray 38 (0, 0)), .blk b2 (.cells noBody.cells.toArray 38 (0, 0)), rowB (some ⟨b7, 0, none⟩) 1 [b], rowB x.1 x.2 (gravB [b]), rowS (some ⟨bx, 0, none⟩) 1 [noShift], rowB y.1 y.2 [freeB b]]) (by kernel_rfl) rfl ?_
  refine V.rix 5 0 .i64 (.slice y.1 1 y.2) 38 10 1 (flat Body.cells [freeB b]) (by kernel_rfl) (by kernel_rfl) (by kernel_rfl) (by decide) ?_
  refine V.focus 5 0 (freeB b).cells (.slice y.1 1 y.2) 38 10 1 (flat Body.cells [freeB b]) (by kernel_rfl) (by decide) (by kernel_rfl) (by kernel_rfl) ?_
  refine V.loads [505] (by kernel_rfl) ?_
  refine V.store 1 (by kernel_rfl) (by kernel_rfl) (by kernel_rfl) ?_
  exact V.retlp [1, 1, 1, 1, 1, 1, 1, 1, 1, 1] (freeB b).v (by kernel_rfl) (by kernel_rfl) (by kernel_rfl) rfl
/-- slices.Clone -/
theorem clone_f (v : List Body) (a : Option Addr) (cap : Nat) (hn : v.length ≤ 65536) :
    SX (GLS ++ [rowB a cap v]) 25 #[.slice a v.length cap] [] (fun x : Option Addr × Nat => .slice x.1 v.length x.2) (fun x => [rowB x.1 x.2 v]) := by
  refine Spec.enter Tryz.func25 (by kernel_rfl) (by kernel_rfl) fun w _ _ => ?_
  refine V.glfact (E := rowB a cap v) (by simp) (fun w h => row_cap h) fun hcap => ?_
  have h1 : ∀ u ∈ flat Body.cells v, u.oneCell' = true := fun u hu => by
    obtain ⟨b, _, hb⟩ := List.mem_flatMap.1 hu
    simp only [Body.cells, List.mem_cons, List.not_mem_nil, or_false] at hb
    rcases hb with h | h | h | h | h | h | h | h | h | h <;> rw [h] <;> rfl
  cases a with
  | none =>
    have h0 := hcap.2.1 rfl
    obtain rfl : v = [] := List.length_eq_zero_iff.1 h0
    refine V.eqnil (.bool true) (by kernel_rfl) (by kernel_rfl) ?_
    refine V.ifb true true (by kernel_rfl) rfl ?_
    refine V.nilrow 38 10 ?_
    exact V.rete (none, 0) (.slice none 0 0) [0] (by kernel_rfl) (by kernel_rfl) (by kernel_rfl) (by kernel_rfl) rfl trivial
  | some ad =>
    have had := hcap.2.2 ad rfl
    refine V.eqnil (.bool false) (by kernel_rfl) (by kernel_rfl) ?_
    refine V.ifb false false (by kernel_rfl) rfl ?_
    refine V.new (fun _ => by kernel_rfl) fun b5 => ?_
    refine V.torow 0 b5 0 10 38 #[] [] (by kernel_rfl) (by kernel_rfl) rfl (by unfold maxLen; omega) ?_
    refine V.appendr 0 1002 40 (t := 22) (e := 38) (e' := 38) (size := 10) (n := 0) (m := v.length) (v := .slice (some ⟨b5, 0, none⟩) 0 0) (src := .slice (some ad) v.length cap) (xs := []) (news := flat Body.cells v) (by kernel_rfl) (by kernel_rfl) (by kernel_rfl) (by kernel_rfl) (by kernel_rfl) h1 (by unfold maxLen; omega) (by omega) fun a' cap' => ?_
    refine V.retx (a', cap') (.slice a' (0 + v.length) cap') (by kernel_rfl) (by kernel_rfl) (by rw [Nat.zero_add]) trivial (fun w h => ?_)
    have h2 := h.picked (L' := [.row (.slice a' (0 + v.length) cap') 38 10 (0 + v.length) ([] ++ flat Body.cells v)]) [0] (by kernel_rfl) (by kernel_rfl)
    rw [Nat.zero_add, List.nil_append] at h2
    exact h2
end Go.Ev

namespace Go.Ev
open Go Proofs Bil

def stepsV (v : List Body) : Nat → List Body
  | 0 => v
  | k + 1 => stepV (stepsV v k)
def addS (s t : Stats) : Stats := ⟨w64 (s.tests + t.tests), w64 (s.contacts + t.contacts), s.clamped || t.clamped⟩
def noStats : Stats := ⟨0, 0, false⟩
def stepsS (v : List Body) : Nat → Stats
  | 0 => noStats
  | k + 1 => addS (stepsS v k) (stepS (stepsV v k))
theorem keys_steps (v : List Body) : ∀ k, keys (stepsV v k) = keys v
  | 0 => rfl
  | k + 1 => by rw [stepsV, keys_step, keys_steps v k]
def Stats.cells (s : Stats) : List Value := [.int .i64 s.tests, .int .i64 s.contacts, .bool s.clamped]
abbrev statE (b : Nat) (s : Stats) : Ent := .blk b (.cells #[.int .i64 s.tests, .int .i64 s.contacts, .bool s.clamped] 30 (0, 0))
theorem steps_f (v : List Body) (a : Option Addr) (cap : Nat) (m : Int) (n : Nat) (hs : Srt v) (hn : v.length ≤ 1000) (hm : (if (0 : Int) > m then 0 else m) = (n : Int)) (hn2 : n ≤ 1000000) :
    SX (GLS ++ [rowB a cap v]) 13 #[.slice a v.length cap, .int .i64 m] [] (fun x : Option Addr × Nat => .tuple #[.slice x.1 v.length x.2, (stepsS v n).v]) (fun x => [rowB x.1 x.2 (stepsV v n)]) := by
  refine Spec.enter Tryz.func13 (by kernel_rfl) (by kernel_rfl) fun w _ _ => ?_
  refine V.new (fun _ => by kernel_rfl) fun b5 => ?_
  refine V.new (fun _ => by kernel_rfl) fun b6 => ?_
  refine V.call0 [1000, 1001, 1002] (clone_f v a cap (by omega)) (by kernel_rfl) (by kernel_rfl) (by kernel_rfl) (fun _ _ => trivial) fun x _ => ?_
  refine V.norm 12 (.int .i64 (if (0 : Int) > m then 0 else m)) (.int .i64 (n : Int)) (by kernel_rfl) (by rw [hm]) ?_
  refine V.conv (L' := [statE b5 noStats, statE b6 noStats, rowB x.1 x.2 v]) (by kernel_rfl) rfl ?_
  refine V.cut 1 [0, 5, 6] (fun y : Option Addr × Nat => [.slice y.1 v.length y.2, ptr b5, ptr b6]) (fun y => [statE b5 noStats, statE b6 (stepsS v n), rowB y.1 y.2 (stepsV v n)]) (fun _ => True) (fun F y _ => ?_) (fun after => ?_)
  · refine V.drawn mix (by kernel_rfl) ?_
    refine VD.loads [1] (by kernel_rfl) ?_
    refine VD.store 3 (by kernel_rfl) (by kernel_rfl) (by kernel_rfl) 0 (by kernel_rfl) (by kernel_rfl) (by kernel_rfl) ?_
    refine VD.done (by kernel_rfl) ?_
    exact V.retle [0, 0, 0] y (.tuple #[.slice y.1 v.length y.2, (stepsS v n).v]) [2] (by kernel_rfl) (by kernel_rfl) (by kernel_rfl) (by kernel_rfl) (by kernel_rfl) rfl trivial
  refine V.loop [0, 5, 6, 12, 13] (fun y : Nat × Option Addr × Nat => [.slice y.2.1 v.length y.2.2, ptr b5, ptr b6, .int .i64 (n : Int), .int .i64 (y.1 : Int)])
    (fun y => [statE b5 noStats, statE b6 (stepsS v y.1), rowB y.2.1 y.2.2 (stepsV v y.1)]) (fun y => y.1 ≤ n) (fun y => n - y.1) (0, x.1, x.2) (by kernel_rfl) (by kernel_rfl) rfl (Nat.zero_le _) ?_
  rintro F ⟨k, a', cap'⟩ hk again
  have hk : k ≤ n := hk
  refine V.ite (decide ((k : Int) < (n : Int))) (by kernel_rfl) (fun hlt => ?_) (fun hlt => ?_)
  · have hlt : k < n := by have := of_decide_eq_true hlt; omega
    have hl := len_keys (keys_steps v k)
    have hst := step_f (stepsV v k) a' cap' (Srt_keys (keys_steps v k) hs) (by omega)
    rw [hl] at hst
    refine V.call0 [1000, 1001, 2] hst (by kernel_rfl) (by kernel_rfl) (by kernel_rfl) (fun _ _ => trivial) fun y _ => ?_
    refine V.new (fun _ => by kernel_rfl) fun b8 => ?_
    refine V.store 4 (by kernel_rfl) (by kernel_rfl) (by kernel_rfl) ?_
    refine V.loads [1, 4] (by kernel_rfl) ?_
    refine V.store 1 (by kernel_rfl) (by kernel_rfl) (by kernel_rfl) ?_
    refine V.loads [1, 4] (by kernel_rfl) ?_
    refine V.store 1 (by kernel_rfl) (by kernel_rfl) (by kernel_rfl) ?_
    refine V.loads [1] (by kernel_rfl) ?_
    refine V.grd 34 (stepsS v k).clamped (by kernel_rfl) (fun h => ?_) (fun h => ?_)
    · refine V.store 1 (by kernel_rfl) (by kernel_rfl) (by kernel_rfl) ?_
      refine V.keep [0, 1, 3] (by kernel_rfl) ?_
      refine V.norm 13 (.int .i64 (IntKind.wrap .i64 ((k : Int) + 1))) (.int .i64 ((k + 1 : Nat) : Int)) (by kernel_rfl) (vInt (w64_succ (by omega))) ?_
      refine V.conv ((show _ = [statE b5 noStats, statE b6 ⟨w64 ((stepsS v k).tests + (stepS (stepsV v k)).tests), w64 ((stepsS v k).contacts + (stepS (stepsV v k)).contacts), true⟩, rowB y.1 y.2 (stepsV v (k + 1))] by kernel_rfl).trans ?_) rfl (again (k + 1, y) _ (show k + 1 ≤ n by omega) (show n - (k + 1) < n - k by omega) (by kernel_rfl) (by kernel_rfl))
      show _ = [statE b5 noStats, statE b6 (addS (stepsS v k) (stepS (stepsV v k))), rowB y.1 y.2 (stepsV v (k + 1))]
      rw [addS, h]; rfl
    · refine V.loads [4] (by kernel_rfl) ?_
      refine V.store 1 (by kernel_rfl) (by kernel_rfl) (by kernel_rfl) ?_
      refine V.keep [0, 1, 3] (by kernel_rfl) ?_
      refine V.norm 13 (.int .i64 (IntKind.wrap .i64 ((k : Int) + 1))) (.int .i64 ((k + 1 : Nat) : Int)) (by kernel_rfl) (vInt (w64_succ (by omega))) ?_
      refine V.conv ((show _ = [statE b5 noStats, statE b6 ⟨w64 ((stepsS v k).tests + (stepS (stepsV v k)).tests), w64 ((stepsS v k).contacts + (stepS (stepsV v k)).contacts), (stepS (stepsV v k)).clamped⟩, rowB y.1 y.2 (stepsV v (k + 1))] by kernel_rfl).trans ?_) rfl (again (k + 1, y) _ (show k + 1 ≤ n by omega) (show n - (k + 1) < n - k by omega) (by kernel_rfl) (by kernel_rfl))
      show _ = [statE b5 noStats, statE b6 (addS (stepsS v k) (stepS (stepsV v k))), rowB y.1 y.2 (stepsV v (k + 1))]
      rw [addS, h]; rfl
  · have hlt : k = n := by have := of_decide_eq_false hlt; omega
    subst hlt
    exact after (a', cap') _ trivial (by kernel_rfl) (by kernel_rfl)
end Go.Ev

namespace Go.Ev
open Go Proofs Bil

def inR (n l : Int) : Bool := decide (n ≥ w32 (0 - l)) && decide (n ≤ l)
theorem in_f (n l : Int) : PureFn Tryz.prog GLS 26 #[.int .i32 n, .int .i32 l] (.bool (inR n l)) := by
  refine PureFn.enter Tryz.func26 (by kernel_rfl) (by kernel_rfl) fun w => ?_
  refine V.grd 9 (decide (n ≥ w32 (0 - l))) (by kernel_rfl) (fun h => ?_) (fun h => ?_)
  · exact V.retp (.bool (decide (n ≤ l))) (by kernel_rfl) (by kernel_rfl) (by rw [inR, h]; rfl)
  · exact V.retp (.bool false) (by kernel_rfl) (by kernel_rfl) (by rw [inR, h]; rfl)
/-- the reference's check -/
def chk (b : Body) : Int :=
  if decide (b.rad < 4096) || decide (b.rad > 4194304) then 4 else
  if !inR b.ax 4194304 || !inR b.ay 4194304 then 5 else
  if decide (b.inv < 0) || decide (b.inv > 1048576) then 6 else
  if decide (b.bo < 0) || decide (b.bo > 65536) then 7 else
  if !inR b.px 1073741824 || !inR b.py 1073741824 then 8 else
  if !inR b.vx 16777216 || !inR b.vy 16777216 then 9 else 0
theorem chk_f (b : Body) : PureFn Tryz.prog GLS 14 #[b.v] (.int .i64 (chk b)) := by
  refine PureFn.enter Tryz.func14 (by kernel_rfl) (by kernel_rfl) fun w => ?_
  refine V.new (fun _ => by kernel_rfl) fun b1 => ?_
  refine V.loads [0] (by kernel_rfl) ?_
  refine V.grd 6 (decide (b.rad < 4096)) (by kernel_rfl) (fun h1 => ?_) (fun h1 => ?_)
  · refine V.ifb true true (by kernel_rfl) rfl ?_
    exact V.retp (.int .i64 4) (by kernel_rfl) (by kernel_rfl) (by rw [chk, h1]; rfl)
  refine V.loads [0] (by kernel_rfl) ?_
  refine V.ite (decide (b.rad > 4194304)) (by kernel_rfl) (fun h2 => ?_) (fun h2 => ?_)
  · exact V.retp (.int .i64 4) (by kernel_rfl) (by kernel_rfl) (by rw [chk, h2, Bool.or_true]; rfl)
  refine V.loads [0] (by kernel_rfl) ?_
  refine V.callp (in_f b.ax 4194304) (by kernel_rfl) ?_
  refine V.grd 16 (!inR b.ax 4194304) (by kernel_rfl) (fun h3 => ?_) (fun h3 => ?_)
  · refine V.ifb true true (by kernel_rfl) rfl ?_
    exact V.retp (.int .i64 5) (by kernel_rfl) (by kernel_rfl) (by rw [chk, h1, h2, h3]; rfl)
  refine V.loads [0] (by kernel_rfl) ?_
  refine V.callp (in_f b.ay 4194304) (by kernel_rfl) ?_
  refine V.ite (!inR b.ay 4194304) (by kernel_rfl) (fun h4 => ?_) (fun h4 => ?_)
  · exact V.retp (.int .i64 5) (by kernel_rfl) (by kernel_rfl) (by rw [chk, h1, h2, h3, h4]; rfl)
  refine V.loads [0] (by kernel_rfl) ?_
  refine V.grd 26 (decide (b.inv < 0)) (by kernel_rfl) (fun h5 => ?_) (fun h5 => ?_)
  · refine V.ifb true true (by kernel_rfl) rfl ?_
    exact V.retp (.int .i64 6) (by kernel_rfl) (by kernel_rfl) (by rw [chk, h1, h2, h3, h4, h5]; rfl)
  refine V.loads [0] (by kernel_rfl) ?_
  refine V.ite (decide (b.inv > 1048576)) (by kernel_rfl) (fun h6 => ?_) (fun h6 => ?_)
  · exact V.retp (.int .i64 6) (by kernel_rfl) (by kernel_rfl) (by rw [chk, h1, h2, h3, h4, h5, h6]; rfl)
  refine V.loads [0] (by kernel_rfl) ?_
  refine V.grd 34 (decide (b.bo < 0)) (by kernel_rfl) (fun h7 => ?_) (fun h7 => ?_)
  · refine V.ifb true true (by kernel_rfl) rfl ?_
    exact V.retp (.int .i64 7) (by kernel_rfl) (by kernel_rfl) (by rw [chk, h1, h2, h3, h4, h5, h6, h7]; rfl)
  refine V.loads [0] (by kernel_rfl) ?_
  refine V.ite (decide (b.bo > 65536)) (by kernel_rfl) (fun h8 => ?_) (fun h8 => ?_)
  · exact V.retp (.int .i64 7) (by kernel_rfl) (by kernel_rfl) (by rw [chk, h1, h2, h3, h4, h5, h6, h7, h8]; rfl)
  refine V.loads [0] (by kernel_rfl) ?_
  refine V.callp (in_f b.px 1073741824) (by kernel_rfl) ?_
  refine V.grd 44 (!inR b.px 1073741824) (by kernel_rfl) (fun h9 => ?_) (fun h9 => ?_)
  · refine V.ifb true true (by kernel_rfl) rfl ?_
    exact V.retp (.int .i64 8) (by kernel_rfl) (by kernel_rfl) (by rw [chk, h1, h2, h3, h4, h5, h6, h7, h8, h9]; rfl)
  refine V.loads [0] (by kernel_rfl) ?_
  refine V.callp (in_f b.py 1073741824) (by kernel_rfl) ?_
  refine V.ite (!inR b.py 1073741824) (by kernel_rfl) (fun h10 => ?_) (fun h10 => ?_)
  · exact V.retp (.int .i64 8) (by kernel_rfl) (by kernel_rfl) (by rw [chk, h1, h2, h3, h4, h5, h6, h7, h8, h9, h10]; rfl)
  refine V.loads [0] (by kernel_rfl) ?_
  refine V.callp (in_f b.vx 16777216) (by kernel_rfl) ?_
  refine V.grd 56 (!inR b.vx 16777216) (by kernel_rfl) (fun h11 => ?_) (fun h11 => ?_)
  · refine V.ifb true true (by kernel_rfl) rfl ?_
    exact V.retp (.int .i64 9) (by kernel_rfl) (by kernel_rfl) (by rw [chk, h1, h2, h3, h4, h5, h6, h7, h8, h9, h10, h11]; rfl)
  refine V.loads [0] (by kernel_rfl) ?_
  refine V.callp (in_f b.vy 16777216) (by kernel_rfl) ?_
  refine V.ite (!inR b.vy 16777216) (by kernel_rfl) (fun h12 => ?_) (fun h12 => ?_)
  · exact V.retp (.int .i64 9) (by kernel_rfl) (by kernel_rfl) (by rw [chk, h1, h2, h3, h4, h5, h6, h7, h8, h9, h10, h11, h12]; rfl)
  exact V.retp (.int .i64 0) (by kernel_rfl) (by kernel_rfl) (by rw [chk, h1, h2, h3, h4, h5, h6, h7, h8, h9, h10, h11, h12]; rfl)
/-- each: the first error, or 12 -/
def eachE : List Body → Int
  | [] => 0
  | b :: l => if chk b = 0 then eachE l else chk b
theorem eachE_at : ∀ {l : List Body} {k : Nat} {b : Body}, l[k]? = some b → (∀ x ∈ l.take k, chk x = 0) → chk b ≠ 0 → eachE l = chk b
  | [], k, b, h, _, _ => by simp at h
  | x :: l, 0, b, h, _, hb => by simp at h; subst h; rw [eachE, if_neg hb]
  | x :: l, k + 1, b, h, ht, hb => by
    rw [eachE, if_pos (ht x (by simp))]
    exact eachE_at (by simpa using h) (fun y hy => ht y (by simp [hy])) hb
theorem eachE_all : ∀ {l : List Body}, (∀ x ∈ l, chk x = 0) → eachE l = 0
  | [], _ => rfl
  | x :: l, h => by rw [eachE, if_pos (h x (by simp))]; exact eachE_all fun y hy => h y (by simp [hy])
theorem eachE_zero : ∀ {l : List Body}, eachE l = 0 → ∀ x ∈ l, chk x = 0
  | [], _, x, hx => by cases hx
  | y :: l, h, x, hx => by
    rw [eachE] at h
    by_cases hy : chk y = 0
    · rw [if_pos hy] at h
      rcases List.mem_cons.1 hx with rfl | hx
      · exact hy
      · exact eachE_zero h x hx
    · rw [if_neg hy] at h; exact absurd h hy
def eachP (l : List Body) : Int := if (l.length : Int) > 4096 then 12 else eachE l
/-- a slice that came in: read only; it may begin within a block -/
def argE (a : Option Addr) (l : List Body) : Ent := match a, l with | some x, y :: l' => .part x.block x.off (flat Body.cells (y :: l')) | _, _ => .part 0 0 []
def ArgOk (a : Option Addr) (l : List Body) : Prop := l ≠ [] → ∃ g o, a = some ⟨g, o, none⟩
theorem ArgOk.some {a : Option Addr} {l : List Body} (h : ArgOk a l) {k : Nat} (hk : k < l.length) : ∃ g o, a = some ⟨g, o, none⟩ := h (fun e => by rw [e] at hk; cases hk)
section
variable {P : Program} {fn : Func} {R : Ending → World → Prop} {gl : Gls} {M : List Nat} {w0 : World} {L : List Ent} {S : St}
theorem V.argpart {l : List Body} {g o : Nat} (k : Nat) {b : Body} (hm : argE (some ⟨g, o, none⟩) l ∈ gl) (hb : l[k]? = some b)
    (kk : V P fn R (.part g (o + k * 10) b.cells :: gl) M w0 L S) : V P fn R gl M w0 L S :=
  V.gladd (.part g (o + k * 10) b.cells) (fun w hg => by
    have h : (Ent.part g o (flat Body.cells l)).holds w := by
      have h0 := hg _ hm
      cases l with
      | nil => simp at hb
      | cons y l' => exact h0
    refine ⟨h.1, fun m x hx => ?_⟩
    have hcs := flat_at Body.cells 10 Body.cells_length l k b hb
    have hm2 : m < 10 := by
      have := (List.getElem?_eq_some_iff.1 hx).1
      rwa [Body.cells_length] at this
    have : (flat Body.cells l)[k * 10 + m]? = some x := by
      rw [← hcs, List.getElem?_take_of_lt hm2, List.getElem?_drop] at hx
      exact hx
    have h2 := h.2 _ _ this
    rwa [← Nat.add_assoc] at h2) (fun b2 hb2 => ⟨_, hm, by cases l with | nil => simp at hb | cons y l' => exact hb2⟩) kk
end
theorem rEach_f (l : List Body) (a : Option Addr) (cap : Nat) (ha : ArgOk a l) : PX [argE a l] 27 #[.slice a l.length cap] (.int .i64 (eachP l)) := by
  refine PureFn.enter Tryz.func27 (by kernel_rfl) (by kernel_rfl) fun w => ?_
  refine V.ite (decide ((l.length : Int) > 4096)) (by kernel_rfl) (fun h => ?_) (fun h => ?_)
  · exact V.retp (.int .i64 12) (by kernel_rfl) (by kernel_rfl) (by rw [eachP, if_pos (of_decide_eq_true h)])
  have hn : l.length ≤ 4096 := by have := of_decide_eq_false h; omega
  refine V.loop [0, 3] (fun k : Nat => [.slice a l.length cap, .int .i64 (k : Int)]) (fun _ => []) (fun k => k ≤ l.length ∧ ∀ x ∈ l.take k, chk x = 0) (fun k => l.length - k) 0 (by kernel_rfl) (by kernel_rfl) rfl ⟨Nat.zero_le _, by simp⟩ ?_
  rintro F k ⟨hk, hz⟩ again
  refine V.ite (decide ((k : Int) < (l.length : Int))) (by kernel_rfl) (fun hlt => ?_) (fun hlt => ?_)
  · have hlt : k < l.length := by have := of_decide_eq_true hlt; omega
    have hb : l[k]? = some l[k] := List.getElem?_eq_getElem hlt
    have htk := take_succ_get hlt
    revert hb htk
    generalize l[k] = b
    intro hb htk
    obtain ⟨g, o, rfl⟩ := ha.some hlt
    refine V.idx g o l.length 10 k .i64 (by kernel_rfl) hlt ?_
    refine V.argpart k (List.mem_append_right _ (List.mem_singleton.2 rfl)) hb ?_
    refine V.loads [2000] (by kernel_rfl) ?_
    refine V.unpart ?_
    refine V.callg [1000, 1001] (chk_f b) (by kernel_rfl) (by kernel_rfl) (by kernel_rfl) ?_
    refine V.ite (chk b != 0) (by kernel_rfl) (fun h1 => ?_) (fun h1 => ?_)
    · exact V.retp (.int .i64 (chk b)) (by kernel_rfl) (by kernel_rfl) (by rw [eachP, if_neg (of_decide_eq_false h), eachE_at hb hz (by simpa using h1)])
    · refine V.norm 3 (.int .i64 (IntKind.wrap .i64 ((k : Int) + 1))) (.int .i64 ((k + 1 : Nat) : Int)) (by kernel_rfl) (vInt (w64_succ (by omega))) ?_
      refine V.conv (L' := []) (by kernel_rfl) rfl (again (k + 1) _ ⟨by omega, fun x hx => ?_⟩ (show l.length - (k + 1) < l.length - k by omega) (by kernel_rfl) (by kernel_rfl))
      rw [htk] at hx
      rcases List.mem_append.1 hx with hx | hx
      · exact hz x hx
      · rw [List.mem_singleton.1 hx]; simpa using h1
  · have hlt : k = l.length := by have := of_decide_eq_false hlt; omega
    subst hlt
    rw [List.take_length] at hz
    exact V.retp (.int .i64 0) (by kernel_rfl) (by kernel_rfl) (by rw [eachP, if_neg (of_decide_eq_false h), eachE_all hz])
end Go.Ev

namespace Go.Ev
open Go Proofs Bil

/-- the number of the first body with a key, or the length -/
def findN (l : List Body) (k : Int) : Nat := (l.takeWhile (fun b => b.key != k)).length
def findI (l : List Body) (k : Int) : Int := if findN l k < l.length then (findN l k : Int) else -1
theorem findN_at : ∀ {l : List Body} {j : Nat} {b : Body} {k : Int}, l[j]? = some b → (∀ x ∈ l.take j, x.key ≠ k) → b.key = k → findN l k = j
  | [], j, b, k, h, _, _ => by simp at h
  | x :: l, 0, b, k, h, _, hb => by simp at h; subst h; simp [findN, hb]
  | x :: l, j + 1, b, k, h, ht, hb => by
    have h1 : x.key ≠ k := ht x (by simp)
    have := findN_at (l := l) (j := j) (k := k) (by simpa using h) (fun y hy => ht y (by simp [hy])) hb
    unfold findN at *
    simp [h1, this]
theorem findN_all : ∀ {l : List Body} {k : Int}, (∀ x ∈ l, x.key ≠ k) → findN l k = l.length
  | [], _, _ => rfl
  | x :: l, k, h => by
    have h1 : x.key ≠ k := h x (by simp)
    have := findN_all (l := l) (k := k) (fun y hy => h y (by simp [hy]))
    unfold findN at *
    simp [h1, this]
theorem rFind_f (l : List Body) (a : Option Addr) (cap : Nat) (key : Int) (hn : l.length ≤ 1048576) : PX [rowB a cap l] 20 #[.slice a l.length cap, .int .u32 key] (.int .i64 (findI l key)) := by
  refine PureFn.enter Tryz.func20 (by kernel_rfl) (by kernel_rfl) fun w => ?_
  refine V.loop [0, 1, 5] (fun k : Nat => [.slice a l.length cap, .int .u32 key, .int .i64 (k : Int)]) (fun _ => []) (fun k => k ≤ l.length ∧ ∀ x ∈ l.take k, x.key ≠ key) (fun k => l.length - k) 0 (by kernel_rfl) (by kernel_rfl) rfl ⟨Nat.zero_le _, by simp⟩ ?_
  rintro F k ⟨hk, hz⟩ again
  refine V.ite (decide ((k : Int) < (l.length : Int))) (by kernel_rfl) (fun hlt => ?_) (fun hlt => ?_)
  · have hlt : k < l.length := by have := of_decide_eq_true hlt; omega
    have hb : l[k]? = some l[k] := List.getElem?_eq_getElem hlt
    have htk := take_succ_get hlt
    revert hb htk
    generalize l[k] = b
    intro hb htk
    refine V.rix 1002 k .i64 (.slice a l.length cap) 38 10 l.length (flat Body.cells l) (by kernel_rfl) (by kernel_rfl) (by kernel_rfl) hlt ?_
    refine V.part 1002 k b.cells (.slice a l.length cap) 38 10 l.length (flat Body.cells l) (by kernel_rfl) (by kernel_rfl) hlt (flat_at Body.cells 10 Body.cells_length l k b hb) ?_
    refine V.loads [2000] (by kernel_rfl) ?_
    refine V.unpart ?_
    refine V.ite (b.key == key) (by kernel_rfl) (fun h1 => ?_) (fun h1 => ?_)
    · exact V.retp (.int .i64 (k : Int)) (by kernel_rfl) (by kernel_rfl) (by rw [findI, findN_at hb hz (by simpa using h1), if_pos hlt])
    · refine V.norm 5 (.int .i64 (IntKind.wrap .i64 ((k : Int) + 1))) (.int .i64 ((k + 1 : Nat) : Int)) (by kernel_rfl) (vInt (w64_succ (by omega))) ?_
      refine V.conv (L' := []) (by kernel_rfl) rfl (again (k + 1) _ ⟨by omega, fun x hx => ?_⟩ (show l.length - (k + 1) < l.length - k by omega) (by kernel_rfl) (by kernel_rfl))
      rw [htk] at hx
      rcases List.mem_append.1 hx with hx | hx
      · exact hz x hx
      · rw [List.mem_singleton.1 hx]; simpa using h1
  · have hlt : k = l.length := by have := of_decide_eq_false hlt; omega
    subst hlt
    rw [List.take_length] at hz
    exact V.retp (.int .i64 (-1)) (by kernel_rfl) (by kernel_rfl) (by rw [findI, findN_all hz, if_neg (Nat.lt_irrefl _)])
theorem findI_neg {l : List Body} {k : Int} : findI l k < 0 ↔ ∀ x ∈ l, x.key ≠ k := by
  constructor
  · intro h x hx he
    unfold findI at h
    split at h
    · omega
    · rename_i h1
      have hle : findN l k ≤ l.length := (List.takeWhile_sublist _).length_le
      have : findN l k = l.length := by omega
      have h3 : ∀ (l : List Body), findN l k = l.length → ∀ x ∈ l, x.key ≠ k := by
        intro l
        induction l with
        | nil => intro _ x hx; cases hx
        | cons y l ih =>
          intro h x hx
          by_cases hy : y.key = k
          · simp [findN, hy] at h
          · have h4 : findN l k = l.length := by simpa [findN, hy] using h
            rcases List.mem_cons.1 hx with rfl | hx
            · exact hy
            · exact ih h4 x hx
      exact h3 l this x hx he
  · intro h
    rw [findI, findN_all h, if_neg (Nat.lt_irrefl _)]
    decide

/-- one round of Put: what stands, and whether the body is in -/
def putStep (b : Body) (s : List Body × Bool) (x : Body) : List Body × Bool :=
  (s.1 ++ (if !s.2 && decide (x.key ≥ b.key) then [b] else []) ++ (if x.key != b.key then [x] else []), s.2 || decide (x.key ≥ b.key))
def putF (b : Body) (gone : Bool) (l : List Body) : List Body × Bool := l.foldl (putStep b) ([], gone)
def putP (b : Body) (gone : Bool) (l : List Body) : List Body := (putF b gone l).1 ++ (if (putF b gone l).2 then [] else [b])
theorem putF_length (b : Body) (gone : Bool) (l : List Body) : (putF b gone l).1.length ≤ 2 * l.length := by
  have : ∀ (l : List Body) (s : List Body × Bool), (l.foldl (putStep b) s).1.length ≤ s.1.length + 2 * l.length := by
    intro l
    induction l with
    | nil => intro s; simp
    | cons x l ih =>
      intro s
      have h1 := ih (putStep b s x)
      have h2 : (putStep b s x).1.length ≤ s.1.length + 2 := by
        unfold putStep
        simp only [List.length_append]
        split <;> split <;> simp
      simp only [List.foldl_cons, List.length_cons]
      omega
  have := this l ([], gone)
  simpa [putF] using this
theorem app_body (out : List Body) (b : Body) : flat Body.cells out ++ b.cells = flat Body.cells (out ++ [b]) := by rw [flat_append]; simp [flat]
theorem rPut_f (l : List Body) (a : Option Addr) (cap : Nat) (b : Body) (gone : Bool) (hn : l.length ≤ 65536) :
    SX (GLS ++ [rowB a cap l]) 49 #[.slice a l.length cap, b.v, .bool gone] [] (fun x : Option Addr × Nat => .slice x.1 (putP b gone l).length x.2) (fun x => [rowB x.1 x.2 (putP b gone l)]) := by
  refine Spec.enter Tryz.func49 (by kernel_rfl) (by kernel_rfl) fun w _ _ => ?_
  refine V.new (fun _ => by kernel_rfl) fun b4 => ?_
  refine V.nilrow 38 10 ?_
  have hpl := putF_length b gone l
  refine V.cut 1 [4, 7, 8] (fun x : Option Addr × Nat => [ptr b4, .slice x.1 (putF b gone l).1.length x.2, .bool (putF b gone l).2]) (fun x => [.blk b4 (.cells b.cells.toArray 38 (0, 0)), rowB x.1 x.2 (putF b gone l).1]) (fun _ => True) (fun F x _ => ?_) (fun after => ?_)
  · unfold putP
    revert hpl
    generalize putF b gone l = s
    obtain ⟨out, done⟩ := s
    intro hpl
    have hpl : out.length ≤ 2 * l.length := hpl
    refine V.ite (!done) (by kernel_rfl) (fun h => ?_) (fun h => ?_)
    · have h : done = false := by simpa using h
      subst h
      refine V.loads [0] (by kernel_rfl) ?_
      refine V.new (fun _ => by kernel_rfl) fun b9 => ?_
      refine V.append 1 2 40 (t := 22) (e := 38) (size := 10) (n := out.length) (m := 1) (b := b9) (c := 1) (T := 38) (v := .slice x.1 out.length x.2) (xs := flat Body.cells out) (cs := b.cells.toArray) (by kernel_rfl) (by kernel_rfl) (by kernel_rfl) (by kernel_rfl) (by kernel_rfl) (by kernel_rfl) (by unfold maxLen; omega) (by omega) fun a' cap' => ?_
      refine V.retx (a', cap') (.slice a' (out.length + 1) cap') (by kernel_rfl) (by kernel_rfl) (by simp) trivial (fun w h => ?_)
      have h2 := h.picked (L' := [.row (.slice a' (out.length + 1) cap') 38 10 (out.length + 1) (flat Body.cells out ++ b.cells)]) [1] (by kernel_rfl) (by kernel_rfl)
      rw [app_body] at h2
      have e : out.length + 1 = (out ++ [b]).length := by simp
      rw [e] at h2
      exact h2
    · have h : done = true := by simpa using h
      subst h
      refine V.retx x (.slice x.1 out.length x.2) (by kernel_rfl) (by kernel_rfl) (by simp) trivial (fun w h => ?_)
      have h2 := h.picked (L' := [rowB x.1 x.2 out]) [1] (by kernel_rfl) (by kernel_rfl)
      simpa using h2
  refine V.loop [0, 4, 7, 8, 9] (fun x : Nat × Option Addr × Nat => [.slice a l.length cap, ptr b4, .slice x.2.1 (putF b gone (l.take x.1)).1.length x.2.2, .bool (putF b gone (l.take x.1)).2, .int .i64 (x.1 : Int)])
    (fun x => [.blk b4 (.cells b.cells.toArray 38 (0, 0)), rowB x.2.1 x.2.2 (putF b gone (l.take x.1)).1]) (fun x => x.1 ≤ l.length) (fun x => l.length - x.1) (0, none, 0) (by kernel_rfl) (by kernel_rfl) (by kernel_rfl) (Nat.zero_le _) ?_
  rintro F ⟨k, ao, co⟩ hk again
  have hk : k ≤ l.length := hk
  refine V.ite (decide ((k : Int) < (l.length : Int))) (by kernel_rfl) (fun hlt => ?_) (fun hlt => ?_)
  · have hlt : k < l.length := by have := of_decide_eq_true hlt; omega
    have hb : l[k]? = some l[k] := List.getElem?_eq_getElem hlt
    have htk := take_succ_get hlt
    revert hb htk
    generalize l[k] = y
    intro hb htk
    have hstep : putF b gone (l.take (k + 1)) = putStep b (putF b gone (l.take k)) y := by rw [htk, putF, putF, List.foldl_append]; rfl
    have hol := putF_length b gone (l.take k)
    rw [List.length_take] at hol
    revert hstep hol
    generalize putF b gone (l.take k) = s
    obtain ⟨out, done⟩ := s
    intro hstep hol
    have hol : out.length ≤ 2 * min k l.length := hol
    refine V.part 1002 k y.cells (.slice a l.length cap) 38 10 l.length (flat Body.cells l) (by kernel_rfl) (by kernel_rfl) hlt (flat_at Body.cells 10 Body.cells_length l k y hb) ?_
    refine V.cut 7 [0, 4, 7, 8, 9, 28] (fun _ : Unit => [.slice a l.length cap, ptr b4, .slice ao out.length co, .bool done, .int .i64 (k : Int), .bool (!done && decide (y.key ≥ b.key))]) (fun _ => [.blk b4 (.cells b.cells.toArray 38 (0, 0)), rowB ao co out]) (fun _ => True) (fun F _ _ => ?_) (fun after => ?_)
    rotate_left
    · cases done with
      | true =>
        refine V.drawn mix (by kernel_rfl) ?_
        refine VD.grd 19 ?_
        refine VD.done (by kernel_rfl) ?_
        exact V.conv (by kernel_rfl) rfl (after () _ trivial (by kernel_rfl) (by kernel_rfl))
      | false =>
        refine V.drawn mix (by kernel_rfl) ?_
        refine VD.grd 19 ?_
        refine VD.loads [0] (by kernel_rfl) ?_
        refine VD.rix 5 1003 k .i64 (.slice a l.length cap) 38 10 l.length (flat Body.cells l) (by kernel_rfl) (by kernel_rfl) (by kernel_rfl) (by kernel_rfl) hlt ?_
        refine VD.loads [2000] (by kernel_rfl) ?_
        refine VD.done (by kernel_rfl) ?_
        exact V.conv (by kernel_rfl) rfl (after () _ trivial (by kernel_rfl) (by kernel_rfl))
    have hq : ∃ out2 done2, out2 = out ++ (if !done && decide (y.key ≥ b.key) then [b] else []) ∧ done2 = (done || decide (y.key ≥ b.key)) := ⟨_, _, rfl, rfl⟩
    obtain ⟨out2, done2, ho2, hd2⟩ := hq
    have hol2 : out2.length ≤ out.length + 1 := by rw [ho2, List.length_append]; split <;> simp
    refine V.cut 6 [0, 4, 7, 8, 9] (fun x : Option Addr × Nat => [.slice a l.length cap, ptr b4, .slice x.1 out2.length x.2, .bool done2, .int .i64 (k : Int)]) (fun x => [.blk b4 (.cells b.cells.toArray 38 (0, 0)), rowB x.1 x.2 out2]) (fun _ => True) (fun F x _ => ?_) (fun after => ?_)
    rotate_left
    · refine V.ite (!done && decide (y.key ≥ b.key)) (by kernel_rfl) (fun h => ?_) (fun h => ?_)
      · rw [if_pos h] at ho2
        have hdt : done2 = true := by
          rw [hd2]; rw [Bool.and_eq_true] at h; rw [h.2, Bool.or_true]
        subst hdt
        refine V.loads [0] (by kernel_rfl) ?_
        refine V.new (fun _ => by kernel_rfl) fun b9 => ?_
        refine V.append 1 2 40 (t := 22) (e := 38) (size := 10) (n := out.length) (m := 1) (b := b9) (c := 1) (T := 38) (v := .slice ao out.length co) (xs := flat Body.cells out) (cs := b.cells.toArray) (by kernel_rfl) (by kernel_rfl) (by kernel_rfl) (by kernel_rfl) (by kernel_rfl) (by kernel_rfl) (by unfold maxLen; omega) (by omega) fun a' cap' => ?_
        refine V.keep [0, 1] (by kernel_rfl) ?_
        have e : out.length + 1 = out2.length := by rw [ho2]; simp
        refine V.norm 7 (.slice a' (out.length + 1) cap') (.slice a' out2.length cap') (by kernel_rfl) (by rw [e]) ?_
        refine V.conv ((show _ = [.blk b4 (.cells b.cells.toArray 38 (0, 0)), .row (.slice a' (out.length + 1) cap') 38 10 (out.length + 1) (flat Body.cells out ++ b.cells)] by kernel_rfl).trans ?_) rfl (after (a', cap') _ trivial (by kernel_rfl) (by kernel_rfl))
        rw [app_body, e, ← ho2]
      · rw [if_neg (by rw [h]; decide), List.append_nil] at ho2
        subst ho2
        refine V.norm 8 (.bool done) (.bool done2) (by kernel_rfl) ?_ ?_
        · rw [hd2]; cases done
          · rw [show (false || decide (y.key ≥ b.key)) = (!false && decide (y.key ≥ b.key)) from rfl, h]
          · rfl
        · exact V.conv (by kernel_rfl) rfl (after (ao, co) _ trivial (by kernel_rfl) (by kernel_rfl))
    have hst : putF b gone (l.take (k + 1)) = (out2 ++ (if y.key != b.key then [y] else []), done2) := by rw [hstep, putStep, ho2, hd2]
    refine V.drawn mix (by kernel_rfl) ?_
    refine VD.loads [0] (by kernel_rfl) ?_
    refine VD.rix 2 1003 k .i64 (.slice a l.length cap) 38 10 l.length (flat Body.cells l) (by kernel_rfl) (by kernel_rfl) (by kernel_rfl) (by kernel_rfl) hlt ?_
    refine VD.loads [2000] (by kernel_rfl) ?_
    refine VD.done (by kernel_rfl) ?_
    refine V.ite (y.key != b.key) (by kernel_rfl) (fun h => ?_) (fun h => ?_)
    · rw [if_pos h] at hst
      refine V.rix 1003 k .i64 (.slice a l.length cap) 38 10 l.length (flat Body.cells l) (by kernel_rfl) (by kernel_rfl) (by kernel_rfl) hlt ?_
      refine V.loads [2000] (by kernel_rfl) ?_
      refine V.unpart ?_
      refine V.new (fun _ => by kernel_rfl) fun b9 => ?_
      refine V.append 1 2 40 (t := 22) (e := 38) (size := 10) (n := out2.length) (m := 1) (b := b9) (c := 1) (T := 38) (v := .slice x.1 out2.length x.2) (xs := flat Body.cells out2) (cs := y.cells.toArray) (by kernel_rfl) (by kernel_rfl) (by kernel_rfl) (by kernel_rfl) (by kernel_rfl) (by kernel_rfl) (by unfold maxLen; omega) (by omega) fun a' cap' => ?_
      refine V.keep [0, 1] (by kernel_rfl) ?_
      refine V.norm 9 (.int .i64 (IntKind.wrap .i64 ((k : Int) + 1))) (.int .i64 ((k + 1 : Nat) : Int)) (by kernel_rfl) (vInt (w64_succ (by omega))) ?_
      have e1 : (putF b gone (l.take (k + 1))).1 = out2 ++ [y] := by rw [hst]
      have e2 : (putF b gone (l.take (k + 1))).2 = done2 := by rw [hst]
      have e : out2.length + 1 = (putF b gone (l.take (k + 1))).1.length := by rw [e1]; simp
      refine V.norm 7 (.slice a' (out2.length + 1) cap') (.slice a' (putF b gone (l.take (k + 1))).1.length cap') (by kernel_rfl) (by rw [e]) ?_
      refine V.norm 8 (.bool done2) (.bool (putF b gone (l.take (k + 1))).2) (by kernel_rfl) (by rw [e2]) ?_
      refine V.conv ((show _ = [.blk b4 (.cells b.cells.toArray 38 (0, 0)), .row (.slice a' (out2.length + 1) cap') 38 10 (out2.length + 1) (flat Body.cells out2 ++ y.cells)] by kernel_rfl).trans ?_) rfl (again (k + 1, a', cap') _ (show k + 1 ≤ l.length by omega) (show l.length - (k + 1) < l.length - k by omega) (by kernel_rfl) (by kernel_rfl))
      rw [app_body, e, ← e1]
    · rw [if_neg (by rw [h]; decide), List.append_nil] at hst
      refine V.unpart ?_
      refine V.norm 9 (.int .i64 (IntKind.wrap .i64 ((k : Int) + 1))) (.int .i64 ((k + 1 : Nat) : Int)) (by kernel_rfl) (vInt (w64_succ (by omega))) ?_
      have e1 : (putF b gone (l.take (k + 1))).1 = out2 := by rw [hst]
      have e2 : (putF b gone (l.take (k + 1))).2 = done2 := by rw [hst]
      refine V.norm 7 (.slice x.1 out2.length x.2) (.slice x.1 (putF b gone (l.take (k + 1))).1.length x.2) (by kernel_rfl) (by rw [e1]) ?_
      refine V.norm 8 (.bool done2) (.bool (putF b gone (l.take (k + 1))).2) (by kernel_rfl) (by rw [e2]) ?_
      refine V.conv ((show _ = [.blk b4 (.cells b.cells.toArray 38 (0, 0)), rowB x.1 x.2 out2] by kernel_rfl).trans ?_) rfl (again (k + 1, x) _ (show k + 1 ≤ l.length by omega) (show l.length - (k + 1) < l.length - k by omega) (by kernel_rfl) (by kernel_rfl))
      rw [← e1]
  · have hlt : k = l.length := by have := of_decide_eq_false hlt; omega
    subst hlt
    have e : l.take l.length = l := List.take_length
    rw [e]
    exact V.conv (by kernel_rfl) rfl (after (ao, co) _ trivial (by kernel_rfl) (by kernel_rfl))

/-- Add: the bodies and the error -/
def addP (l : List Body) (b : Body) : List Body × Int :=
  if chk b ≠ 0 then (l, chk b) else if findI l b.key ≥ 0 then (l, 10) else if (l.length : Int) ≥ 4096 then (l, 12) else (putP b false l, 0)
theorem rAdd_f (l : List Body) (a : Option Addr) (cap : Nat) (b : Body) (hn : l.length ≤ 65536) :
    SX GLS 40 #[.slice a l.length cap, b.v] [rowB a cap l] (fun x : Option Addr × Nat => .tuple #[.slice x.1 (addP l b).1.length x.2, .int .i64 (addP l b).2]) (fun x => [rowB x.1 x.2 (addP l b).1]) := by
  refine Spec.enter Tryz.func40 (by kernel_rfl) (by kernel_rfl) fun w _ _ => ?_
  refine V.new (fun _ => by kernel_rfl) fun b3 => ?_
  refine V.loads [1] (by kernel_rfl) ?_
  refine V.callp (chk_f b) (by kernel_rfl) ?_
  refine V.ite (chk b != 0) (by kernel_rfl) (fun h1 => ?_) (fun h1 => ?_)
  · have e : addP l b = (l, chk b) := by rw [addP, if_pos (by simpa using h1)]
    rw [e]
    exact V.rete (a, cap) (.tuple #[.slice a l.length cap, .int .i64 (chk b)]) [0] (by kernel_rfl) (by kernel_rfl) (by kernel_rfl) (by kernel_rfl) rfl trivial
  refine V.loads [1] (by kernel_rfl) ?_
  refine V.callg [1000, 1001, 0] (rFind_f l a cap b.key (by omega)) (by kernel_rfl) (by kernel_rfl) (by kernel_rfl) ?_
  have h1 : chk b = 0 := by simpa using h1
  refine V.ite (decide (findI l b.key ≥ 0)) (by kernel_rfl) (fun h2 => ?_) (fun h2 => ?_)
  · have e : addP l b = (l, 10) := by rw [addP, if_neg (by simp [h1]), if_pos (of_decide_eq_true h2)]
    rw [e]
    exact V.rete (a, cap) (.tuple #[.slice a l.length cap, .int .i64 10]) [0] (by kernel_rfl) (by kernel_rfl) (by kernel_rfl) (by kernel_rfl) rfl trivial
  refine V.ite (decide ((l.length : Int) ≥ 4096)) (by kernel_rfl) (fun h3 => ?_) (fun h3 => ?_)
  · have e : addP l b = (l, 12) := by rw [addP, if_neg (by simp [h1]), if_neg (of_decide_eq_false h2), if_pos (of_decide_eq_true h3)]
    rw [e]
    exact V.rete (a, cap) (.tuple #[.slice a l.length cap, .int .i64 12]) [0] (by kernel_rfl) (by kernel_rfl) (by kernel_rfl) (by kernel_rfl) rfl trivial
  have e : addP l b = (putP b false l, 0) := by rw [addP, if_neg (by simp [h1]), if_neg (of_decide_eq_false h2), if_neg (of_decide_eq_false h3)]
  rw [e]
  refine V.loads [1] (by kernel_rfl) ?_
  refine V.call0 [1000, 1001, 0] (rPut_f l a cap b false hn) (by kernel_rfl) (by kernel_rfl) (by kernel_rfl) (fun _ _ => trivial) fun x _ => ?_
  exact V.rete x (.tuple #[.slice x.1 (putP b false l).length x.2, .int .i64 0]) [2] (by kernel_rfl) (by kernel_rfl) (by kernel_rfl) (by kernel_rfl) rfl trivial
/-- inserting -/
def insB (b : Body) : List Body → List Body
  | [] => [b]
  | x :: l => if x.key ≥ b.key then b :: x :: l else x :: insB b l
theorem putP_ins {b : Body} {l : List Body} (h : ∀ x ∈ l, x.key ≠ b.key) : putP b false l = insB b l := by
  have h1 : ∀ (l acc : List Body), (∀ x ∈ l, x.key ≠ b.key) → l.foldl (putStep b) (acc, true) = (acc ++ l, true) := by
    intro l
    induction l with
    | nil => intro acc _; simp
    | cons x l ih =>
      intro acc h
      have hx : (x.key != b.key) = true := by simpa using h x (by simp)
      rw [List.foldl_cons, putStep, hx]
      simp only [Bool.not_true, Bool.false_and, Bool.false_eq_true, if_false, List.append_nil, if_true, Bool.true_or]
      rw [ih _ (fun y hy => h y (by simp [hy]))]
      simp
  have h2 : ∀ (l acc : List Body), (∀ x ∈ l, x.key ≠ b.key) → (l.foldl (putStep b) (acc, false)).1 ++ (if (l.foldl (putStep b) (acc, false)).2 then [] else [b]) = acc ++ insB b l := by
    intro l
    induction l with
    | nil => intro acc _; simp [insB]
    | cons x l ih =>
      intro acc h
      have hx : (x.key != b.key) = true := by simpa using h x (by simp)
      have hr : ∀ y ∈ l, y.key ≠ b.key := fun y hy => h y (by simp [hy])
      by_cases hg : x.key ≥ b.key
      · have e : putStep b (acc, false) x = (acc ++ [b] ++ [x], true) := by
          unfold putStep
          rw [hx]
          simp [hg]
        rw [List.foldl_cons, e, h1 _ _ hr, insB, if_pos hg]
        simp
      · have e : putStep b (acc, false) x = (acc ++ [x], false) := by
          unfold putStep
          rw [hx]
          simp [hg]
        rw [List.foldl_cons, e, ih _ hr, insB, if_neg hg]
        simp
  have h3 := h2 l [] h
  rw [List.nil_append] at h3
  unfold putP putF
  rw [← h3]
theorem insB_length (b : Body) : ∀ l : List Body, (insB b l).length = l.length + 1
  | [] => rfl
  | x :: l => by
    rw [insB]
    split
    · rfl
    · simp [insB_length b l]
theorem mem_insB {b x : Body} : ∀ {l : List Body}, x ∈ insB b l ↔ x = b ∨ x ∈ l
  | [] => by simp [insB]
  | y :: l => by
    rw [insB]
    split
    · simp
    · rw [List.mem_cons, mem_insB (l := l), List.mem_cons]
      constructor
      · rintro (h | h | h) <;> simp [h]
      · rintro (h | h | h) <;> simp [h]
theorem Srt_insB {b : Body} : ∀ {l : List Body}, Srt l → (∀ x ∈ l, x.key ≠ b.key) → Srt (insB b l)
  | [], _, _ => by simp [insB, Srt]
  | x :: l, hs, h => by
    have hs2 : (∀ y ∈ l, x.key < y.key) ∧ Srt l := by simpa [Srt] using hs
    have hx := h x (by simp)
    rw [insB]
    split
    · rename_i hg
      have : (∀ y ∈ (x :: l), b.key < y.key) := fun y hy => by
        rcases List.mem_cons.1 hy with rfl | hy
        · omega
        · have := hs2.1 y hy; omega
      unfold Srt at *
      exact List.pairwise_cons.2 ⟨this, hs⟩
    · rename_i hg
      have hi := Srt_insB hs2.2 (fun y hy => h y (by simp [hy]))
      unfold Srt at *
      refine List.pairwise_cons.2 ⟨fun y hy => ?_, hi⟩
      rcases mem_insB.1 hy with rfl | hy
      · omega
      · exact hs2.1 y hy
/-- what Add does -/
theorem addP_cases (l : List Body) (b : Body) : ((addP l b).2 ≠ 0 ∧ (addP l b).1 = l) ∨ (chk b = 0 ∧ (∀ x ∈ l, x.key ≠ b.key) ∧ l.length < 4096 ∧ addP l b = (insB b l, 0)) := by
  unfold addP
  by_cases h1 : chk b = 0
  · rw [if_neg (by simp [h1])]
    by_cases h2 : findI l b.key ≥ 0
    · rw [if_pos h2]; exact .inl ⟨by simp, rfl⟩
    · rw [if_neg h2]
      by_cases h3 : (l.length : Int) ≥ 4096
      · rw [if_pos h3]; exact .inl ⟨by simp, rfl⟩
      · rw [if_neg h3]
        have h4 := findI_neg.1 (by omega : findI l b.key < 0)
        exact .inr ⟨h1, h4, by omega, by rw [putP_ins h4]⟩
  · rw [if_pos h1]; exact .inl ⟨h1, rfl⟩
/-- All -/
def allP (l : List Body) : List Body := l.foldl (fun m b => (addP m b).1) []
theorem addP_length (l : List Body) (b : Body) : (addP l b).1.length ≤ l.length + 1 := by
  rcases addP_cases l b with ⟨_, h⟩ | ⟨_, _, _, h⟩
  · rw [h]; omega
  · rw [h]; simp [insB_length]
theorem allP_length (l : List Body) : (allP l).length ≤ l.length := by
  have : ∀ (l m : List Body), (l.foldl (fun m b => (addP m b).1) m).length ≤ m.length + l.length := by
    intro l
    induction l with
    | nil => intro m; simp
    | cons x l ih =>
      intro m
      have h1 := ih (addP m x).1
      have h2 := addP_length m x
      simp only [List.foldl_cons, List.length_cons]
      omega
  simpa [allP] using this l []
theorem rAll_f (l : List Body) (a : Option Addr) (cap : Nat) (ha : ArgOk a l) (hn : l.length ≤ 4096) :
    SX (GLS ++ [argE a l]) 28 #[.slice a l.length cap] [] (fun x : Option Addr × Nat => .slice x.1 (allP l).length x.2) (fun x => [rowB x.1 x.2 (allP l)]) := by
  refine Spec.enter Tryz.func28 (by kernel_rfl) (by kernel_rfl) fun w _ _ => ?_
  refine V.nilrow 38 10 ?_
  refine V.loop [0, 3, 4] (fun x : Nat × Option Addr × Nat => [.slice a l.length cap, .slice x.2.1 (allP (l.take x.1)).length x.2.2, .int .i64 (x.1 : Int)])
    (fun x => [rowB x.2.1 x.2.2 (allP (l.take x.1))]) (fun x => x.1 ≤ l.length) (fun x => l.length - x.1) (0, none, 0) (by kernel_rfl) (by kernel_rfl) (by kernel_rfl) (Nat.zero_le _) ?_
  rintro F ⟨k, ao, co⟩ hk again
  have hk : k ≤ l.length := hk
  refine V.ite (decide ((k : Int) < (l.length : Int))) (by kernel_rfl) (fun hlt => ?_) (fun hlt => ?_)
  · have hlt : k < l.length := by have := of_decide_eq_true hlt; omega
    have hb : l[k]? = some l[k] := List.getElem?_eq_getElem hlt
    have htk := take_succ_get hlt
    revert hb htk
    generalize l[k] = y
    intro hb htk
    have hstep : allP (l.take (k + 1)) = (addP (allP (l.take k)) y).1 := by rw [htk, allP, allP, List.foldl_append]; rfl
    have hol := allP_length (l.take k)
    rw [List.length_take] at hol
    obtain ⟨g, o, rfl⟩ := ha.some hlt
    refine V.idx g o l.length 10 k .i64 (by kernel_rfl) hlt ?_
    refine V.argpart k (List.mem_append_right _ (List.mem_singleton.2 rfl)) hb ?_
    refine V.loads [2000] (by kernel_rfl) ?_
    refine V.unpart ?_
    refine V.callcg [1000, 1001] 1 (rAdd_f (allP (l.take k)) ao co y (by omega)) (by kernel_rfl) (by kernel_rfl) (by kernel_rfl) (by kernel_rfl) (by kernel_rfl) (fun _ _ => trivial) fun x _ => ?_
    obtain ⟨a', cap'⟩ := x
    refine V.norm 4 (.int .i64 (IntKind.wrap .i64 ((k : Int) + 1))) (.int .i64 ((k + 1 : Nat) : Int)) (by kernel_rfl) (vInt (w64_succ (by omega))) ?_
    refine V.norm 3 (.slice a' (addP (allP (l.take k)) y).1.length cap') (.slice a' (allP (l.take (k + 1))).length cap') (by kernel_rfl) (by rw [hstep]) ?_
    refine V.conv ((show _ = [rowB a' cap' (addP (allP (l.take k)) y).1] by kernel_rfl).trans ?_) rfl (again (k + 1, a', cap') _ (show k + 1 ≤ l.length by omega) (show l.length - (k + 1) < l.length - k by omega) (by kernel_rfl) (by kernel_rfl))
    rw [← hstep]
  · have hlt : k = l.length := by have := of_decide_eq_false hlt; omega
    subst hlt
    have e : l.take l.length = l := List.take_length
    rw [e]
    exact V.rete (ao, co) (.slice ao (allP l).length co) [0] (by kernel_rfl) (by kernel_rfl) (by kernel_rfl) (by kernel_rfl) rfl trivial
end Go.Ev

namespace Go.Ev
open Go Proofs Bil

/-- Sort -/
def refSort (l : List Body) : List Body × Int :=
  if eachP l ≠ 0 then ([], eachP l) else if ((allP l).length : Int) < (l.length : Int) then ([], 10) else (allP l, 0)
theorem rSort_f (l : List Body) (a : Option Addr) (cap : Nat) (ha : ArgOk a l) (hn : l.length ≤ 4096) :
    SX (GLS ++ [argE a l]) 15 #[.slice a l.length cap] [] (fun x : Option Addr × Nat => .tuple #[.slice x.1 (refSort l).1.length x.2, .int .i64 (refSort l).2]) (fun x => [rowB x.1 x.2 (refSort l).1]) := by
  refine Spec.enter Tryz.func15 (by kernel_rfl) (by kernel_rfl) fun w _ _ => ?_
  refine V.callg [1000, 1001, 1002] (rEach_f l a cap ha) (by kernel_rfl) (by kernel_rfl) (by kernel_rfl) ?_
  refine V.ite (eachP l != 0) (by kernel_rfl) (fun h1 => ?_) (fun h1 => ?_)
  · have e : refSort l = ([], eachP l) := by rw [refSort, if_pos (by simpa using h1)]
    rw [e]
    refine V.nilrow 38 10 ?_
    exact V.rete (none, 0) (.tuple #[.slice none 0 0, .int .i64 (eachP l)]) [0] (by kernel_rfl) (by kernel_rfl) (by kernel_rfl) (by kernel_rfl) rfl trivial
  have h1 : eachP l = 0 := by simpa using h1
  refine V.call0 [1000, 1001, 1002] (rAll_f l a cap ha hn) (by kernel_rfl) (by kernel_rfl) (by kernel_rfl) (fun _ _ => trivial) fun x _ => ?_
  refine V.ite (decide (((allP l).length : Int) < (l.length : Int))) (by kernel_rfl) (fun h2 => ?_) (fun h2 => ?_)
  · have e : refSort l = ([], 10) := by rw [refSort, if_neg (by simp [h1]), if_pos (of_decide_eq_true h2)]
    rw [e]
    refine V.nilrow 38 10 ?_
    exact V.rete (none, 0) (.tuple #[.slice none 0 0, .int .i64 10]) [1] (by kernel_rfl) (by kernel_rfl) (by kernel_rfl) (by kernel_rfl) rfl trivial
  have e : refSort l = (allP l, 0) := by rw [refSort, if_neg (by simp [h1]), if_neg (of_decide_eq_false h2)]
  rw [e]
  exact V.rete x (.tuple #[.slice x.1 (allP l).length x.2, .int .i64 0]) [0] (by kernel_rfl) (by kernel_rfl) (by kernel_rfl) (by kernel_rfl) rfl trivial
/-- View -/
def viewP (l : List Body) : List Body × Bool := if (l.length : Int) > 40 then ([], false) else ((refSort l).1, (refSort l).2 == 0)
theorem rView_f (l : List Body) (a : Option Addr) (cap : Nat) (ha : ArgOk a l) :
    SX (GLS ++ [argE a l]) 6 #[.slice a l.length cap] [] (fun x : Option Addr × Nat => .tuple #[.slice x.1 (viewP l).1.length x.2, .bool (viewP l).2]) (fun x => [rowB x.1 x.2 (viewP l).1]) := by
  refine Spec.enter Tryz.func6 (by kernel_rfl) (by kernel_rfl) fun w _ _ => ?_
  refine V.ite (decide ((l.length : Int) > 40)) (by kernel_rfl) (fun h1 => ?_) (fun h1 => ?_)
  · have e : viewP l = ([], false) := by rw [viewP, if_pos (of_decide_eq_true h1)]
    rw [e]
    refine V.nilrow 38 10 ?_
    exact V.rete (none, 0) (.tuple #[.slice none 0 0, .bool false]) [0] (by kernel_rfl) (by kernel_rfl) (by kernel_rfl) (by kernel_rfl) rfl trivial
  have e : viewP l = ((refSort l).1, (refSort l).2 == 0) := by rw [viewP, if_neg (of_decide_eq_false h1)]
  rw [e]
  have h1 := of_decide_eq_false h1
  refine V.call0 [1000, 1001, 1002] (rSort_f l a cap ha (by omega)) (by kernel_rfl) (by kernel_rfl) (by kernel_rfl) (fun _ _ => trivial) fun x _ => ?_
  exact V.rete x (.tuple #[.slice x.1 (refSort l).1.length x.2, .bool ((refSort l).2 == 0)]) [0] (by kernel_rfl) (by kernel_rfl) (by kernel_rfl) (by kernel_rfl) rfl trivial
/-- what View tells of its result -/
structure IsView (v : List Body) : Prop where
  srt : Srt v
  len : v.length ≤ 40
  ok : ∀ b ∈ v, chk b = 0
theorem allP_view {l : List Body} : Srt (allP l) ∧ ∀ b ∈ allP l, b ∈ l ∧ chk b = 0 := by
  have : ∀ (l m : List Body), Srt m → Srt (l.foldl (fun m b => (addP m b).1) m) ∧ ∀ b ∈ l.foldl (fun m b => (addP m b).1) m, b ∈ m ∨ (b ∈ l ∧ chk b = 0) := by
    intro l
    induction l with
    | nil => intro m hm; exact ⟨hm, fun b hb => .inl hb⟩
    | cons x l ih =>
      intro m hm
      rw [List.foldl_cons]
      rcases addP_cases m x with ⟨_, h⟩ | ⟨h1, h2, _, h⟩
      · rw [h]
        refine ⟨(ih m hm).1, fun b hb => ?_⟩
        rcases (ih m hm).2 b hb with h | ⟨h, h'⟩
        · exact .inl h
        · exact .inr ⟨by simp [h], h'⟩
      · rw [h]
        refine ⟨(ih _ (Srt_insB hm h2)).1, fun b hb => ?_⟩
        rcases (ih _ (Srt_insB hm h2)).2 b hb with h | ⟨h, h'⟩
        · rcases mem_insB.1 h with rfl | h
          · exact .inr ⟨by simp, h1⟩
          · exact .inl h
        · exact .inr ⟨by simp [h], h'⟩
  have h := this l [] (by simp [Srt])
  refine ⟨h.1, fun b hb => ?_⟩
  rcases h.2 b hb with h | h
  · cases h
  · exact h
theorem viewP_ok {l : List Body} (h : (viewP l).2 = true) : IsView (viewP l).1 ∧ ∀ b ∈ (viewP l).1, b ∈ l := by
  unfold viewP at *
  split at h
  · cases h
  · rename_i h1
    rw [if_neg h1]
    have h2 : (refSort l).2 = 0 := by simpa using h
    unfold refSort at h2 ⊢
    split at h2
    · rename_i h3; exact absurd h2 h3
    · rename_i h3
      split at h2
      · cases h2
      · rename_i h4
        rw [if_neg h3, if_neg h4]
        have := allP_view (l := l)
        have hl := allP_length l
        exact ⟨⟨this.1, by show (allP l).length ≤ 40; omega, fun b hb => (this.2 b hb).2⟩, fun b hb => (this.2 b hb).1⟩
theorem viewP_len (l : List Body) : (viewP l).1.length ≤ 40 := by
  unfold viewP
  split
  · simp
  · rename_i h1
    unfold refSort
    split
    · simp
    · split
      · simp
      · have := allP_length l; show (allP l).length ≤ 40; omega

/-! ### Same -/
def eqB (x y : Body) : Bool := (x.key == y.key) && ((x.rad == y.rad) && (((x.ax == y.ax) && ((x.ay == y.ay) && true)) && ((x.inv == y.inv) && ((x.bo == y.bo) && (((x.px == y.px) && ((x.py == y.py) && true)) && (((x.vx == y.vx) && ((x.vy == y.vy) && true)) && true))))))
theorem eqB_iff (x y : Body) : eqB x y = true ↔ x = y := by
  constructor
  · intro h
    unfold eqB at h
    simp only [Bool.and_eq_true, beq_iff_eq] at h
    cases x; cases y
    simp_all
  · rintro rfl
    simp [eqB]
def sameP : List Body → List Body → Bool
  | [], [] => true
  | x :: u, y :: v => eqB x y && sameP u v
  | _, _ => false
theorem sameP_iff : ∀ (u v : List Body), sameP u v = true ↔ u = v
  | [], [] => by simp [sameP]
  | [], y :: v => by simp [sameP]
  | x :: u, [] => by simp [sameP]
  | x :: u, y :: v => by simp [sameP, eqB_iff, sameP_iff u v]
theorem rSame_f (u v : List Body) (a c : Option Addr) (cap cc : Nat) (hn : u.length ≤ 1048576) :
    PX [rowB a cap u, rowB c cc v] 10 #[.slice a u.length cap, .slice c v.length cc] (.bool (decide (u = v))) := by
  refine PureFn.enter Tryz.func10 (by kernel_rfl) (by kernel_rfl) fun w => ?_
  refine V.ite ((u.length : Int) != (v.length : Int)) (by kernel_rfl) (fun h => ?_) (fun h => ?_)
  · refine V.retp (.bool false) (by kernel_rfl) (by kernel_rfl) ?_
    have : u ≠ v := fun e => by rw [e] at h; simp at h
    simp [this]
  have hl : u.length = v.length := by
    have : (u.length : Int) = (v.length : Int) := by simpa using h
    omega
  refine V.loop [0, 1, 5] (fun k : Nat => [.slice a u.length cap, .slice c v.length cc, .int .i64 (k : Int)]) (fun _ => []) (fun k => k ≤ u.length ∧ u.take k = v.take k) (fun k => u.length - k) 0 (by kernel_rfl) (by kernel_rfl) rfl ⟨Nat.zero_le _, by simp⟩ ?_
  rintro F k ⟨hk, hz⟩ again
  refine V.ite (decide ((k : Int) < (u.length : Int))) (by kernel_rfl) (fun hlt => ?_) (fun hlt => ?_)
  · have hlt : k < u.length := by have := of_decide_eq_true hlt; omega
    have hltv : k < v.length := by omega
    have hb : u[k]? = some u[k] := List.getElem?_eq_getElem hlt
    have hd : v[k]? = some v[k] := List.getElem?_eq_getElem hltv
    have htk := take_succ_get hlt
    have htv := take_succ_get hltv
    revert hb htk hd htv
    generalize u[k] = x
    generalize v[k] = y
    intro hb hd htk htv
    refine V.part 1003 k y.cells (.slice c v.length cc) 38 10 v.length (flat Body.cells v) (by kernel_rfl) (by kernel_rfl) hltv (flat_at Body.cells 10 Body.cells_length v k y hd) ?_
    refine V.part 1003 k x.cells (.slice a u.length cap) 38 10 u.length (flat Body.cells u) (by kernel_rfl) (by kernel_rfl) hlt (flat_at Body.cells 10 Body.cells_length u k x hb) ?_
    refine V.drawn mix (by kernel_rfl) ?_
    refine VD.rix 2 1004 k .i64 (.slice a u.length cap) 38 10 u.length (flat Body.cells u) (by kernel_rfl) (by kernel_rfl) (by kernel_rfl) (by kernel_rfl) hlt ?_
    refine VD.rix 6 1005 k .i64 (.slice c v.length cc) 38 10 v.length (flat Body.cells v) (by kernel_rfl) (by kernel_rfl) (by kernel_rfl) (by kernel_rfl) hltv ?_
    refine VD.loads [2000, 2001] (by kernel_rfl) ?_
    refine VD.eqs 8 (.bool (!eqB x y)) (by kernel_rfl) (by kernel_rfl) (by kernel_rfl) ?_
    refine VD.done (by kernel_rfl) ?_
    refine V.unpart ?_
    refine V.unpart ?_
    refine V.ite (!eqB x y) (by kernel_rfl) (fun h1 => ?_) (fun h1 => ?_)
    · refine V.retp (.bool false) (by kernel_rfl) (by kernel_rfl) ?_
      have hne : x ≠ y := fun e => by rw [(eqB_iff x y).2 e] at h1; cases h1
      have : u ≠ v := fun e => by rw [e, hd] at hb; exact hne (by injection hb with h; exact h.symm)
      simp [this]
    · have hxy : x = y := (eqB_iff x y).1 (by simpa using h1)
      refine V.norm 5 (.int .i64 (IntKind.wrap .i64 ((k : Int) + 1))) (.int .i64 ((k + 1 : Nat) : Int)) (by kernel_rfl) (vInt (w64_succ (by omega))) ?_
      exact V.conv (L' := []) (by kernel_rfl) rfl (again (k + 1) _ ⟨by omega, by rw [htk, htv, hz, hxy]⟩ (show u.length - (k + 1) < u.length - k by omega) (by kernel_rfl) (by kernel_rfl))
  · have hlt : k = u.length := by have := of_decide_eq_false hlt; omega
    subst hlt
    rw [List.take_length, hl, List.take_length] at hz
    exact V.retp (.bool true) (by kernel_rfl) (by kernel_rfl) (by rw [decide_eq_true hz])
end Go.Ev

namespace Go.Ev
open Go Proofs Bil

def absR (n : Int) : Int := if n < 0 then w32 (0 - n) else n
theorem absR_f (n : Int) : PureFn Tryz.prog GLS 34 #[.int .i32 n] (.int .i32 (absR n)) := by
  refine PureFn.enter Tryz.func34 (by kernel_rfl) (by kernel_rfl) fun w => ?_
  refine V.ite (decide (n < 0)) (by kernel_rfl) (fun h => ?_) (fun h => ?_)
  · exact V.retp (.int .i32 (w32 (0 - n))) (by kernel_rfl) (by kernel_rfl) (by rw [absR, if_pos (of_decide_eq_true h)])
  · exact V.retp (.int .i32 n) (by kernel_rfl) (by kernel_rfl) (by rw [absR, if_neg (of_decide_eq_false h)])
def extR (a r : Int) : Int := w32 (absR a + r)
def boxR (b : Body) : Box := ⟨w32 (b.px - extR b.ax b.rad), w32 (b.py - extR b.ay b.rad), w32 (b.px + extR b.ax b.rad), w32 (b.py + extR b.ay b.rad)⟩
theorem boxR_f (b : Body) : PureFn Tryz.prog GLS 22 #[b.v] (boxR b).v := by
  refine PureFn.enter Tryz.func22 (by kernel_rfl) (by kernel_rfl) fun w => ?_
  refine V.new (fun _ => by kernel_rfl) fun b1 => ?_
  refine V.new (fun _ => by kernel_rfl) fun b2 => ?_
  refine V.drawn mix (by kernel_rfl) ?_
  refine VD.loads [0, 0] (by kernel_rfl) ?_
  refine VD.callp (absR_f b.ax) 3 (by kernel_rfl) (by kernel_rfl) (by kernel_rfl) ?_
  refine VD.done (by kernel_rfl) ?_
  refine V.drawn mix (by kernel_rfl) ?_
  refine VD.loads [0, 0] (by kernel_rfl) ?_
  refine VD.callp (absR_f b.ay) 3 (by kernel_rfl) (by kernel_rfl) (by kernel_rfl) ?_
  refine VD.done (by kernel_rfl) ?_
  refine V.loads [0, 0, 0, 0] (by kernel_rfl) ?_
  refine V.store 1 (by kernel_rfl) (by kernel_rfl) (by kernel_rfl) ?_
  exact V.retlp [1, 1, 1, 1] (boxR b).v (by kernel_rfl) (by kernel_rfl) (by kernel_rfl) rfl
def emptyR (a : Box) : Bool := decide (a.x0 > a.x1) || decide (a.y0 > a.y1)
theorem emptyR_f (a : Box) : PureFn Tryz.prog GLS 33 #[a.v] (.bool (emptyR a)) := by
  refine PureFn.enter Tryz.func33 (by kernel_rfl) (by kernel_rfl) fun w => ?_
  refine V.new (fun _ => by kernel_rfl) fun b1 => ?_
  refine V.loads [0, 0] (by kernel_rfl) ?_
  refine V.grd 8 (decide (a.x0 > a.x1)) (by kernel_rfl) (fun h => ?_) (fun h => ?_)
  · exact V.retp (.bool true) (by kernel_rfl) (by kernel_rfl) (by rw [emptyR, h]; rfl)
  · refine V.loads [0, 0] (by kernel_rfl) ?_
    exact V.retp (.bool (decide (a.y0 > a.y1))) (by kernel_rfl) (by kernel_rfl) (by rw [emptyR, h]; rfl)
def overlapR (a b : Box) : Bool := !(emptyR a || emptyR b) && (((decide (a.x0 ≤ b.x1) && decide (b.x0 ≤ a.x1)) && decide (a.y0 ≤ b.y1)) && decide (b.y0 ≤ a.y1))
theorem overlapR_f (a b : Box) : PureFn Tryz.prog GLS 21 #[a.v, b.v] (.bool (overlapR a b)) := by
  refine PureFn.enter Tryz.func21 (by kernel_rfl) (by kernel_rfl) fun w => ?_
  refine V.new (fun _ => by kernel_rfl) fun b2 => ?_
  refine V.new (fun _ => by kernel_rfl) fun b3 => ?_
  refine V.loads [0] (by kernel_rfl) ?_
  refine V.callp (emptyR_f a) (by kernel_rfl) ?_
  refine V.grd 7 (emptyR a) (by kernel_rfl) (fun h1 => ?_) (fun h1 => ?_)
  · refine V.ifb true true (by kernel_rfl) rfl ?_
    exact V.retp (.bool false) (by kernel_rfl) (by kernel_rfl) (by rw [overlapR, h1]; rfl)
  refine V.loads [1] (by kernel_rfl) ?_
  refine V.callp (emptyR_f b) (by kernel_rfl) ?_
  refine V.ite (emptyR b) (by kernel_rfl) (fun h2 => ?_) (fun h2 => ?_)
  · exact V.retp (.bool false) (by kernel_rfl) (by kernel_rfl) (by rw [overlapR, h1, h2]; rfl)
  refine V.loads [0, 1] (by kernel_rfl) ?_
  refine V.grd 16 (decide (a.x0 ≤ b.x1)) (by kernel_rfl) (fun h3 => ?_) (fun h3 => ?_)
  rotate_left
  · refine V.grdb 23 false false (by kernel_rfl) rfl ?_
    refine V.grdb 30 false false (by kernel_rfl) rfl ?_
    exact V.retp (.bool false) (by kernel_rfl) (by kernel_rfl) (by rw [overlapR, h1, h2, h3]; rfl)
  refine V.loads [1, 0] (by kernel_rfl) ?_
  refine V.grd 23 (decide (b.x0 ≤ a.x1)) (by kernel_rfl) (fun h4 => ?_) (fun h4 => ?_)
  rotate_left
  · refine V.grdb 30 false false (by kernel_rfl) rfl ?_
    exact V.retp (.bool false) (by kernel_rfl) (by kernel_rfl) (by rw [overlapR, h1, h2, h3, h4]; rfl)
  refine V.loads [0, 1] (by kernel_rfl) ?_
  refine V.grd 30 (decide (a.y0 ≤ b.y1)) (by kernel_rfl) (fun h5 => ?_) (fun h5 => ?_)
  rotate_left
  · exact V.retp (.bool false) (by kernel_rfl) (by kernel_rfl) (by rw [overlapR, h1, h2, h3, h4, h5]; rfl)
  refine V.loads [1, 0] (by kernel_rfl) ?_
  exact V.retp (.bool (decide (b.y0 ≤ a.y1))) (by kernel_rfl) (by kernel_rfl) (by rw [overlapR, h1, h2, h3, h4, h5]; rfl)
/-- Lonely, of the body at an index -/
def lonelyI (v : List Body) (j : Nat) : Bool := (List.range v.length).all fun k => k == j || !overlapR (boxR (bodyAt v j)) (boxR (bodyAt v k))
def lonelyP (v : List Body) (key : Int) : Bool := if findN v key < v.length then lonelyI v (findN v key) else false
theorem rLonely_f (v : List Body) (a : Option Addr) (cap : Nat) (key : Int) (hn : v.length ≤ 65536) : PX [rowB a cap v] 11 #[.slice a v.length cap, .int .u32 key] (.bool (lonelyP v key)) := by
  refine PureFn.enter Tryz.func11 (by kernel_rfl) (by kernel_rfl) fun w => ?_
  refine V.callg [1000, 1001, 1002] (rFind_f v a cap key (by omega)) (by kernel_rfl) (by kernel_rfl) (by kernel_rfl) ?_
  by_cases hf : findN v key < v.length
  rotate_left
  · have e : findI v key = -1 := by rw [findI, if_neg hf]
    rw [e]
    refine V.ifb true true (by kernel_rfl) rfl ?_
    exact V.retp (.bool false) (by kernel_rfl) (by kernel_rfl) (by rw [lonelyP, if_neg hf])
  have e : findI v key = (findN v key : Int) := by rw [findI, if_pos hf]
  have e2 : lonelyP v key = lonelyI v (findN v key) := by rw [lonelyP, if_pos hf]
  rw [e, e2]
  revert hf
  generalize findN v key = j
  intro hf
  refine V.ifb (decide ((j : Int) < 0)) false (by kernel_rfl) (by simp) ?_
  refine V.loop [0, 5, 6] (fun k : Nat => [.slice a v.length cap, .int .i64 (j : Int), .int .i64 (k : Int)]) (fun _ => []) (fun k => k ≤ v.length ∧ ∀ i, i < k → (i == j || !overlapR (boxR (bodyAt v j)) (boxR (bodyAt v i))) = true) (fun k => v.length - k) 0 (by kernel_rfl) (by kernel_rfl) rfl ⟨Nat.zero_le _, by simp⟩ ?_
  rintro F k ⟨hk, hz⟩ again
  refine V.ite (decide ((k : Int) < (v.length : Int))) (by kernel_rfl) (fun hlt => ?_) (fun hlt => ?_)
  · have hlt : k < v.length := by have := of_decide_eq_true hlt; omega
    have fin : ∀ S' : St, (k == j || !overlapR (boxR (bodyAt v j)) (boxR (bodyAt v k))) = true → todoOf (A Tryz.prog Tryz.f11 S') = _ → slots (A Tryz.prog Tryz.f11 S') [0, 5, 6] = _ → V _ _ _ _ _ _ _ S' := fun S' hx => again (k + 1) S' ⟨by omega, fun i hi => by
      by_cases hik : i = k
      · rw [hik]; exact hx
      · exact hz i (by omega)⟩ (show v.length - (k + 1) < v.length - k by omega)
    refine V.part 1002 k (bodyAt v k).cells (.slice a v.length cap) 38 10 v.length (flat Body.cells v) (by kernel_rfl) (by kernel_rfl) hlt (flat_at Body.cells 10 Body.cells_length v k _ (bodyAt_get hlt)) ?_
    refine V.part 1003 j (bodyAt v j).cells (.slice a v.length cap) 38 10 v.length (flat Body.cells v) (by kernel_rfl) (by kernel_rfl) hf (flat_at Body.cells 10 Body.cells_length v j _ (bodyAt_get hf)) ?_
    refine V.drawn mix (by kernel_rfl) ?_
    by_cases hkj : k = j
    · subst hkj
      refine VD.norm 21 (.bool ((k : Int) != (k : Int))) (.bool false) (by kernel_rfl) (by simp) ?_
      refine VD.done (by kernel_rfl) ?_
      refine V.ifb false false (by kernel_rfl) rfl ?_
      refine V.unpart ?_
      refine V.unpart ?_
      refine V.norm 6 (.int .i64 (IntKind.wrap .i64 ((k : Int) + 1))) (.int .i64 ((k + 1 : Nat) : Int)) (by kernel_rfl) (vInt (w64_succ (by omega))) ?_
      exact fin _ (by simp) (by kernel_rfl) (by kernel_rfl)
    · refine VD.norm 21 (.bool ((k : Int) != (j : Int))) (.bool true) (by kernel_rfl) (by simpa using (show ¬ (k : Int) = (j : Int) by omega)) ?_
      refine VD.rix 6 1004 j .i64 (.slice a v.length cap) 38 10 v.length (flat Body.cells v) (by kernel_rfl) (by kernel_rfl) (by kernel_rfl) (by kernel_rfl) hf ?_
      refine VD.rix 11 1004 k .i64 (.slice a v.length cap) 38 10 v.length (flat Body.cells v) (by kernel_rfl) (by kernel_rfl) (by kernel_rfl) (by kernel_rfl) hlt ?_
      refine VD.loads [2000, 2001] (by kernel_rfl) ?_
      refine VD.callg [1002, 1003] (boxR_f (bodyAt v j)) (by kernel_rfl) (by kernel_rfl) 8 (by kernel_rfl) (by kernel_rfl) (by kernel_rfl) ?_
      refine VD.callg [1002, 1003] (boxR_f (bodyAt v k)) (by kernel_rfl) (by kernel_rfl) 13 (by kernel_rfl) (by kernel_rfl) (by kernel_rfl) ?_
      refine VD.callg [1002, 1003] (overlapR_f (boxR (bodyAt v j)) (boxR (bodyAt v k))) (by kernel_rfl) (by kernel_rfl) 14 (by kernel_rfl) (by kernel_rfl) (by kernel_rfl) ?_
      refine VD.done (by kernel_rfl) ?_
      refine V.unpart ?_
      refine V.unpart ?_
      refine V.ite (overlapR (boxR (bodyAt v j)) (boxR (bodyAt v k))) (by kernel_rfl) (fun h => ?_) (fun h => ?_)
      · refine V.retp (.bool false) (by kernel_rfl) (by kernel_rfl) ?_
        have : lonelyI v j = false := by
          unfold lonelyI
          rw [List.all_eq_false]
          exact ⟨k, List.mem_range.2 hlt, by simp [hkj, h]⟩
        rw [this]
      · refine V.norm 6 (.int .i64 (IntKind.wrap .i64 ((k : Int) + 1))) (.int .i64 ((k + 1 : Nat) : Int)) (by kernel_rfl) (vInt (w64_succ (by omega))) ?_
        exact fin _ (by simp [h]) (by kernel_rfl) (by kernel_rfl)
  · have hlt : k = v.length := by have := of_decide_eq_false hlt; omega
    subst hlt
    refine V.retp (.bool true) (by kernel_rfl) (by kernel_rfl) ?_
    have : lonelyI v j = true := by
      unfold lonelyI
      rw [List.all_eq_true]
      intro i hi
      exact hz i (List.mem_range.1 hi)
    rw [this]
end Go.Ev

namespace Go.Ev
open Go Proofs Bil

def movX (d : Vec) (b : Body) : Int := w64 (w64 b.px + w64 d.x)
def movY (d : Vec) (b : Body) : Int := w64 (w64 b.py + w64 d.y)
def outB (d : Vec) (b : Body) : Bool := ((decide (movX d b > 1073741824) || decide (movX d b < -1073741824)) || decide (movY d b > 1073741824)) || decide (movY d b < -1073741824)
def moveTo (d : Vec) (b : Body) : Body := ⟨b.key, b.rad, b.ax, b.ay, b.inv, b.bo, w32 (movX d b), w32 (movY d b), b.vx, b.vy⟩
def movedP (v : List Body) (d : Vec) : List Body × Bool := if v.any (outB d) then ([], false) else (v.map (moveTo d), true)
theorem rMoved_f (v : List Body) (a : Option Addr) (cap : Nat) (d : Vec) (hn : v.length ≤ 65536) :
    SX (GLS ++ [rowB a cap v]) 8 #[.slice a v.length cap, d.v] [] (fun x : Option Addr × Nat => .tuple #[.slice x.1 (movedP v d).1.length x.2, .bool (movedP v d).2]) (fun x => [rowB x.1 x.2 (movedP v d).1]) := by
  refine Spec.enter Tryz.func8 (by kernel_rfl) (by kernel_rfl) fun w _ _ => ?_
  refine V.new (fun _ => by kernel_rfl) fun b3 => ?_
  refine V.nilrow 38 10 ?_
  refine V.loop [0, 3, 6, 7] (fun x : Nat × Option Addr × Nat => [.slice a v.length cap, ptr b3, .slice x.2.1 ((v.take x.1).map (moveTo d)).length x.2.2, .int .i64 (x.1 : Int)])
    (fun x => [.blk b3 (.cells #[.int .i32 d.x, .int .i32 d.y] 24 (0, 0)), rowB x.2.1 x.2.2 ((v.take x.1).map (moveTo d))]) (fun x => x.1 ≤ v.length ∧ ∀ b ∈ v.take x.1, outB d b = false) (fun x => v.length - x.1) (0, none, 0) (by kernel_rfl) (by kernel_rfl) (by kernel_rfl) ⟨Nat.zero_le _, by simp⟩ ?_
  rintro F ⟨k, ao, co⟩ ⟨hk, hz⟩ again
  have hk : k ≤ v.length := hk
  have hz : ∀ b ∈ v.take k, outB d b = false := hz
  refine V.ite (decide ((k : Int) < (v.length : Int))) (by kernel_rfl) (fun hlt => ?_) (fun hlt => ?_)
  · have hlt : k < v.length := by have := of_decide_eq_true hlt; omega
    have hb : v[k]? = some v[k] := List.getElem?_eq_getElem hlt
    have htk := take_succ_get hlt
    have hmem : v[k] ∈ v := List.getElem_mem hlt
    revert hb htk hmem
    generalize v[k] = y
    intro hb htk hmem
    have hol : ((v.take k).map (moveTo d)).length = k := by rw [List.length_map, List.length_take]; omega
    refine V.part 1002 k y.cells (.slice a v.length cap) 38 10 v.length (flat Body.cells v) (by kernel_rfl) (by kernel_rfl) hlt (flat_at Body.cells 10 Body.cells_length v k y hb) ?_
    refine V.drawn mix (by kernel_rfl) ?_
    refine VD.loads [0] (by kernel_rfl) ?_
    refine VD.rix 2 1003 k .i64 (.slice a v.length cap) 38 10 v.length (flat Body.cells v) (by kernel_rfl) (by kernel_rfl) (by kernel_rfl) (by kernel_rfl) hlt ?_
    refine VD.loads [8000] (by kernel_rfl) ?_
    refine VD.done (by kernel_rfl) ?_
    refine V.drawn mix (by kernel_rfl) ?_
    refine VD.loads [0] (by kernel_rfl) ?_
    refine VD.rix 2 1003 k .i64 (.slice a v.length cap) 38 10 v.length (flat Body.cells v) (by kernel_rfl) (by kernel_rfl) (by kernel_rfl) (by kernel_rfl) hlt ?_
    refine VD.loads [9000] (by kernel_rfl) ?_
    refine VD.done (by kernel_rfl) ?_
    refine V.norm 8 (.int .i64 (movX d y)) (.int .i64 (movX d y)) (by kernel_rfl) rfl ?_
    refine V.norm 9 (.int .i64 (movY d y)) (.int .i64 (movY d y)) (by kernel_rfl) rfl ?_
    have stop : outB d y = true → movedP v d = ([], false) := fun h => by
      rw [movedP, if_pos (List.any_eq_true.2 ⟨y, hmem, h⟩)]
    refine V.grd 41 (decide (movX d y > 1073741824)) (by kernel_rfl) (fun h1 => ?_) (fun h1 => ?_)
    · rw [stop (by rw [outB, h1]; rfl)]
      refine V.grdb 45 true true (by kernel_rfl) rfl ?_
      refine V.grdb 49 true true (by kernel_rfl) rfl ?_
      refine V.ifb true true (by kernel_rfl) rfl ?_
      refine V.nilrow 38 10 ?_
      exact V.rete (none, 0) (.tuple #[.slice none 0 0, .bool false]) [2] (by kernel_rfl) (by kernel_rfl) (by kernel_rfl) (by kernel_rfl) rfl trivial
    refine V.grd 45 (decide (movX d y < -1073741824)) (by kernel_rfl) (fun h2 => ?_) (fun h2 => ?_)
    · rw [stop (by rw [outB, h2, Bool.or_true]; rfl)]
      refine V.grdb 49 true true (by kernel_rfl) rfl ?_
      refine V.ifb true true (by kernel_rfl) rfl ?_
      refine V.nilrow 38 10 ?_
      exact V.rete (none, 0) (.tuple #[.slice none 0 0, .bool false]) [2] (by kernel_rfl) (by kernel_rfl) (by kernel_rfl) (by kernel_rfl) rfl trivial
    refine V.grd 49 (decide (movY d y > 1073741824)) (by kernel_rfl) (fun h3 => ?_) (fun h3 => ?_)
    · rw [stop (by rw [outB, h3, Bool.or_true]; rfl)]
      refine V.ifb true true (by kernel_rfl) rfl ?_
      refine V.nilrow 38 10 ?_
      exact V.rete (none, 0) (.tuple #[.slice none 0 0, .bool false]) [2] (by kernel_rfl) (by kernel_rfl) (by kernel_rfl) (by kernel_rfl) rfl trivial
    refine V.ite (decide (movY d y < -1073741824)) (by kernel_rfl) (fun h4 => ?_) (fun h4 => ?_)
    · rw [stop (by rw [outB, h4, Bool.or_true])]
      refine V.nilrow 38 10 ?_
      exact V.rete (none, 0) (.tuple #[.slice none 0 0, .bool false]) [2] (by kernel_rfl) (by kernel_rfl) (by kernel_rfl) (by kernel_rfl) rfl trivial
    have hoy : outB d y = false := by rw [outB, h1, h2, h3, h4]; rfl
    refine V.rix 1003 k .i64 (.slice a v.length cap) 38 10 v.length (flat Body.cells v) (by kernel_rfl) (by kernel_rfl) (by kernel_rfl) hlt ?_
    refine V.loads [2000] (by kernel_rfl) ?_
    refine V.unpart ?_
    refine V.new (fun _ => by kernel_rfl) fun b10 => ?_
    refine V.store 2 (by kernel_rfl) (by kernel_rfl) (by kernel_rfl) ?_
    refine V.store 2 (by kernel_rfl) (by kernel_rfl) (by kernel_rfl) ?_
    refine V.loads [2] (by kernel_rfl) ?_
    refine V.new (fun _ => by kernel_rfl) fun b11 => ?_
    refine V.append 1 3 40 (t := 22) (e := 38) (size := 10) (n := ((v.take k).map (moveTo d)).length) (m := 1) (b := b11) (c := 1) (T := 38) (v := .slice ao ((v.take k).map (moveTo d)).length co) (xs := flat Body.cells ((v.take k).map (moveTo d))) (cs := (moveTo d y).cells.toArray) (by kernel_rfl) (by kernel_rfl) (by kernel_rfl) (by kernel_rfl) (by kernel_rfl) (by kernel_rfl) (by unfold maxLen; omega) (by omega) fun a' cap' => ?_
    refine V.keep [0, 1] (by kernel_rfl) ?_
    refine V.norm 7 (.int .i64 (IntKind.wrap .i64 ((k : Int) + 1))) (.int .i64 ((k + 1 : Nat) : Int)) (by kernel_rfl) (vInt (w64_succ (by omega))) ?_
    have e1 : (v.take (k + 1)).map (moveTo d) = (v.take k).map (moveTo d) ++ [moveTo d y] := by rw [htk, List.map_append]; rfl
    have e : ((v.take k).map (moveTo d)).length + 1 = ((v.take (k + 1)).map (moveTo d)).length := by rw [e1]; simp
    refine V.norm 6 (.slice a' (((v.take k).map (moveTo d)).length + 1) cap') (.slice a' ((v.take (k + 1)).map (moveTo d)).length cap') (by kernel_rfl) (by rw [e]) ?_
    refine V.conv ((show _ = [.blk b3 (.cells #[.int .i32 d.x, .int .i32 d.y] 24 (0, 0)), .row (.slice a' (((v.take k).map (moveTo d)).length + 1) cap') 38 10 (((v.take k).map (moveTo d)).length + 1) (flat Body.cells ((v.take k).map (moveTo d)) ++ (moveTo d y).cells)] by kernel_rfl).trans ?_) rfl (again (k + 1, a', cap') _ ⟨show k + 1 ≤ v.length by omega, fun b hb => ?_⟩ (show v.length - (k + 1) < v.length - k by omega) (by kernel_rfl) (by kernel_rfl))
    · rw [app_body, e, ← e1]
    · have hb : b ∈ v.take (k + 1) := hb
      rw [htk] at hb
      rcases List.mem_append.1 hb with hb | hb
      · exact hz b hb
      · rw [List.mem_singleton.1 hb]; exact hoy
  · have hlt : k = v.length := by have := of_decide_eq_false hlt; omega
    subst hlt
    have e : v.take v.length = v := List.take_length
    rw [e]
    rw [e] at hz
    have e2 : movedP v d = (v.map (moveTo d), true) := by
      rw [movedP, if_neg]
      rw [List.any_eq_true]
      rintro ⟨b, hb, h⟩
      rw [hz b hb] at h
      cases h
    rw [e2]
    exact V.rete (ao, co) (.tuple #[.slice ao (v.map (moveTo d)).length co, .bool true]) [1] (by kernel_rfl) (by kernel_rfl) (by kernel_rfl) (by kernel_rfl) rfl trivial
end Go.Ev

namespace Go.Ev
open Go Proofs Bil
def aw0 : Body := ⟨0, 65536, 0, 0, 65536, 0, 0, 0, 0, 0⟩
def aw1 : Body := ⟨1, 65536, 0, 0, 65536, 0, 0, 0, 65536, 0⟩
def aw2 : Body := ⟨2, 65536, 0, 0, 0, 0, 131071, 0, 0, 0⟩
def aw3 : Body := ⟨0, 65536, 0, 0, 0, 0, 0, 0, 0, 0⟩
def awA : Body := ⟨0, 65536, 0, 0, 65536, 0, 0, -16, 0, -1024⟩
def awB : Body := ⟨1, 65536, 0, 0, 65536, 0, 0, -16, 0, -1024⟩
def awC : Body := ⟨0, 65536, 0, 0, 65536, 0, 0, -48, 0, -2048⟩
theorem aw_step0 : stepV [aw0] = [awA] := by kernel_rfl
theorem aw_step1 : stepV [aw1, aw2] = [awB, aw2] := by kernel_rfl
theorem aw_steps : stepsV [aw0] 2 = [awC] := by kernel_rfl
theorem aw_free : freeB aw3 = aw3 := by kernel_rfl
theorem aw_s0 : stepS [aw0] = ⟨0, 0, false⟩ := by kernel_rfl
theorem aw_s1 : stepS [aw1, aw2] = ⟨1, 1, false⟩ := by kernel_rfl
theorem aw_srt0 : Srt [aw0] := by simp [Srt]
theorem aw_srt1 : Srt [aw1, aw2] := by simp [Srt, aw1, aw2]
abbrev st3 (t n : Int) (c : Bool) : Value := .agg #[.int .i64 t, .int .i64 n, .bool c]
theorem aw_f0 (a : Option Addr) (cap : Nat) : SX (GLS ++ [rowB a cap [aw0]]) 9 #[.slice a 1 cap] [] (fun x : Option Addr × Nat => .tuple #[.slice x.1 1 x.2, st3 0 0 false]) (fun x => [rowB x.1 x.2 [awA]]) := by
  have h := step_f [aw0] a cap aw_srt0 (by decide)
  rw [aw_step0, aw_s0] at h
  exact h
theorem aw_f1 (a : Option Addr) (cap : Nat) : SX (GLS ++ [rowB a cap [aw1, aw2]]) 9 #[.slice a 2 cap] [] (fun x : Option Addr × Nat => .tuple #[.slice x.1 2 x.2, st3 1 1 false]) (fun x => [rowB x.1 x.2 [awB, aw2]]) := by
  have h := step_f [aw1, aw2] a cap aw_srt1 (by decide)
  rw [aw_step1, aw_s1] at h
  exact h
theorem aw_f2 (a : Option Addr) (cap : Nat) : SX (GLS ++ [rowB a cap [aw0]]) 13 #[.slice a 1 cap, .int .i64 2] [] (fun x : Option Addr × Nat => .tuple #[.slice x.1 1 x.2, (stepsS [aw0] 2).v]) (fun x => [rowB x.1 x.2 [awC]]) := by
  have h := steps_f [aw0] a cap 2 2 aw_srt0 (by decide) (by decide) (by decide)
  rw [aw_steps] at h
  exact h
theorem aw_fr : PureFn Tryz.prog GLS 12 #[aw3.v] aw3.v := by
  have h := free_f aw3
  rw [aw_free] at h
  exact h
theorem awake20_f : PureFn Tryz.prog GLS 7 #[] (.bool true) := by
  refine PureFn.enter Tryz.func7 (by kernel_rfl) (by kernel_rfl) fun w => ?_
  refine V.new (fun _ => by kernel_rfl) fun b9 => ?_
  refine V.torow 0 b9 1 10 38 aw0.cells.toArray aw0.cells (by kernel_rfl) (by kernel_rfl) rfl (by unfold maxLen; omega) ?_
  refine V.call0 [1000, 1001, 0] (aw_f0 (some ⟨b9, 0, none⟩) 1) (by kernel_rfl) (by kernel_rfl) (by kernel_rfl) (fun _ _ => trivial) fun x _ => ?_
  refine V.new (fun _ => by kernel_rfl) fun b2 => ?_
  refine V.store 2 (by kernel_rfl) (by kernel_rfl) (by kernel_rfl) ?_
  refine V.keep [1, 2] (by kernel_rfl) ?_
  refine V.conv (L' := [rowB x.1 x.2 [awA], .blk b2 (.cells #[.int .i64 0, .int .i64 0, .bool false] 30 (0, 0))]) (by kernel_rfl) rfl ?_
  refine V.new (fun _ => by kernel_rfl) fun b18 => ?_
  refine V.torow 2 b18 2 10 38 (flat Body.cells [aw1, aw2]).toArray (flat Body.cells [aw1, aw2]) (by kernel_rfl) (by kernel_rfl) rfl (by unfold maxLen; omega) ?_
  refine V.call0 [1000, 1001, 2] (aw_f1 (some ⟨b18, 0, none⟩) 2) (by kernel_rfl) (by kernel_rfl) (by kernel_rfl) (fun _ _ => trivial) fun y _ => ?_
  refine V.new (fun _ => by kernel_rfl) fun b4 => ?_
  refine V.store 4 (by kernel_rfl) (by kernel_rfl) (by kernel_rfl) ?_
  refine V.keep [0, 1, 3, 4] (by kernel_rfl) ?_
  refine V.conv (L' := [rowB x.1 x.2 [awA], .blk b2 (.cells #[.int .i64 0, .int .i64 0, .bool false] 30 (0, 0)), rowB y.1 y.2 [awB, aw2], .blk b4 (.cells #[.int .i64 1, .int .i64 1, .bool false] 30 (0, 0))]) (by kernel_rfl) rfl ?_
  refine V.new (fun _ => by kernel_rfl) fun b24 => ?_
  refine V.torow 4 b24 1 10 38 aw0.cells.toArray aw0.cells (by kernel_rfl) (by kernel_rfl) rfl (by unfold maxLen; omega) ?_
  refine V.call0 [1000, 1001, 4] (aw_f2 (some ⟨b24, 0, none⟩) 1) (by kernel_rfl) (by kernel_rfl) (by kernel_rfl) (fun _ _ => trivial) fun z _ => ?_
  refine V.new (fun _ => by kernel_rfl) fun b6 => ?_
  refine V.store 6 (by kernel_rfl) (by kernel_rfl) (by kernel_rfl) ?_
  refine V.keep [0, 1, 2, 3, 5] (by kernel_rfl) ?_
  refine V.conv (L' := [rowB x.1 x.2 [awA], .blk b2 (.cells #[.int .i64 0, .int .i64 0, .bool false] 30 (0, 0)), rowB y.1 y.2 [awB, aw2], .blk b4 (.cells #[.int .i64 1, .int .i64 1, .bool false] 30 (0, 0)), rowB z.1 z.2 [awC]]) (by kernel_rfl) rfl ?_
  refine V.grdb 31 false false (by kernel_rfl) rfl ?_
  refine V.grdb 36 false false (by kernel_rfl) rfl ?_
  refine V.ifb false false (by kernel_rfl) rfl ?_
  refine V.freezeall fun w1 hR => ?_
  refine V.part 1006 0 awC.cells (.slice z.1 1 z.2) 38 10 1 awC.cells (by kernel_rfl) (by kernel_rfl) (by decide) (by kernel_rfl) ?_
  refine V.part 1005 1 aw2.cells (.slice y.1 2 y.2) 38 10 2 (flat Body.cells [awB, aw2]) (by kernel_rfl) (by kernel_rfl) (by decide) (by kernel_rfl) ?_
  refine V.part 1006 0 awB.cells (.slice y.1 2 y.2) 38 10 2 (flat Body.cells [awB, aw2]) (by kernel_rfl) (by kernel_rfl) (by decide) (by kernel_rfl) ?_
  refine V.part 1005 0 awA.cells (.slice x.1 1 x.2) 38 10 1 awA.cells (by kernel_rfl) (by kernel_rfl) (by decide) (by kernel_rfl) ?_
  refine V.rix 1006 0 .i64 (.slice x.1 1 x.2) 38 10 1 awA.cells (by kernel_rfl) (by kernel_rfl) (by kernel_rfl) (by decide) ?_
  refine V.loads [8000] (by kernel_rfl) ?_
  refine V.eqs (.bool true) (by kernel_rfl) (by kernel_rfl) ?_
  refine V.grdb 47 true true (by kernel_rfl) rfl ?_
  refine V.rix 1006 0 .i64 (.slice x.1 1 x.2) 38 10 1 awA.cells (by kernel_rfl) (by kernel_rfl) (by kernel_rfl) (by decide) ?_
  refine V.loads [10000] (by kernel_rfl) ?_
  refine V.eqs (.bool true) (by kernel_rfl) (by kernel_rfl) ?_
  refine V.grdb 55 true true (by kernel_rfl) rfl ?_
  refine V.loads [1007] (by kernel_rfl) ?_
  refine V.eqs (.bool true) (by kernel_rfl) (by kernel_rfl) ?_
  refine V.grdb 60 true true (by kernel_rfl) rfl ?_
  refine V.rix 1008 0 .i64 (.slice y.1 2 y.2) 38 10 2 (flat Body.cells [awB, aw2]) (by kernel_rfl) (by kernel_rfl) (by kernel_rfl) (by decide) ?_
  refine V.loads [10001] (by kernel_rfl) ?_
  refine V.eqs (.bool true) (by kernel_rfl) (by kernel_rfl) ?_
  refine V.grdb 68 true true (by kernel_rfl) rfl ?_
  refine V.rix 1008 1 .i64 (.slice y.1 2 y.2) 38 10 2 (flat Body.cells [awB, aw2]) (by kernel_rfl) (by kernel_rfl) (by kernel_rfl) (by decide) ?_
  refine V.loads [10002] (by kernel_rfl) ?_
  refine V.eqs (.bool true) (by kernel_rfl) (by kernel_rfl) ?_
  refine V.grdb 76 true true (by kernel_rfl) rfl ?_
  refine V.loads [1009] (by kernel_rfl) ?_
  refine V.eqs (.bool true) (by kernel_rfl) (by kernel_rfl) ?_
  refine V.grdb 81 true true (by kernel_rfl) rfl ?_
  refine V.rix 1010 0 .i64 (.slice z.1 1 z.2) 38 10 1 awC.cells (by kernel_rfl) (by kernel_rfl) (by kernel_rfl) (by decide) ?_
  refine V.loads [8003] (by kernel_rfl) ?_
  refine V.eqs (.bool true) (by kernel_rfl) (by kernel_rfl) ?_
  refine V.grdb 89 true true (by kernel_rfl) rfl ?_
  refine V.callg [1004, 1005] aw_fr (by kernel_rfl) (by kernel_rfl) (by kernel_rfl) ?_
  refine V.eqs (.bool true) (by kernel_rfl) (by kernel_rfl) ?_
  exact V.ret (.bool true) (by kernel_rfl) (by kernel_rfl) fun w h => ⟨rfl, (hR _ _ h).sub (List.nil_sublist _)⟩
end Go.Ev

namespace Go.Ev
open Go Proofs Bil

theorem stepsV_add (v : List Body) (a : Nat) : ∀ b, stepsV (stepsV v a) b = stepsV v (a + b)
  | 0 => rfl
  | b + 1 => by rw [stepsV, stepsV_add v a b, ← Nat.add_assoc, stepsV]
theorem steps_length (v : List Body) (k : Nat) : (stepsV v k).length = v.length := len_keys (keys_steps v k)
theorem contacts_cands (v : List Body) : (contacts v).length ≤ (cands v).length := by
  refine Nat.le_trans (List.length_filterMap_le _ _) (Nat.le_trans (List.length_filter_le _ _) ?_)
  rw [(sortP_perm _).length_eq]
  exact Nat.le_refl _
theorem cands_small {v : List Body} (hn : v.length ≤ 40) : (cands v).length ≤ 1600 := by
  have := cands_length v
  have := Nat.mul_le_mul hn hn
  omega
theorem stats_small {v : List Body} (hn : v.length ≤ 40) : ∀ k, k ≤ 1000 → ∃ t c : Nat, (stepsS v k).tests = (t : Int) ∧ (stepsS v k).contacts = (c : Int) ∧ c ≤ t ∧ t ≤ 1600 * k
  | 0, _ => ⟨0, 0, rfl, rfl, Nat.le_refl _, Nat.le_refl _⟩
  | k + 1, hk => by
    obtain ⟨t, c, h1, h2, h3, h4⟩ := stats_small hn k (by omega)
    have hl : (stepsV v k).length ≤ 40 := by rw [steps_length]; exact hn
    have h5 := cands_small hl
    have h6 := contacts_cands (stepsV v k)
    refine ⟨t + (cands (stepsV v k)).length, c + (contacts (stepsV v k)).length, ?_, ?_, by omega, by omega⟩
    · show w64 ((stepsS v k).tests + ((cands (stepsV v k)).length : Int)) = _
      rw [h1, w64_id (by omega) (by omega)]; simp
    · show w64 ((stepsS v k).contacts + ((contacts (stepsV v k)).length : Int)) = _
      rw [h2, w64_id (by omega) (by omega)]; simp
theorem stats_add {v : List Body} (hn : v.length ≤ 40) (a : Nat) : ∀ b, a + b ≤ 1000 → (stepsS v (a + b)).contacts = (stepsS v a).contacts + (stepsS (stepsV v a) b).contacts
  | 0, _ => by show (stepsS v a).contacts = (stepsS v a).contacts + 0; omega
  | b + 1, h => by
    have ih := stats_add hn a b (by omega)
    obtain ⟨t, c, _, h2, _, _⟩ := stats_small hn (a + b) (by omega)
    obtain ⟨t', c', _, h2', _, _⟩ := stats_small (v := stepsV v a) (by rw [steps_length]; exact hn) b (by omega)
    have hl : (stepsV v (a + b)).length ≤ 40 := by rw [steps_length]; exact hn
    have h5 := cands_small hl
    have h6 := contacts_cands (stepsV v (a + b))
    show w64 ((stepsS v (a + b)).contacts + ((contacts (stepsV v (a + b))).length : Int)) = (stepsS v a).contacts + w64 ((stepsS (stepsV v a) b).contacts + ((contacts (stepsV (stepsV v a) b)).length : Int))
    rw [stepsV_add, w64_id (by omega) (by omega), w64_id (by omega) (by omega)]
    omega
theorem stats_clamped {v : List Body} (a : Nat) : ∀ b, (stepsS v (a + b)).clamped = ((stepsS v a).clamped || (stepsS (stepsV v a) b).clamped)
  | 0 => by show (stepsS v a).clamped = ((stepsS v a).clamped || false); rw [Bool.or_false]
  | b + 1 => by
    show ((stepsS v (a + b)).clamped || stepH (stepsV v (a + b))) = ((stepsS v a).clamped || ((stepsS (stepsV v a) b).clamped || stepH (stepsV (stepsV v a) b)))
    rw [stats_clamped a b, stepsV_add, Bool.or_assoc]

theorem same_true {u v : List Body} (a c : Option Addr) (cap cc : Nat) (h : u = v) (hn : u.length ≤ 1048576) :
    PX [rowB a cap u, rowB c cc v] 10 #[.slice a u.length cap, .slice c v.length cc] (.bool true) := by
  have := rSame_f u v a c cap cc hn
  rwa [decide_eq_true h] at this

/-! ### validity -/
theorem inR_iff {n l : Int} (h0 : 0 ≤ l) (h1 : l < 2147483648) : inR n l = true ↔ -l ≤ n ∧ n ≤ l := by
  unfold inR
  rw [w32_id (by omega) (by omega), Bool.and_eq_true, decide_eq_true_iff, decide_eq_true_iff]
  omega
structure Valid (b : Body) : Prop where
  rad : 4096 ≤ b.rad ∧ b.rad ≤ 4194304
  ax : -4194304 ≤ b.ax ∧ b.ax ≤ 4194304
  ay : -4194304 ≤ b.ay ∧ b.ay ≤ 4194304
  inv : 0 ≤ b.inv ∧ b.inv ≤ 1048576
  bo : 0 ≤ b.bo ∧ b.bo ≤ 65536
  px : -1073741824 ≤ b.px ∧ b.px ≤ 1073741824
  py : -1073741824 ≤ b.py ∧ b.py ≤ 1073741824
  vx : -16777216 ≤ b.vx ∧ b.vx ≤ 16777216
  vy : -16777216 ≤ b.vy ∧ b.vy ≤ 16777216
theorem or_false_split {a b : Bool} (h : ¬ (a || b) = true) : a = false ∧ b = false := by
  cases a <;> cases b <;> simp_all
theorem chk_zero (b : Body) : chk b = 0 ↔ Valid b := by
  constructor
  · intro h
    unfold chk at h
    split at h
    · cases h
    split at h
    · cases h
    split at h
    · cases h
    split at h
    · cases h
    split at h
    · cases h
    split at h
    · cases h
    rename_i h1 h2 h3 h4 h5 h6
    have h1 := or_false_split h1
    have h2 := or_false_split h2
    have h3 := or_false_split h3
    have h4 := or_false_split h4
    have h5 := or_false_split h5
    have h6 := or_false_split h6
    simp only [decide_eq_false_iff_not, Bool.not_eq_false'] at h1 h2 h3 h4 h5 h6
    refine ⟨by omega, (inR_iff (by decide) (by decide)).1 h2.1, (inR_iff (by decide) (by decide)).1 h2.2, by omega, by omega, (inR_iff (by decide) (by decide)).1 h5.1, (inR_iff (by decide) (by decide)).1 h5.2, (inR_iff (by decide) (by decide)).1 h6.1, (inR_iff (by decide) (by decide)).1 h6.2⟩
  · intro h
    have e1 : (decide (b.rad < 4096) || decide (b.rad > 4194304)) = false := by have := h.rad; simp; omega
    have e2 : (!inR b.ax 4194304 || !inR b.ay 4194304) = false := by rw [(inR_iff (by decide) (by decide)).2 h.ax, (inR_iff (by decide) (by decide)).2 h.ay]; rfl
    have e3 : (decide (b.inv < 0) || decide (b.inv > 1048576)) = false := by have := h.inv; simp; omega
    have e4 : (decide (b.bo < 0) || decide (b.bo > 65536)) = false := by have := h.bo; simp; omega
    have e5 : (!inR b.px 1073741824 || !inR b.py 1073741824) = false := by rw [(inR_iff (by decide) (by decide)).2 h.px, (inR_iff (by decide) (by decide)).2 h.py]; rfl
    have e6 : (!inR b.vx 16777216 || !inR b.vy 16777216) = false := by rw [(inR_iff (by decide) (by decide)).2 h.vx, (inR_iff (by decide) (by decide)).2 h.vy]; rfl
    unfold chk
    rw [e1, e2, e3, e4, e5, e6]
    rfl
theorem limit_in (n l : Int) (h0 : 0 ≤ l) (h1 : l < 2147483648) : -l ≤ (limit n l).1 ∧ (limit n l).1 ≤ l := by
  unfold limit mx mn
  simp only
  rw [w64_id (by omega) (by omega)]
  split <;> split <;> omega
theorem limit_w32 (n l : Int) (h0 : 0 ≤ l) (h1 : l < 2147483648) : -l ≤ w32 (limit n l).1 ∧ w32 (limit n l).1 ≤ l := by
  have := limit_in n l h0 h1
  rw [w32_id (by omega) (by omega)]
  exact this
theorem valid_fall {b : Body} (h : Valid b) : Valid (fallB b) := by
  unfold fallB
  split
  · exact h
  · exact ⟨h.rad, h.ax, h.ay, h.inv, h.bo, h.px, h.py, h.vx, limit_w32 _ _ (by decide) (by decide)⟩
theorem valid_move {s : Shift} {b : Body} (h : Valid b) : Valid (moveB s b) :=
  ⟨h.rad, h.ax, h.ay, h.inv, h.bo, limit_w32 _ _ (by decide) (by decide), limit_w32 _ _ (by decide) (by decide), h.vx, h.vy⟩
theorem valid_free {b : Body} (h : Valid b) : Valid (freeB b) := valid_move (valid_fall h)
theorem chk_free {b : Body} (h : chk b = 0) : chk (freeB b) = 0 := (chk_zero _).2 (valid_free ((chk_zero b).1 h))
end Go.Ev

namespace Go.Ev
open Go Proofs Bil Go.ChangeShapes Go.WideShapes Go.ChangeAt Go.RowKit

section
variable {H : Type} {enc : TypeId × Value → H} {P : Program}

/-- a struct whose fields are integers of one kind, one cell each -/
def intFields (P : Program) (k : IntKind) (fs : Array Field) : Bool := (List.range fs.size).all fun i => match fs[i]? with
  | some f => f.offset == i && P.cellsOf f.type == 1 && (match P.underlying f.type with | some (.int k') => decide (k' = k) | _ => false)
  | none => false
def structOf (P : Program) (t : TypeId) : Array Field := match P.underlying t with | some (.struct fs) => fs | _ => #[]
def isStructB (P : Program) (t : TypeId) : Bool := match P.underlying t with | some (.struct _) => true | _ => false
theorem structOf_spec {t : TypeId} (h : isStructB P t = true) : P.underlying t = some (.struct (structOf P t)) := by
  unfold isStructB at h
  unfold structOf
  split at h
  · rename_i fs hu; rw [hu]
  · cases h
theorem cells_of_struct {w : World} {base : Nat} {sp : Nat → Bool} {held : Bool} {fuel : Nat} {t : TypeId} {fs : Array Field} {k : IntKind} {cs : List Value} {zs : List Int} {p : List MemPlace}
    (ht : P.underlying t = some (.struct fs)) (hf : intFields P k fs = true) (hct : P.cellsOf t = fs.size) (h : DataW.trod enc P w base sp held fuel t cs = some (.agg (zs.map fun z => .lit (.int k z)), p)) : cs = zs.map (Value.int k) := by
  obtain ⟨xs, n, _, hx, hl, hxl, hi⟩ := DataW.trod_struct ht h
  have hxs : xs.map (·.1) = zs.map fun z => (DataW.lit (.int k z) : DataW H) := by
    have := congrArg Prod.fst hx
    simpa using this.symm
  have hzl : zs.length = fs.size := by
    have := congrArg List.length hxs
    simp at this
    omega
  apply List.ext_getElem?
  intro i
  by_cases hlt : i < fs.size
  · have h1 := List.all_eq_true.1 hf i (List.mem_range.2 hlt)
    rw [Array.getElem?_eq_getElem hlt] at h1
    simp only [Bool.and_eq_true, beq_iff_eq] at h1
    obtain ⟨⟨ho, hc⟩, hk⟩ := h1
    split at hk
    · rename_i k' hu
      have hkk : k' = k := of_decide_eq_true hk
      subst hkk
      have h2 := hi i fs[i] (Array.getElem?_eq_getElem hlt)
      rw [ho, hc, List.getElem?_eq_getElem (by omega)] at h2
      obtain ⟨z, hz, hx2, _⟩ := DataW.trod_int hu h2
      have h3 : cs[i]? = some (.int k' z) := by
        have := congrArg (·[0]?) hz
        simpa [List.getElem?_take, List.getElem?_drop] using this
      have h4 : (xs.map (·.1))[i]? = some (DataW.lit (.int k' z) : DataW H) := by
        rw [List.getElem?_map, List.getElem?_eq_getElem (by omega), hx2]; rfl
      rw [hxs] at h4
      simp only [List.getElem?_map, Option.map_eq_some_iff, DataW.lit.injEq, Lit.int.injEq, true_and] at h4
      obtain ⟨z', hz', rfl⟩ := h4
      rw [h3, List.getElem?_map, hz']
      rfl
    · cases hk
  · rw [List.getElem?_eq_none (by omega), List.getElem?_eq_none (by simp; omega)]
end

/-! ### what the program's variables hold -/
def laidVars : List (String × DataW Unit) := [("billiard/box.none", Proofs.YtpnknnlnkmhgpaaGreatDoor.Rows.laid_billiard_box_none), ("billiard/cell.factors", Proofs.YtpnknnlnkmhgpaaGreatDoor.Rows.laid_billiard_cell_factors)]
theorem var_at {W : World} {name : String} {g : Nat} {cs : Array Value} (hg : Tryz.prog.globalNamed name = some g) (h : W.var? Tryz.prog name = some cs) (t : TypeId) (zs : Array Value) (hlt : g < Tryz.prog.globals.size)
    (h0 : ((begin Tryz.prog (fun _ _ => 0) default).world.heap[g]?).bind Obj.row? = some (zs, t)) (hsh : W.ShapedOpen Tryz.prog) : W.heap[g]? = some (.cells cs t (0, 0)) := by
  obtain ⟨cs', h1, _, _⟩ := hsh.1 g zs t hlt h0
  unfold World.var? at h
  rw [hg] at h
  simp only [Option.bind_some, h1, Option.some.injEq] at h
  rw [h1, h]
theorem gls_of {W : World} (hsh : W.ShapedOpen Tryz.prog) (hL : laidMetH Tryz.prog laidVars W) : Gl GLS W := by
  have hL : laidMet Tryz.prog laidVars W := hL
  obtain ⟨ps, ⟨g, t, cs, fuel, p, q, hg, ht, hvar, hd, ⟨g2, t2, cs2, fuel2, p2, q2, hg2, ht2, hvar2, hd2, _, _⟩, _⟩, _⟩ := hL
  have e1 : Tryz.prog.globalNamed "billiard/box.none" = some 3 := by kernel_rfl
  have e2 : Tryz.prog.globalNamed "billiard/cell.factors" = some 0 := by kernel_rfl
  obtain rfl := Option.some.inj (e1.symm.trans hg)
  obtain rfl := Option.some.inj (e2.symm.trans hg2)
  have t1 : (Tryz.prog.globals[3]?).map (·.type) = some 106 := by kernel_rfl
  have t2' : (Tryz.prog.globals[0]?).map (·.type) = some 169 := by kernel_rfl
  obtain rfl := Option.some.inj (t1.symm.trans ht)
  obtain rfl := Option.some.inj (t2'.symm.trans ht2)
  have c1 : cs.toList = [1, 0, 0, 0].map (Value.int .i32) := cells_of_struct (P := Tryz.prog) (k := .i32) (zs := [1, 0, 0, 0]) (structOf_spec (by kernel_rfl)) (by kernel_rfl) (by kernel_rfl) hd
  have c2 : cs2.toList = [73856093, 19349663].map (Value.int .u32) := Lib.cells_of_tab (P := Tryz.prog) (k := .u32) (zs := [73856093, 19349663]) (n := 2) (e := 36) (by kernel_rfl) (by kernel_rfl) (by kernel_rfl) (by kernel_rfl) hd2
  have h1 := var_at e1 hvar 106 #[.int .i32 0, .int .i32 0, .int .i32 0, .int .i32 0] (of_decide_eq_true (by kernel_rfl)) (by kernel_rfl) hsh
  have h2 := var_at e2 hvar2 169 #[.int .u32 0, .int .u32 0] (of_decide_eq_true (by kernel_rfl)) (by kernel_rfl) hsh
  intro E hE
  simp only [GLS, List.mem_cons, List.not_mem_nil, or_false] at hE
  rcases hE with rfl | rfl
  · show W.heap[3]? = _
    rw [h1, show cs = #[.int .i32 1, .int .i32 0, .int .i32 0, .int .i32 0] from Array.ext' c1]
  · show W.heap[0]? = _
    rw [h2, show cs2 = #[.int .u32 73856093, .int .u32 19349663] from Array.ext' c2]

/-! ### bodies among the arguments -/
structure Fits (b : Body) : Prop where
  key : 0 ≤ b.key ∧ b.key ≤ 4294967295
  rad : -2147483648 ≤ b.rad ∧ b.rad ≤ 2147483647
  ax : -2147483648 ≤ b.ax ∧ b.ax ≤ 2147483647
  ay : -2147483648 ≤ b.ay ∧ b.ay ≤ 2147483647
  inv : -2147483648 ≤ b.inv ∧ b.inv ≤ 2147483647
  bo : -2147483648 ≤ b.bo ∧ b.bo ≤ 2147483647
  px : -2147483648 ≤ b.px ∧ b.px ≤ 2147483647
  py : -2147483648 ≤ b.py ∧ b.py ≤ 2147483647
  vx : -2147483648 ≤ b.vx ∧ b.vx ≤ 2147483647
  vy : -2147483648 ≤ b.vy ∧ b.vy ≤ 2147483647
section
variable {H : Type} {enc : TypeId × Value → H} {P : Program} {w : World} {base : Nat} {sp : Nat → Bool} {held : Bool}
def fieldB (P : Program) (fs : Array Field) (i o : Nat) (k : IntKind) : Bool := match fs[i]? with
  | some f => f.offset == o && P.cellsOf f.type == 1 && (match P.underlying f.type with | some (.int k') => decide (k' = k) | _ => false)
  | none => false
theorem field_int {n : Nat} {fs : Array Field} {cs : List Value} {xs : List (DataW H × List MemPlace)} (hxl : xs.length = fs.size)
    (hi : ∀ (i : Nat) (f : Field), fs[i]? = some f → DataW.trod enc P w base sp held n f.type ((cs.drop f.offset).take (P.cellsOf f.type)) = xs[i]?) (i o : Nat) (k : IntKind) (hb : fieldB P fs i o k = true) :
    ∃ z, cs[o]? = some (.int k z) ∧ (Lit.int k z).wf = true := by
  unfold fieldB at hb
  split at hb
  · rename_i f hf
    simp only [Bool.and_eq_true, beq_iff_eq] at hb
    obtain ⟨⟨ho, hc⟩, hk⟩ := hb
    split at hk
    · rename_i k' hu
      have hkk : k' = k := of_decide_eq_true hk
      subst hkk
      have h2 := hi i f hf
      have hlt : i < xs.length := by rw [hxl]; exact (Array.getElem?_eq_some_iff.1 hf).1
      rw [ho, hc, List.getElem?_eq_getElem hlt] at h2
      obtain ⟨z, hz, _, hw⟩ := DataW.trod_int hu h2
      refine ⟨z, ?_, hw⟩
      have := congrArg (·[0]?) hz
      simpa [List.getElem?_take, List.getElem?_drop] using this
    · cases hk
  · cases hb
def fieldT (P : Program) (fs : Array Field) (i o t : Nat) : Bool := match fs[i]? with
  | some f => f.offset == o && P.cellsOf f.type == 2 && f.type == t
  | none => false
theorem field_vec {n : Nat} {fs : Array Field} {cs : List Value} {xs : List (DataW H × List MemPlace)} (hxl : xs.length = fs.size)
    (hi : ∀ (i : Nat) (f : Field), fs[i]? = some f → DataW.trod enc P w base sp held n f.type ((cs.drop f.offset).take (P.cellsOf f.type)) = xs[i]?) (i o t : Nat) (hb : fieldT P fs i o t = true)
    (hs : isStructB P t = true) (h0 : fieldB P (structOf P t) 0 0 .i32 = true) (h1 : fieldB P (structOf P t) 1 1 .i32 = true) :
    ∃ x y, cs[o]? = some (.int .i32 x) ∧ cs[o + 1]? = some (.int .i32 y) ∧ (Lit.int .i32 x).wf = true ∧ (Lit.int .i32 y).wf = true := by
  unfold fieldT at hb
  split at hb
  · rename_i f hf
    simp only [Bool.and_eq_true, beq_iff_eq] at hb
    obtain ⟨⟨ho, hc⟩, ht⟩ := hb
    have h2 := hi i f hf
    have hlt : i < xs.length := by rw [hxl]; exact (Array.getElem?_eq_some_iff.1 hf).1
    rw [ho, hc, ht, List.getElem?_eq_getElem hlt] at h2
    obtain ⟨ys, m, _, _, _, hyl, hj⟩ := DataW.trod_struct (structOf_spec hs) h2
    obtain ⟨x, hx, wx⟩ := field_int hyl hj 0 0 .i32 h0
    obtain ⟨y, hy, wy⟩ := field_int hyl hj 1 1 .i32 h1
    refine ⟨x, y, ?_, ?_, wx, wy⟩
    · simpa [List.getElem?_take, List.getElem?_drop] using hx
    · simpa [List.getElem?_take, List.getElem?_drop] using hy
  · cases hb
end
theorem body_of {H : Type} {enc : TypeId × Value → H} {w : World} {base : Nat} {sp : Nat → Bool} {held : Bool} {fuel : Nat} {cs : List Value} {x : DataW H × List MemPlace} (h : DataW.trod enc Tryz.prog w base sp held fuel 38 cs = some x) :
    ∃ b : Body, cs = b.cells ∧ Fits b := by
  obtain ⟨xs, n, _, _, hl, hxl, hi⟩ := DataW.trod_struct (structOf_spec (P := Tryz.prog) (t := 38) (by kernel_rfl)) h
  have hl : cs.length = 10 := hl.trans (by kernel_rfl)
  obtain ⟨key, c0, w0⟩ := field_int hxl hi 0 0 .u32 (by kernel_rfl)
  obtain ⟨rad, c1, w1⟩ := field_int hxl hi 1 1 .i32 (by kernel_rfl)
  obtain ⟨ax, ay, c2, c3, w2, w3⟩ := field_vec hxl hi 2 2 24 (by kernel_rfl) (by kernel_rfl) (by kernel_rfl) (by kernel_rfl)
  obtain ⟨inv, c4, w4⟩ := field_int hxl hi 3 4 .i32 (by kernel_rfl)
  obtain ⟨bo, c5, w5⟩ := field_int hxl hi 4 5 .i32 (by kernel_rfl)
  obtain ⟨px, py, c6, c7, w6, w7⟩ := field_vec hxl hi 5 6 24 (by kernel_rfl) (by kernel_rfl) (by kernel_rfl) (by kernel_rfl)
  obtain ⟨vx, vy, c8, c9, w8, w9⟩ := field_vec hxl hi 6 8 24 (by kernel_rfl) (by kernel_rfl) (by kernel_rfl) (by kernel_rfl)
  refine ⟨⟨key, rad, ax, ay, inv, bo, px, py, vx, vy⟩, ?_, ⟨bounds_u32 w0, bounds_i32 w1, bounds_i32 w2, bounds_i32 w3, bounds_i32 w4, bounds_i32 w5, bounds_i32 w6, bounds_i32 w7, bounds_i32 w8, bounds_i32 w9⟩⟩
  apply List.ext_getElem?
  intro i
  by_cases hlt : i < 10
  · have : i = 0 ∨ i = 1 ∨ i = 2 ∨ i = 3 ∨ i = 4 ∨ i = 5 ∨ i = 6 ∨ i = 7 ∨ i = 8 ∨ i = 9 := by omega
    rcases this with rfl | rfl | rfl | rfl | rfl | rfl | rfl | rfl | rfl | rfl
    · exact c0
    · exact c1
    · exact c2
    · exact c3
    · exact c4
    · exact c5
    · exact c6
    · exact c7
    · exact c8
    · exact c9
  · rw [List.getElem?_eq_none (by omega), List.getElem?_eq_none (by rw [Body.cells_length]; omega)]
theorem flat_get10 {l : List Body} {m : Nat} {x : Value} (h : (flat Body.cells l)[m]? = some x) : ∃ b, l[m / 10]? = some b ∧ b.cells[m % 10]? = some x := by
  have hm : m < (flat Body.cells l).length := (List.getElem?_eq_some_iff.1 h).1
  rw [flat_length Body.cells 10 Body.cells_length] at hm
  have hlt : m / 10 < l.length := by omega
  refine ⟨l[m / 10], List.getElem?_eq_getElem hlt, ?_⟩
  have := flat_at Body.cells 10 Body.cells_length l (m / 10) _ (List.getElem?_eq_getElem hlt)
  rw [← this, List.getElem?_take_of_lt (by omega), List.getElem?_drop, show m / 10 * 10 + m % 10 = m by omega]
  exact h
instance : Inhabited Body := ⟨noBody⟩
set_option maxRecDepth 100000 in
/-- a slice of bodies that came in -/
theorem arg_of {H : Type} {enc : TypeId × Value → H} {W : World} {base b0 : Nat} {sp : Nat → Bool} {held : Bool} {r : Go.Reach} {v : Value} {d : DataW H} {ps : List MemPlace} (hval : Value.okWide Tryz.prog W r b0 22 v) (h : DataW.Trod enc Tryz.prog W base sp held 22 v d ps)
    (hpos : 0 < W.heap.size) : ∃ a l cap, v = .slice a (l : List Body).length cap ∧ ArgOk a l ∧ (∀ b ∈ l, Fits b) ∧ (argE a l).holds W := by
  have hu : Tryz.prog.underlying 22 = some (.slice 38) := by kernel_rfl
  have hc : Tryz.prog.cellsOf 38 = 10 := by kernel_rfl
  obtain ⟨a0, n0, c0, rfl⟩ := okWide_slice hu hval
  obtain ⟨fuel, hf⟩ := h
  have e0 : (Value.slice a0 n0 c0).cells.toList = [.slice a0 n0 c0] := rfl
  rw [e0] at hf
  have hnil : ∀ a, (argE a []).holds W := fun a => by
    have : argE a [] = .part 0 0 [] := by cases a <;> rfl
    rw [this]
    exact ⟨hpos, fun k x hk => by simp at hk⟩
  rcases Deep.open_slice hu hf with ⟨h0, _⟩ | ⟨a, len, cap, m, n, D, Pl, h0, _, hle, _, hm, _, hel⟩
  · injection h0 with h0 _
    injection h0 with e1 e2 e3
    subst e1 e2 e3
    exact ⟨none, [], 0, rfl, fun h => absurd rfl h, by simp, hnil _⟩
  · injection h0 with h0 _
    injection h0 with e1 e2 e3
    subst e1 e2 e3
    have hlm : n0 ≤ m := by rw [hm]; split <;> omega
    obtain ⟨f, hfb⟩ := Deep.choose_lt (α := Body) (p := fun i b => Fits b ∧ ∀ j, j < 10 → W.cell? ((a.add (i * 10)).add j) = b.cells[j]?) (n := n0) (fun i hi => by
      obtain ⟨cs', h1, h2⟩ := hel i (by omega)
      rw [hc] at h1
      obtain ⟨b, rfl, hb⟩ := body_of h2
      obtain ⟨_, _, h3⟩ := World.cells?_some h1
      exact ⟨b, hb, h3⟩)
    refine ⟨some a, (List.range n0).map f, c0, by simp, ?_, ?_, ?_⟩
    · intro hne
      have hn : 0 < n0 := by
        cases n0 with
        | zero => simp at hne
        | succ k => omega
      have h1 := (hfb 0 hn).2 0 (by omega)
      have h2 : W.cell? a = (f 0).cells[0]? := by simpa [Addr.add] using h1
      have h3 : a.spot = none := World.cell?_spot (v := .int .u32 (f 0).key) (by rw [h2]; rfl)
      exact ⟨a.block, a.off, by cases a; simp at h3; subst h3; rfl⟩
    · intro b hb
      obtain ⟨i, hi, rfl⟩ := List.mem_map.1 hb
      exact (hfb i (List.mem_range.1 hi)).1
    · by_cases hn : n0 = 0
      · subst hn; exact hnil _
      · obtain ⟨k, rfl⟩ : ∃ k, n0 = k + 1 := ⟨n0 - 1, by omega⟩
        have h1 := (hfb 0 (by omega)).2 0 (by omega)
        have h2 : W.cell? a = (f 0).cells[0]? := by simpa [Addr.add] using h1
        have h3 : a.spot = none := World.cell?_spot (v := .int .u32 (f 0).key) (by rw [h2]; rfl)
        have ha : a = ⟨a.block, a.off, none⟩ := by cases a; simp at h3; subst h3; rfl
        have hcell : ∀ q x, (flat Body.cells ((List.range (k + 1)).map f))[q]? = some x → W.cell? ⟨a.block, a.off + q, none⟩ = some x := fun q x hq => by
          obtain ⟨b, hb, hx⟩ := flat_get10 hq
          rw [List.getElem?_map] at hb
          obtain ⟨i, hi, rfl⟩ := Option.map_eq_some_iff.1 hb
          have hi2 : q / 10 < k + 1 := by have := (List.getElem?_eq_some_iff.1 hi).1; simpa using this
          have hi3 : i = q / 10 := by rw [List.getElem?_eq_getElem (by simpa using hi2)] at hi; simpa using hi.symm
          subst hi3
          have h5 := (hfb (q / 10) hi2).2 (q % 10) (by omega)
          rw [hx] at h5
          have e : (a.add (q / 10 * 10)).add (q % 10) = ⟨a.block, a.off + q, none⟩ := by
            rw [Deep.add_add, show q / 10 * 10 + q % 10 = q by omega]
            unfold Addr.add
            split
            · rename_i h0; rw [h0]; exact ha
            · rfl
          rw [← e]; exact h5
        have he : argE (some a) ((List.range (k + 1)).map f) = .part a.block a.off (flat Body.cells ((List.range (k + 1)).map f)) := by
          cases hl : (List.range (k + 1)).map f with
          | nil => simp at hl
          | cons y l' => rfl
        rw [he]
        refine ⟨?_, hcell⟩
        have h6 := hcell 0 (.int .u32 (f 0).key) (by simp [flat, List.range_succ_eq_map, Body.cells])
        unfold World.cell? at h6
        split at h6
        · rename_i ho; exact (Array.getElem?_eq_some_iff.1 ho).1
        · cases h6
end Go.Ev

namespace Go.Ev
open Go Proofs Bil Go.ChangeShapes Go.WideShapes Go.ChangeAt Go.RowKit

section
variable {H : Type} {enc : TypeId × Value → H} {P : Program}
theorem kept_of_reach {W W' : World} (h : Ev.Reach [] W [] W') {may : MemPlace → Prop} : W.keptBut W' may := by
  refine ⟨h.os, h.output, fun i hi => ?_⟩
  rw [h.old i hi (by simp)]
  cases W.heap[i]? with
  | none => rfl
  | some o => cases o <;> simp
theorem frozen_of_reach {W W' : World} (h : Ev.Reach [] W [] W') {a : Addr} (hb : a.block < W.heap.size) : W'.frozen? a = W.frozen? a := by
  unfold World.frozen?
  rw [h.old a.block hb (by simp)]
theorem same_of_reach {W W' : World} (h : Ev.Reach [] W [] W') {p : MemPlace} (hb : p.block < W.heap.size) : W.sameAt W' p := by
  cases p with
  | cell b off =>
    show W'.cell? _ = W.cell? _
    unfold World.cell?
    rw [h.old b hb (by simp)]
  | map b => exact h.old b hb (by simp)
def readsB (P : Program) (ts : List TypeId) : Bool := ts.all fun t => P.readableRec t && decide (t < P.types.size)
theorem stays_all {W W' : World} {sp : Nat → Bool} (hl : laidOutB P = true) : ∀ {ts : List TypeId} {vs : List Value} {ds : List (DataW H)} {ps : List MemPlace}, readsB P ts = true → DataW.TrodAll enc P W 0 (fun _ => true) true ts vs ds ps →
    (∀ p ∈ ps, W.sameAt W' p) → (∀ p ∈ ps, sp p.block = true) → DataW.TrodAll enc P W' 0 sp true ts vs ds ps
  | [], [], [], _, _, h, _, _ => h
  | t :: ts, v :: vs, d :: ds, ps, hr, h, hs, hsp => by
    obtain ⟨p, q, h1, h2, rfl⟩ := h
    simp only [readsB, List.all_cons, Bool.and_eq_true, decide_eq_true_eq] at hr
    refine ⟨p, q, WideElems.Trod_stays hl hr.1.1 hr.1.2 h1 (fun x hx => hs x (by simp [hx])) (fun x hx => hsp x (by simp [hx])), stays_all hl hr.2 h2 (fun x hx => hs x (by simp [hx])) (fun x hx => hsp x (by simp [hx])), rfl⟩
  | [], _ :: _, _, _, _, h, _, _ => by simp [DataW.TrodAll] at h
  | [], [], _ :: _, _, _, h, _, _ => by simp [DataW.TrodAll] at h
  | _ :: _, [], _, _, _, h, _, _ => by simp [DataW.TrodAll] at h
  | _ :: _, _ :: _, [], _, _, h, _, _ => by simp [DataW.TrodAll] at h
theorem law_post {f : Func} {s : ChangeSpec} {apart fresh handsOn again : Bool} {W W' : World} {args : Array Value} {ds gs : List (DataW H)} {before : List MemPlace} (t4 : TypeId)
    (hW : DataW.Whole enc P f.params.toList s.vars apart W args.toList ds gs before) (hv : s.vars = []) (hs : s.fn H (ds ++ gs) = { results := [.lit (.bool true)], args := ds }) (hr : Ev.Reach [] W [] W')
    (ht : f.resultTypes = #[t4]) (hb : P.underlying t4 = some .bool) (hl : laidOutB P = true) (hrd : readsB P f.params.toList = true) :
    s.post enc P f apart fresh handsOn again W args (.bool true) W' := by
  have hW0 := hW
  have hlt : ∀ p ∈ before, p.block < W.heap.size := fun p hp => by simpa using hW.lt p hp
  obtain ⟨p, q, hA, hV, hpq, hz, hn⟩ := hW
  rw [hv] at hV
  obtain ⟨rfl, rfl⟩ := trodVars_none hV
  have hpb : before = p := by rw [hpq, List.append_nil]
  subst hpb
  have hres : ∀ (b : Nat) (sp : Nat → Bool) (hd : Bool), DataW.TrodAll enc P W' b sp hd f.resultTypes.toList ((Value.bool true).resultList f.resultTypes.size) (s.fn H (ds ++ [])).results [] := fun b sp hd => by
    rw [hs, ht]
    exact trodAll_cons_mk (shut_bool hb _) trodAll_mk0
  have hargs : ∀ sp : Nat → Bool, (∀ x ∈ before, sp x.block = true) → DataW.TrodAll enc P W' 0 sp true f.params.toList args.toList (s.fn H (ds ++ [])).args before := fun sp hsp => by
    rw [hs]
    exact stays_all hl hrd hA (fun x hx => same_of_reach hr (hlt x hx)) hsp
  have hvars : ∀ sp : Nat → Bool, DataW.TrodVars enc P W' sp s.vars (s.fn H (ds ++ [])).vars [] := fun sp => by
    rw [hs, hv]
    rfl
  have hold : ∀ x ∈ before, (fun b => decide (b < W.heap.size)) x.block = true := fun x hx => by simpa using hlt x hx
  refine ⟨ds, [], before, [], before, [], hW0, hres _ _ _, hargs _ hold, hvars _, kept_of_reach hr, fun _ => ?_⟩
  refine ⟨fun j t r h1 h2 => ?_, _, _, ([] ++ before) ++ [], ⟨[] ++ before, [], trodAll_append (hargs _ (fun _ _ => rfl)) (hres _ _ _), hvars _, rfl, ?_, ?_⟩, ?_⟩
  · have hsz : f.resultTypes.size = 1 := by rw [ht]; rfl
    rw [hsz] at h2
    rw [ht] at h1
    cases j with
    | zero =>
      have e1 : t4 = t := by simpa using h1
      have e2 : Value.bool true = r := by simpa [Value.resultList] using h2
      subst e1 e2
      exact okWide_bool_mk hb _
    | succ j => simp at h1
  · intro b off hp
    have hp2 : MemPlace.cell b off ∈ before := by simpa using hp
    rw [frozen_of_reach hr (hlt _ hp2)]
    exact hz b off (by simpa using hp2)
  · intro ha
    have := hn ha
    simpa using this
  · intro x hx _
    simpa using hx
end
end Go.Ev

namespace Go.Ev
open Go Proofs Bil

theorem mem_crow {a : Box} {y : Int} {i : Nat} {c : Vec} : c ∈ crow a y i ↔ c.y = y ∧ (cLo a).x ≤ c.x ∧ c.x < (cLo a).x + (i : Int) := by
  unfold crow
  simp only [List.mem_map, List.mem_range]
  constructor
  · rintro ⟨k, hk, rfl⟩
    exact ⟨rfl, by simp only; omega, by simp only; omega⟩
  · rintro ⟨h1, h2, h3⟩
    refine ⟨(c.x - (cLo a).x).toNat, by omega, ?_⟩
    cases c
    simp only at h1 h2 h3 ⊢
    subst h1
    congr 1
    omega
theorem mem_crows {a : Box} {c : Vec} : ∀ {j : Nat}, c ∈ crows a j ↔ ((cLo a).y ≤ c.y ∧ c.y < (cLo a).y + (j : Int)) ∧ (cLo a).x ≤ c.x ∧ c.x < (cLo a).x + (cnx a : Int)
  | 0 => by simp [crows]; omega
  | j + 1 => by
    rw [crows, List.mem_append, mem_crows (j := j), mem_crow]
    constructor
    · rintro (⟨h1, h2⟩ | ⟨h1, h2⟩)
      · exact ⟨by omega, h2⟩
      · exact ⟨by omega, h2⟩
    · rintro ⟨h1, h2⟩
      by_cases h : c.y = (cLo a).y + (j : Int)
      · exact .inr ⟨h, h2⟩
      · exact .inl ⟨by omega, h2⟩
theorem mem_cellsOf {a : Box} (hne : boxEmpty a = false) {c : Vec} : c ∈ cellsOf a ↔ ((spanLo a).y ≤ c.y ∧ c.y ≤ (spanHi a).y) ∧ (spanLo a).x ≤ c.x ∧ c.x ≤ (spanHi a).x := by
  have e1 : cLo a = spanLo a := by rw [cLo, hne]; rfl
  have e2 : cHi a = spanHi a := by rw [cHi, hne]; rfl
  unfold cellsOf
  rw [hne]
  simp only [Bool.false_eq_true, if_false]
  rw [mem_crows]
  unfold cnx cny
  rw [e1, e2]
  omega
theorem bsFrom_get (n : Nat) : ∀ (v : List Body) (bs : List (List Int)), (bsFrom bs v)[n]? = (bs[n]?).map (fun l => l ++ (v.filter (fun b => decide (n ∈ (cellsOf (boxOf b)).map bucket))).map (·.key))
  | [], bs => by simp [bsFrom]
  | b :: v, bs => by
    have ih := bsFrom_get n v (insG b.key (cellsOf (boxOf b)) bs)
    rw [bsFrom, List.foldl_cons, ← bsFrom, ih, insG, mapI_get, Nat.zero_add, Option.map_map]
    congr 1
    funext l
    simp only [Function.comp]
    by_cases h : n ∈ (cellsOf (boxOf b)).map bucket
    · rw [if_pos h, List.filter_cons_of_pos (by simpa using h)]
      simp
    · rw [if_neg h, List.filter_cons_of_neg (by simpa using h)]
theorem bsOf_get {v : List Body} {n : Nat} (hn : n < 1024) : (bsOf v)[n]? = some ((v.filter (fun b => decide (n ∈ (cellsOf (boxOf b)).map bucket))).map (·.key)) := by
  rw [bsOf, bsFrom_get, bs0, List.getElem?_replicate, if_pos hn]
  simp
theorem bucket_lt (c : Vec) : bucket c < 1024 := by
  unfold bucket
  have := (BitVec.toNat_and (BitVec.ofInt 32 (u32 (u32 c.x * 73856093)) ^^^ BitVec.ofInt 32 (u32 (u32 c.y * 19349663))) 1023#32)
  rw [this]
  exact Nat.lt_of_le_of_lt Nat.and_le_right (by decide)
theorem pairOf_comm (a b : Int) : pairOf a b = pairOf b a := by
  unfold pairOf mn mx
  rcases Int.lt_trichotomy a b with h | h | h
  · rw [if_neg (by omega), if_pos h, if_pos h, if_neg (by omega)]
  · subst h; rfl
  · rw [if_pos h, if_neg (by omega), if_neg (by omega), if_pos h]
/-- two bodies whose boxes have a cell in common are candidates -/
theorem cand_of_cell {v : List Body} {x y : Body} (hx : x ∈ v) (hy : y ∈ v) (hne : x.key ≠ y.key) {c : Vec} (h1 : c ∈ cellsOf (boxOf x)) (h2 : c ∈ cellsOf (boxOf y)) : pairOf x.key y.key ∈ cands v := by
  have hp := pairOf_comm
  rw [cands, mem_putsP, mem_pairsOf]
  have hg := bsOf_get (v := v) (bucket_lt c)
  refine ⟨_, List.mem_of_getElem? hg, ?_⟩
  have m1 : x.key ∈ (v.filter (fun b => decide (bucket c ∈ (cellsOf (boxOf b)).map bucket))).map (·.key) :=
    List.mem_map.2 ⟨x, List.mem_filter.2 ⟨hx, by simpa using ⟨c, h1, rfl⟩⟩, rfl⟩
  have m2 : y.key ∈ (v.filter (fun b => decide (bucket c ∈ (cellsOf (boxOf b)).map bucket))).map (·.key) :=
    List.mem_map.2 ⟨y, List.mem_filter.2 ⟨hy, by simpa using ⟨c, h2, rfl⟩⟩, rfl⟩
  obtain ⟨i, hi, ei⟩ := List.mem_iff_getElem.1 m1
  obtain ⟨j, hj, ej⟩ := List.mem_iff_getElem.1 m2
  rcases Nat.lt_trichotomy i j with h | h | h
  · exact ⟨j, hj, i, h, by rw [ei, ej]; exact Ne.symm hne, by rw [ei, ej, hp]⟩
  · subst h
    exact absurd (ei.symm.trans ej) hne
  · exact ⟨i, hi, j, h, by rw [ei, ej]; exact hne, by rw [ei, ej]⟩
theorem overlap_iff (a b : Box) : overlap a b = true ↔ mx a.x0 b.x0 ≤ mn a.x1 b.x1 ∧ mx a.y0 b.y0 ≤ mn a.y1 b.y1 := by
  unfold overlap boxMeet
  by_cases h : boxEmpty (boxCut a b) = true
  · rw [if_pos h]
    have e : boxEmpty ⟨1, 0, 0, 0⟩ = true := by decide
    rw [e]
    unfold boxEmpty boxCut at h
    simp only [Bool.or_eq_true, decide_eq_true_eq] at h
    constructor
    · intro h; cases h
    · intro h; omega
  · rw [if_neg h]
    have h2 : boxEmpty (boxCut a b) = false := by simpa using h
    rw [h2]
    unfold boxEmpty boxCut at h
    simp only [Bool.or_eq_true, decide_eq_true_eq] at h
    constructor
    · intro _; omega
    · intro _; rfl
theorem mx_le {a b : Int} : a ≤ mx a b ∧ b ≤ mx a b := by unfold mx; split <;> omega
theorem mn_le {a b : Int} : mn a b ≤ a ∧ mn a b ≤ b := by unfold mn; split <;> omega
theorem overlap_cell {a b : Box} (h : overlap a b = true) (ha : boxEmpty a = false) (hb : boxEmpty b = false) : ∃ c, c ∈ cellsOf a ∧ c ∈ cellsOf b := by
  obtain ⟨h1, h2⟩ := (overlap_iff a b).1 h
  refine ⟨cellX ⟨mx a.x0 b.x0, mx a.y0 b.y0⟩, (mem_cellsOf ha).2 ?_, (mem_cellsOf hb).2 ?_⟩
  all_goals
    have k1 := mx_le (a := a.x0) (b := b.x0)
    have k2 := mx_le (a := a.y0) (b := b.y0)
    have k3 := mn_le (a := a.x1) (b := b.x1)
    have k4 := mn_le (a := a.y1) (b := b.y1)
    unfold spanLo spanHi cellX
    simp only
    rw [Int.fdiv_eq_ediv_of_nonneg _ (by decide), Int.fdiv_eq_ediv_of_nonneg _ (by decide), Int.fdiv_eq_ediv_of_nonneg _ (by decide), Int.fdiv_eq_ediv_of_nonneg _ (by decide), Int.fdiv_eq_ediv_of_nonneg _ (by decide), Int.fdiv_eq_ediv_of_nonneg _ (by decide)]
    omega
/-- the box of a valid body, without wraps -/
theorem absv_valid {n : Int} (h : -4194304 ≤ n ∧ n ≤ 4194304) : 0 ≤ absv n ∧ absv n ≤ 4194304 := by
  unfold absv mx
  rw [w32_id (by omega) (by omega)]
  split <;> omega
theorem extX_valid {b : Body} (h : Valid b) : extX b = absv b.ax + b.rad ∧ 4096 ≤ extX b ∧ extX b ≤ 8388608 := by
  have h1 := absv_valid h.ax
  have h2 := h.rad
  have e : extX b = absv b.ax + b.rad := by unfold extX; exact w32_id (by omega) (by omega)
  exact ⟨e, by omega, by omega⟩
theorem extY_valid {b : Body} (h : Valid b) : extY b = absv b.ay + b.rad ∧ 4096 ≤ extY b ∧ extY b ≤ 8388608 := by
  have h1 := absv_valid h.ay
  have h2 := h.rad
  have e : extY b = absv b.ay + b.rad := by unfold extY; exact w32_id (by omega) (by omega)
  exact ⟨e, by omega, by omega⟩
theorem boxOf_valid {b : Body} (h : Valid b) : boxOf b = ⟨b.px - extX b, b.py - extY b, b.px + extX b, b.py + extY b⟩ := by
  have h1 := extX_valid h
  have h2 := extY_valid h
  have h3 := h.px
  have h4 := h.py
  unfold boxOf
  rw [w32_id (by omega) (by omega), w32_id (by omega) (by omega), w32_id (by omega) (by omega), w32_id (by omega) (by omega)]
theorem boxOf_ne {b : Body} (h : Valid b) : boxEmpty (boxOf b) = false := by
  have h1 := extX_valid h
  have h2 := extY_valid h
  rw [boxOf_valid h]
  unfold boxEmpty
  simp only [Bool.or_eq_false_iff, decide_eq_false_iff_not]
  omega
theorem pairOf_lt {a b : Int} (h : a < b) : pairOf a b = ⟨a, b⟩ := by
  unfold pairOf mn mx
  rw [if_neg (by omega), if_pos h]
theorem cands_lt {v : List Body} {p : Pair} (h : p ∈ cands v) : p.lo < p.hi := by
  rw [cands, mem_putsP, mem_pairsOf] at h
  obtain ⟨l, _, i, hi, j, hj, hne, rfl⟩ := h
  rcases Int.lt_trichotomy l[i] (l[j]'(by omega)) with h | h | h
  · rw [pairOf_lt h]; exact h
  · exact absurd h hne
  · rw [pairOf_comm, pairOf_lt h]; exact h
theorem byKey_some {v : List Body} {k : Int} {b : Body} (h : byKey v k = some b) : b ∈ v ∧ b.key = k := by
  unfold byKey at h
  exact ⟨List.mem_of_find?_eq_some h, by simpa using List.find?_some h⟩
/-- pairs.Find finds exactly the pairs whose boxes overlap -/
theorem mem_findP {v : List Body} (hs : Srt v) (hv : ∀ b ∈ v, Valid b) {p : Pair} : p ∈ findP v ↔ ∃ a b, a ∈ v ∧ b ∈ v ∧ a.key < b.key ∧ p = ⟨a.key, b.key⟩ ∧ overlap (boxOf a) (boxOf b) = true := by
  unfold findP
  rw [List.mem_filter, (sortP_perm _).mem_iff]
  constructor
  · rintro ⟨h1, h2⟩
    have hlt := cands_lt h1
    unfold ovP at h2
    cases ha : byKey v p.lo with
    | none => rw [ha] at h2; cases h2
    | some a =>
      cases hb : byKey v p.hi with
      | none => rw [ha, hb] at h2; cases h2
      | some b =>
        rw [ha, hb] at h2
        obtain ⟨ma, ka⟩ := byKey_some ha
        obtain ⟨mb, kb⟩ := byKey_some hb
        refine ⟨a, b, ma, mb, by rw [ka, kb]; exact hlt, ?_, h2⟩
        rw [ka, kb]
  · rintro ⟨a, b, ma, mb, hlt, rfl, ho⟩
    obtain ⟨c, h1, h2⟩ := overlap_cell ho (boxOf_ne (hv a ma)) (boxOf_ne (hv b mb))
    have hc := cand_of_cell ma mb (by omega) h1 h2
    rw [pairOf_lt hlt] at hc
    refine ⟨hc, ?_⟩
    unfold ovP
    rw [byKey_self hs ma, byKey_self hs mb]
    exact ho
theorem findP_nodup (v : List Body) : (findP v).Nodup := by
  have h : (sortP (cands v)).Nodup := (sortP_perm _).nodup_iff.2 (putsP_nodup _)
  exact h.filter _
theorem findP_ext {u v : List Body} (h : ∀ p, p ∈ findP u ↔ p ∈ findP v) : findP u = findP v := by
  refine List.Perm.eq_of_pairwise (fun a b _ _ h1 h2 => parts_P a b ?_ ?_) ((sortP_sorted (cands u)).filter _) ((sortP_sorted (cands v)).filter _) ((List.perm_ext_iff_of_nodup (findP_nodup u) (findP_nodup v)).2 h)
  · simpa using h2
  · simpa using h1
end Go.Ev

namespace Go.Ev
open Go Proofs Bil

/-- the plain law of StepMoves -/
def MovesLaw : Prop := ∀ (v : List Body) (d : Vec), IsView v → -2147483648 ≤ d.x ∧ d.x ≤ 2147483647 → -2147483648 ≤ d.y ∧ d.y ≤ 2147483647 → v.any (outB d) = false → stepH v = false → stepH (v.map (moveTo d)) = false →
  (stepV v).any (outB d) = false ∧ stepV (v.map (moveTo d)) = (stepV v).map (moveTo d) ∧ (contacts v).length = (contacts (v.map (moveTo d))).length
theorem movedP_good {v : List Body} {d : Vec} (h : v.any (outB d) = false) : movedP v d = (v.map (moveTo d), true) := by rw [movedP, h]; rfl
theorem movedP_bad {v : List Body} {d : Vec} (h : v.any (outB d) = true) : movedP v d = ([], false) := by rw [movedP, h]; rfl
theorem keys_moved (v : List Body) (d : Vec) : keys (v.map (moveTo d)) = keys v := by
  unfold keys
  rw [List.map_map]
  rfl
theorem moves20_f (law : MovesLaw) (l : List Body) (a : Option Addr) (cap : Nat) (ha : ArgOk a l) (d : Vec) (hdx : -2147483648 ≤ d.x ∧ d.x ≤ 2147483647) (hdy : -2147483648 ≤ d.y ∧ d.y ≤ 2147483647) :
    PX [argE a l] 3 #[.slice a l.length cap, d.v] (.bool true) := by
  refine PureFn.enter Tryz.func3 (by kernel_rfl) (by kernel_rfl) fun w => ?_
  refine V.new (fun _ => by kernel_rfl) fun b3 => ?_
  refine V.call0 [1000, 1001, 1002] (rView_f l a cap ha) (by kernel_rfl) (by kernel_rfl) (by kernel_rfl) (fun _ _ => trivial) fun xv _ => ?_
  refine V.callg [1000, 1001] awake20_f (by kernel_rfl) (by kernel_rfl) (by kernel_rfl) ?_
  refine V.grdb 22 false false (by kernel_rfl) rfl ?_
  refine V.ite (!(viewP l).2) (by kernel_rfl) (fun h => ?_) (fun h => ?_)
  · refine V.callg [1000, 1001] awake20_f (by kernel_rfl) (by kernel_rfl) (by kernel_rfl) ?_
    exact V.retp (.bool true) (by kernel_rfl) (by kernel_rfl) rfl
  have hview := (viewP_ok (l := l) (by simpa using h)).1
  revert hview
  generalize (viewP l).1 = v
  intro hview
  have hs := hview.srt
  have hlen := hview.len
  refine V.loads [0] (by kernel_rfl) ?_
  have hm := rMoved_f v xv.1 xv.2 d (by omega)
  cases hout : v.any (outB d) with
  | true =>
    rw [movedP_bad hout] at hm
    refine V.call0 [1000, 1001, 1] hm (by kernel_rfl) (by kernel_rfl) (by kernel_rfl) (fun _ _ => trivial) fun x _ => ?_
    refine V.ifb true true (by kernel_rfl) rfl ?_
    exact V.retp (.bool true) (by kernel_rfl) (by kernel_rfl) rfl
  | false =>
    rw [movedP_good hout] at hm
    obtain ⟨u, hu⟩ : ∃ u, u = v.map (moveTo d) := ⟨_, rfl⟩
    rw [← hu] at hm
    have hsu : Srt u := Srt_keys (by rw [hu]; exact keys_moved v d) hs
    have hlu : u.length = v.length := by rw [hu, List.length_map]
    have hlaw := law v d hview hdx hdy hout
    rw [← hu] at hlaw
    refine V.call0 [1000, 1001, 1] hm (by kernel_rfl) (by kernel_rfl) (by kernel_rfl) (fun _ _ => trivial) fun x _ => ?_
    refine V.ifb false false (by kernel_rfl) rfl ?_
    refine V.call0 [1000, 1001, 1] (step_f v xv.1 xv.2 hs (by omega)) (by kernel_rfl) (by kernel_rfl) (by kernel_rfl) (fun _ _ => trivial) fun y _ => ?_
    refine V.new (fun _ => by kernel_rfl) fun b10 => ?_
    refine V.store 4 (by kernel_rfl) (by kernel_rfl) (by kernel_rfl) ?_
    refine V.call0 [1000, 1001, 2] (step_f u x.1 x.2 hsu (by omega)) (by kernel_rfl) (by kernel_rfl) (by kernel_rfl) (fun _ _ => trivial) fun z _ => ?_
    refine V.new (fun _ => by kernel_rfl) fun b12 => ?_
    refine V.store 6 (by kernel_rfl) (by kernel_rfl) (by kernel_rfl) ?_
    refine V.conv (L' := [.blk b3 (.cells #[.int .i32 d.x, .int .i32 d.y] 24 (0, 0)), rowB xv.1 xv.2 v, rowB x.1 x.2 u, rowB y.1 y.2 (stepV v), statE b10 (stepS v), rowB z.1 z.2 (stepV u), statE b12 (stepS u)]) (by kernel_rfl) rfl ?_
    refine V.loads [4] (by kernel_rfl) ?_
    refine V.grd 47 (stepH v) (by kernel_rfl) (fun h1 => ?_) (fun h1 => ?_)
    · refine V.ifb true true (by kernel_rfl) rfl ?_
      exact V.retp (.bool true) (by kernel_rfl) (by kernel_rfl) rfl
    refine V.loads [6] (by kernel_rfl) ?_
    refine V.ite (stepH u) (by kernel_rfl) (fun h2 => ?_) (fun h2 => ?_)
    · exact V.retp (.bool true) (by kernel_rfl) (by kernel_rfl) rfl
    obtain ⟨l1, l2, l3⟩ := hlaw h1 h2
    refine V.loads [0] (by kernel_rfl) ?_
    have hm2 := rMoved_f (stepV v) y.1 y.2 d (by rw [step_length]; omega)
    rw [movedP_good l1, step_length] at hm2
    refine V.call0 [1000, 1001, 3] hm2 (by kernel_rfl) (by kernel_rfl) (by kernel_rfl) (fun _ _ => trivial) fun q _ => ?_
    refine V.grdb 58 true true (by kernel_rfl) rfl ?_
    have hsame := same_true (u := stepV u) (v := (stepV v).map (moveTo d)) z.1 q.1 z.2 q.2 l2 (by rw [step_length]; omega)
    rw [step_length] at hsame
    refine V.callg [1000, 1001, 5, 7] hsame (by kernel_rfl) (by kernel_rfl) (by kernel_rfl) ?_
    refine V.grdb 63 true true (by kernel_rfl) rfl ?_
    refine V.loads [4, 6] (by kernel_rfl) ?_
    refine V.retp (.bool (((contacts v).length : Int) == ((contacts u).length : Int))) (by kernel_rfl) (by kernel_rfl) ?_
    rw [l3]
    simp
end Go.Ev

namespace Go.Ev
open Go Proofs Bil

def mv (d p : Vec) : Vec := ⟨p.x + d.x, p.y + d.y⟩
/-- coordinates of ends of valid bodies -/
structure InB (p : Vec) : Prop where
  x : -1077936128 ≤ p.x ∧ p.x ≤ 1077936128
  y : -1077936128 ≤ p.y ∧ p.y ≤ 1077936128
theorem dfx_eq {a b : Vec} (ha : InB a) (hb : InB b) : dfx a b = b.x - a.x := by
  have := ha.x; have := hb.x
  unfold dfx
  rw [w64_id (x := b.x) (by omega) (by omega), w64_id (x := a.x) (by omega) (by omega), w64_id (by omega) (by omega)]
theorem dfy_eq {a b : Vec} (ha : InB a) (hb : InB b) : dfy a b = b.y - a.y := by
  have := ha.y; have := hb.y
  unfold dfy
  rw [w64_id (x := b.y) (by omega) (by omega), w64_id (x := a.y) (by omega) (by omega), w64_id (by omega) (by omega)]
theorem dfx_mv {a b d : Vec} (ha : InB a) (hb : InB b) (ha2 : InB (mv d a)) (hb2 : InB (mv d b)) : dfx (mv d a) (mv d b) = dfx a b := by
  rw [dfx_eq ha hb, dfx_eq ha2 hb2]; unfold mv; simp only; omega
theorem dfy_mv {a b d : Vec} (ha : InB a) (hb : InB b) (ha2 : InB (mv d a)) (hb2 : InB (mv d b)) : dfy (mv d a) (mv d b) = dfy a b := by
  rw [dfy_eq ha hb, dfy_eq ha2 hb2]; unfold mv; simp only; omega
/-- a segment within bounds, also when moved -/
structure Seg (d p q : Vec) : Prop where
  ip : InB p
  iq : InB q
  mp : InB (mv d p)
  mq : InB (mv d q)
  lx : -8388608 ≤ q.x - p.x ∧ q.x - p.x ≤ 8388608
  ly : -8388608 ≤ q.y - p.y ∧ q.y - p.y ≤ 8388608
theorem sq_bound {a : Int} (h : -8388608 ≤ a ∧ a ≤ 8388608) : 0 ≤ a * a ∧ a * a ≤ 70368744177664 := by
  constructor
  · rcases Int.le_total 0 a with h0 | h0
    · exact Int.mul_nonneg h0 h0
    · exact Int.mul_nonneg_of_nonpos_of_nonpos h0 h0
  · rcases Int.le_total 0 a with h0 | h0
    · exact Int.mul_le_mul h.2 h.2 h0 (by decide)
    · have h2 : -a ≤ 8388608 := by omega
      have h3 : 0 ≤ -a := by omega
      have h4 : -a * -a ≤ 8388608 * 8388608 := Int.mul_le_mul h2 h2 h3 (by decide)
      rw [Int.neg_mul_neg] at h4
      exact h4
theorem parD_nonneg {d p q : Vec} (h : Seg d p q) : 0 ≤ parD p q := by
  unfold parD
  rw [dfx_eq h.ip h.iq, dfy_eq h.ip h.iq]
  have h1 := sq_bound h.lx
  have h2 := sq_bound h.ly
  rw [w64_id (x := (q.x - p.x) * (q.x - p.x)) (by omega) (by omega), w64_id (x := (q.y - p.y) * (q.y - p.y)) (by omega) (by omega), w64_id (by omega) (by omega)]
  omega
theorem parN_bound {p q c : Vec} (h : 0 ≤ parD p q) : 0 ≤ parN p q c ∧ parN p q c ≤ parD p q := by
  unfold parN
  generalize w64 (w64 (dfx p c * dfx p q) + w64 (dfy p c * dfy p q)) = X
  unfold mx mn
  split <;> split <;> omega
/-- a part of a length -/
theorem part_bound {a b c : Int} (hc : 0 < c) (h0 : 0 ≤ b) (h1 : b ≤ c) (ha : -8388608 ≤ a ∧ a ≤ 8388608) : (0 ≤ (mulDiv a b c).1 ∧ (mulDiv a b c).1 ≤ a) ∨ (a ≤ (mulDiv a b c).1 ∧ (mulDiv a b c).1 ≤ 0) := by
  have e : fl (a * b) c = a * b / c := by unfold fl; rw [if_neg (by omega)]
  have hin : (0 ≤ a * b / c ∧ a * b / c ≤ a) ∨ (a ≤ a * b / c ∧ a * b / c ≤ 0) := by
    rcases Int.le_total 0 a with h | h
    · left
      exact ⟨Int.ediv_nonneg (Int.mul_nonneg h h0) (by omega), Int.ediv_le_of_le_mul hc (Int.mul_le_mul_of_nonneg_left h1 h)⟩
    · right
      refine ⟨Int.le_ediv_of_mul_le hc (Int.mul_le_mul_of_nonpos_left h h1), ?_⟩
      exact Int.ediv_nonpos_of_nonpos_of_neg (Int.mul_nonpos_of_nonpos_of_nonneg h h0) hc
  unfold mulDiv
  rw [if_neg (by omega), e]
  have h64 : in64 (a * b / c) = true := by
    unfold in64
    rw [Bool.and_eq_true, decide_eq_true_iff, decide_eq_true_iff]
    omega
  rw [if_pos h64]
  exact hin
/-- the nearest point of a segment moves along -/
theorem near_mv {d p q c : Vec} (h : Seg d p q) (hc : InB c) (hc2 : InB (mv d c)) : nearest (mv d p) (mv d q) (mv d c) = mv d (nearest p q c) ∧ InB (nearest p q c) ∧ InB (mv d (nearest p q c)) := by
  have e1 : parD (mv d p) (mv d q) = parD p q := by unfold parD; rw [dfx_mv h.ip h.iq h.mp h.mq, dfy_mv h.ip h.iq h.mp h.mq]
  have e2 : parN (mv d p) (mv d q) (mv d c) = parN p q c := by
    unfold parN
    rw [e1, dfx_mv h.ip h.iq h.mp h.mq, dfy_mv h.ip h.iq h.mp h.mq, dfx_mv h.ip hc h.mp hc2, dfy_mv h.ip hc h.mp hc2]
  have hn := parD_nonneg h
  by_cases h0 : parD p q = 0
  · have a1 : nearest p q c = p := by unfold nearest; rw [if_pos h0]
    have a2 : nearest (mv d p) (mv d q) (mv d c) = mv d p := by unfold nearest; rw [e1, if_pos h0]
    rw [a1, a2]
    exact ⟨rfl, h.ip, h.mp⟩
  · have hb := parN_bound (c := c) hn
    have bx := part_bound (a := dfx p q) (b := parN p q c) (c := parD p q) (by omega) hb.1 hb.2 (by rw [dfx_eq h.ip h.iq]; exact h.lx)
    have by' := part_bound (a := dfy p q) (b := parN p q c) (c := parD p q) (by omega) hb.1 hb.2 (by rw [dfy_eq h.ip h.iq]; exact h.ly)
    have a1 : nearest p q c = ⟨w32 (p.x + w32 (mulDiv (dfx p q) (parN p q c) (parD p q)).1), w32 (p.y + w32 (mulDiv (dfy p q) (parN p q c) (parD p q)).1)⟩ := by unfold nearest; rw [if_neg h0]
    have a2 : nearest (mv d p) (mv d q) (mv d c) = ⟨w32 ((mv d p).x + w32 (mulDiv (dfx p q) (parN p q c) (parD p q)).1), w32 ((mv d p).y + w32 (mulDiv (dfy p q) (parN p q c) (parD p q)).1)⟩ := by
      unfold nearest
      rw [e1, e2, if_neg h0, dfx_mv h.ip h.iq h.mp h.mq, dfy_mv h.ip h.iq h.mp h.mq]
    rw [a1, a2]
    rw [dfx_eq h.ip h.iq] at bx ⊢
    rw [dfy_eq h.ip h.iq] at by' ⊢
    revert bx by'
    generalize (mulDiv (q.x - p.x) (parN p q c) (parD p q)).1 = X
    generalize (mulDiv (q.y - p.y) (parN p q c) (parD p q)).1 = Y
    intro bx by'
    have := h.ip.x; have := h.ip.y; have := h.iq.x; have := h.iq.y
    have m1 := h.mp.x; have m2 := h.mp.y; have m3 := h.mq.x; have m4 := h.mq.y
    have := h.lx; have := h.ly
    unfold mv at m1 m2 m3 m4 ⊢
    simp only at m1 m2 m3 m4 ⊢
    rw [w32_id (x := X) (by omega) (by omega), w32_id (x := Y) (by omega) (by omega), w32_id (x := p.x + X) (by omega) (by omega), w32_id (x := p.y + Y) (by omega) (by omega), w32_id (x := p.x + d.x + X) (by omega) (by omega), w32_id (x := p.y + d.y + Y) (by omega) (by omega)]
    refine ⟨?_, ⟨by simp only; omega, by simp only; omega⟩, ⟨by simp only; omega, by simp only; omega⟩⟩
    congr 1 <;> omega
theorem sq_le {n : Int} (h : -2155872256 ≤ n ∧ n ≤ 2155872256) : 0 ≤ n * n ∧ n * n ≤ 4647785184190529536 := by
  constructor
  · rcases Int.le_total 0 n with h0 | h0
    · exact Int.mul_nonneg h0 h0
    · exact Int.mul_nonneg_of_nonpos_of_nonpos h0 h0
  · rcases Int.le_total 0 n with h0 | h0
    · exact Int.mul_le_mul h.2 h.2 h0 (by decide)
    · have h2 : -n ≤ 2155872256 := by omega
      have h3 : 0 ≤ -n := by omega
      have h4 : -n * -n ≤ 2155872256 * 2155872256 := Int.mul_le_mul h2 h2 h3 (by decide)
      rw [Int.neg_mul_neg] at h4
      exact h4
theorem square_eq {n : Int} (h : -2155872256 ≤ n ∧ n ≤ 2155872256) : square n = n * n := by
  have hs := sq_le h
  unfold square
  split
  · rw [w64_id (x := 0 - n) (by omega) (by omega), u64_id (x := 0 - n) (by omega) (by omega), show (0 - n) * (0 - n) = n * n by rw [Int.zero_sub, Int.neg_mul_neg], u64_id (by omega) (by omega)]
  · rw [u64_id (x := n) (by omega) (by omega), u64_id (by omega) (by omega)]
theorem lenSq_lt {a b : Vec} (ha : InB a) (hb : InB b) : lengthSq (dfx a b) (dfy a b) < 18446744073709551615 := by
  rw [dfx_eq ha hb, dfy_eq ha hb]
  have := ha.x; have := ha.y; have := hb.x; have := hb.y
  have h1 := sq_le (n := b.x - a.x) (by omega)
  have h2 := sq_le (n := b.y - a.y) (by omega)
  unfold lengthSq
  rw [square_eq (by omega), square_eq (by omega), u64_id (by omega) (by omega)]
  omega
def mvC (d : Vec) (s : Cho) : Cho := ⟨mv d s.a, mv d s.b, s.d⟩
structure Pt (d p : Vec) : Prop where
  i : InB p
  m : InB (mv d p)
structure PtC (d : Vec) (s : Cho) : Prop where
  a : Pt d s.a
  b : Pt d s.b
theorem consider_mv {d x y : Vec} {s : Cho} (hs : PtC d s) (hx : Pt d x) (hy : Pt d y) : consider (mvC d s) (mv d x) (mv d y) = mvC d (consider s x y) ∧ PtC d (consider s x y) := by
  unfold consider
  rw [dfx_mv hx.i hy.i hx.m hy.m, dfy_mv hx.i hy.i hx.m hy.m]
  have e : (mvC d s).d = s.d := rfl
  rw [e]
  split
  · exact ⟨rfl, hx, hy⟩
  · exact ⟨rfl, hs⟩
theorem near_pt {d p q c : Vec} (h : Seg d p q) (hc : Pt d c) : nearest (mv d p) (mv d q) (mv d c) = mv d (nearest p q c) ∧ Pt d (nearest p q c) := by
  obtain ⟨h1, h2, h3⟩ := near_mv h hc.i hc.m
  exact ⟨h1, h2, h3⟩
theorem cho_mv {d ap aq bp bq : Vec} (ha : Seg d ap aq) (hb : Seg d bp bq) : choosen (mv d ap) (mv d aq) (mv d bp) (mv d bq) = mvC d (choosen ap aq bp bq) ∧ PtC d (choosen ap aq bp bq) := by
  have pa : Pt d ap := ⟨ha.ip, ha.mp⟩
  have pq : Pt d aq := ⟨ha.iq, ha.mq⟩
  have pb : Pt d bp := ⟨hb.ip, hb.mp⟩
  have pbq : Pt d bq := ⟨hb.iq, hb.mq⟩
  obtain ⟨n1, t1⟩ := near_pt hb pa
  obtain ⟨n2, t2⟩ := near_pt hb pq
  obtain ⟨n3, t3⟩ := near_pt ha pb
  obtain ⟨n4, t4⟩ := near_pt ha pbq
  have c1 : cho1 (mv d ap) (mv d bp) (mv d bq) = mvC d (cho1 ap bp bq) ∧ PtC d (cho1 ap bp bq) := by
    unfold cho1
    rw [n1]
    have l1 := lenSq_lt pa.m t1.m
    have l2 := lenSq_lt pa.i t1.i
    unfold consider
    rw [if_pos l1, if_pos l2, dfx_mv pa.i t1.i pa.m t1.m, dfy_mv pa.i t1.i pa.m t1.m]
    exact ⟨rfl, pa, t1⟩
  have c2 : cho2 (mv d ap) (mv d aq) (mv d bp) (mv d bq) = mvC d (cho2 ap aq bp bq) ∧ PtC d (cho2 ap aq bp bq) := by
    unfold cho2
    rw [n2, c1.1]
    exact consider_mv c1.2 pq t2
  have c3 : cho3 (mv d ap) (mv d aq) (mv d bp) (mv d bq) = mvC d (cho3 ap aq bp bq) ∧ PtC d (cho3 ap aq bp bq) := by
    unfold cho3
    rw [n3, c2.1]
    exact consider_mv c2.2 t3 pb
  unfold choosen
  rw [n4, c3.1]
  exact consider_mv c3.2 t4 pbq
end Go.Ev
