/- Shown here: Walks: maps.Keys, slices.AppendSeq and Collect, at pairs. Walks: maps.Keys, slices.AppendSeq and Collect, at pairs. The library's sort, laid at this program (slices.SortFunc at pairs). Walks: grid.compare, slices.SortFunc at pairs. Conditions: none beyond those in each theorem. -/
import Derived.Shelf.SlSortCmp.WholeK
import Derived.Ground.SlsfProg
import Derived.Shelf.SlSortCmp.NoneTotal
import Derived.Test.YtpnknnlnkmhgpaaGreatDoorK15
namespace Go.Ev
open Go Proofs Bil

theorem keyPair : KeyOk Tryz.prog 88 Pair.v :=
  keyStruct (fields := (match Tryz.prog.underlying 88 with | some (.struct f) => f | _ => #[])) (by kernel_rfl) (fun b x => by cases b <;> kernel_rfl)
    (fun x y => ⟨(x.lo == y.lo) && ((x.hi == y.hi) && true), by kernel_rfl, by
      obtain ⟨a, b⟩ := x
      obtain ⟨c, d⟩ := y
      rw [Bool.eq_iff_iff]
      simp⟩)
    (fun x => by
      show Instr.sameBits (9999 + 1) (.agg x.cells.toArray) (.agg x.cells.toArray) = true
      simp [Instr.sameBits, Pair.cells])
/-- a pair's value, read back -/
def decP : Value → Pair
  | .agg cs => match cs.toList with
    | [.int _ a, .int _ b] => ⟨a, b⟩
    | _ => ⟨0, 0⟩
  | _ => ⟨0, 0⟩
theorem decP_v (p : Pair) : decP p.v = p := rfl
/-- what the rounds of a loop over a set hold -/
structure RoundsS (P : Program) (l : Nat) (α : Type) (enc : α → Value) (ks : List α) (Z : Type) (E : List α → Z → List Ent) (c : Nat) : Prop where
  len : ∀ pre z, (E pre z).length = c
  yields : ∀ pre z x, (pre ++ [x]).Nodup → (∀ y ∈ pre ++ [x], y ∈ ks) → YSpec P [] l #[enc x] (E pre z) (fun z' => E (pre ++ [x]) z')
def doneS (done : List MapEntry) : Array Nat := (done.map (·.born)).toArray
theorem doneS_push (done : List MapEntry) (e : MapEntry) : (doneS done).push e.born = doneS (done ++ [e]) := by simp [doneS]
theorem inj_of_nodup {α β : Type} {f : α → β} : ∀ {l : List α}, (l.map f).Nodup → ∀ {a b : α}, a ∈ l → b ∈ l → f a = f b → a = b
  | [], _, _, _, ha, _, _ => by cases ha
  | x :: l, h, a, b, ha, hb, e => by
    rw [List.map_cons, List.nodup_cons] at h
    rcases List.mem_cons.1 ha with h1 | h1
    · rcases List.mem_cons.1 hb with h2 | h2
      · rw [h1, h2]
      · exact absurd (List.mem_map.2 ⟨b, h2, by rw [← e, h1]⟩) h.1
    · rcases List.mem_cons.1 hb with h2 | h2
      · exact absurd (List.mem_map.2 ⟨a, h1, by rw [e, h2]⟩) h.1
      · exact inj_of_nodup h.2 h1 h2 e
theorem nodup_len {α : Type} : ∀ {l m : List α}, l.Nodup → (∀ a ∈ l, a ∈ m) → l.length ≤ m.length
  | [], _, _, _ => Nat.zero_le _
  | x :: l, m, h, hs => by
    rw [List.nodup_cons] at h
    obtain ⟨m1, m2, rfl⟩ := List.append_of_mem (hs x (by simp))
    have := nodup_len (m := m1 ++ m2) h.2 (fun a ha => by
      have h1 := hs a (List.mem_cons_of_mem _ ha)
      have h2 : a ≠ x := fun e => h.1 (e ▸ ha)
      simp only [List.mem_append, List.mem_cons] at h1 ⊢
      rcases h1 with h1 | h1 | h1
      · exact .inl h1
      · exact absurd h1 h2
      · exact .inr h1)
    simp at this ⊢
    omega
theorem nodup_map_sub {α β : Type} {f : α → β} {l m : List α} (h : (l.map f).Nodup) (hm : m.Nodup) (hs : ∀ a ∈ m, a ∈ l) : (m.map f).Nodup := by
  refine List.pairwise_map.2 (hm.imp_of_mem fun {a b} ha hb hne e => hne (inj_of_nodup h (hs a ha) (hs b hb) e))
theorem keys1_f (l bm b : Nat) (kvs : List (Pair × Value)) (hnd : (kvs.map (·.1)).Nodup) {Z : Type} {E : List Pair → Z → List Ent} {c : Nat} (hr : RoundsS Tryz.prog l Pair Pair.v (kvs.map (·.1)) Z E c) (z0 : Z) :
    Spec Tryz.prog [cell1 bm (.map (some b)) 134, .gen b (MapIs Pair.v kvs)] 91 #[.func (.yield l) #[] #[], ptr bm] (fun _ => True) (E [] z0) (fun _ : List Pair × Z => .tuple #[]) (fun x => x.1.Perm (kvs.map (·.1))) (fun x => E x.1 x.2) := by
  refine Spec.enter Tryz.func91 (by kernel_rfl) (by kernel_rfl) fun w _ _ => ?_
  refine V.mapopen (enc := Pair.v) (kvs := kvs) b (by simp) fun es clock hes hborn hbn => ?_
  have hks : es.toList.map (fun e => decP e.key) = kvs.map (·.1) := by
    have := congrArg (fun l => l.map (fun p : Value × Value => decP p.1)) hes
    simpa [Function.comp_def, decP_v] using this
  refine V.loads [1001] (by kernel_rfl) ?_
  refine V.range 1000 (b := b) (es := es) (clock := clock) (by kernel_rfl) (by kernel_rfl) (by kernel_rfl) fun r => ?_
  refine V.perm (L' := .blk r (.mapIter (some b) clock #[] clock) :: E [] z0) (List.perm_append_comm (l₁ := [_]) (l₂ := E [] z0)) ?_
  refine V.loop [0, 5] (fun _ : List MapEntry × Z => [.func (.yield l) #[] #[], .pointer (some ⟨r, 0, none⟩)]) (fun x => .blk r (.mapIter (some b) clock (doneS x.1) clock) :: E (x.1.map (fun e => decP e.key)) x.2)
    (fun x => (x.1.map (·.born)).Nodup ∧ ∀ e ∈ x.1, e ∈ es.toList) (fun x => es.size - x.1.length) ([], z0) (by kernel_rfl) (by kernel_rfl) rfl ⟨by simp, by simp⟩ ?_
  rintro F ⟨done, z⟩ ⟨hdn, hdm⟩ again
  have hdn : (done.map (·.born)).Nodup := hdn
  have hdm : ∀ e ∈ done, e ∈ es.toList := hdm
  refine V.aside (L := [.blk r (.mapIter (some b) clock (doneS done) clock)]) (T := E (done.map (fun e => decP e.key)) z) fun w1 un => ?_
  refine V.next 1000 0 (b := b) (r := r) (es := es) (clock := clock) (seen := doneS done) (by kernel_rfl) (by kernel_rfl) (by kernel_rfl) hborn (by kernel_rfl) (fun hov => ?_) (fun e he hne => ?_)
  · refine V.ifb false false (by kernel_rfl) rfl ?_
    refine un _ _ ?_
    refine V.retx (done.map (fun e => decP e.key), z) (.tuple #[]) (by kernel_rfl) (by kernel_rfl) rfl ?_ (fun w h => h.sub (List.sublist_cons_self _ _))
    have h1 : done.Perm es.toList := by
      have n1 : done.Nodup := (List.pairwise_map.1 hdn).imp fun h e => h (congrArg _ e)
      have n2 : es.toList.Nodup := (List.pairwise_map.1 hbn).imp fun h e => h (congrArg _ e)
      refine (List.perm_ext_iff_of_nodup n1 n2).2 fun e => ⟨hdm e, fun he => ?_⟩
      have := hov e he
      simp only [doneS, List.mem_map] at this
      obtain ⟨e', he', hb⟩ := this
      have : e' = e := inj_of_nodup hbn (hdm e' he') he hb
      exact this ▸ he'
    have h2 := h1.map (fun e => decP e.key)
    rw [hks] at h2
    exact h2
  · obtain ⟨p, hp⟩ : ∃ p : Pair, e.key = p.v := by
      have : (e.key, e.val) ∈ es.toList.map (fun e => (e.key, e.val)) := List.mem_map.2 ⟨e, he, rfl⟩
      rw [hes] at this
      obtain ⟨q, _, hq⟩ := List.mem_map.1 this
      exact ⟨q.1, (congrArg Prod.fst hq).symm⟩
    obtain ⟨ek, ev, eb⟩ := e
    have hp : ek = p.v := hp
    subst hp
    have hnew : (done ++ [(⟨p.v, ev, eb⟩ : MapEntry)]).map (fun e => decP e.key) = done.map (fun e => decP e.key) ++ [p] := by simp [decP_v]
    have hdn' : ((done ++ [(⟨p.v, ev, eb⟩ : MapEntry)]).map (·.born)).Nodup := by
      rw [List.map_append, List.nodup_append]
      refine ⟨hdn, by simp, fun a ha b hb => ?_⟩
      simp only [List.map_cons, List.map_nil, List.mem_singleton] at hb
      subst hb
      intro hab
      subst hab
      exact hne (by simpa [doneS] using ha)
    have hdm' : ∀ e ∈ done ++ [(⟨p.v, ev, eb⟩ : MapEntry)], e ∈ es.toList := fun e h => by
      rcases List.mem_append.1 h with h | h
      · exact hdm e h
      · simp only [List.mem_singleton] at h; subst h; exact he
    refine V.ifb true true (by kernel_rfl) rfl ?_
    refine V.entry 1000 0 (b := b) (r := r) (es := es) (clock := clock) (seen := doneS done) (e := ⟨p.v, ev, eb⟩) (by kernel_rfl) (by kernel_rfl) (by kernel_rfl) he hbn (by kernel_rfl) ?_
    refine V.new (fun _ => by kernel_rfl) fun bk => ?_
    refine V.store 1 (by kernel_rfl) (by kernel_rfl) (by kernel_rfl) ?_
    refine V.loads [1] (by kernel_rfl) ?_
    refine V.keep [0] (by kernel_rfl) ?_
    refine V.conv (L' := [.blk r (.mapIter (some b) clock (doneS (done ++ [⟨p.v, ev, eb⟩])) clock)]) (by rw [← doneS_push]; kernel_rfl) rfl ?_
    refine un _ _ ?_
    refine V.perm (L' := E (done.map (fun e => decP e.key)) z ++ [.blk r (.mapIter (some b) clock (doneS (done ++ [⟨p.v, ev, eb⟩])) clock)]) List.perm_append_comm ?_
    have hy := hr.yields (done.map (fun e => decP e.key)) z p (by
        rw [← hnew]
        have h3 : ((done ++ [(⟨p.v, ev, eb⟩ : MapEntry)]).map (fun e => decP e.key)).Nodup := by
          have n3 : (es.toList.map (fun e => decP e.key)).Nodup := by rw [hks]; exact hnd
          have n1 : (done ++ [⟨p.v, ev, eb⟩] : List MapEntry).Nodup := (List.pairwise_map.1 hdn').imp fun h e => h (congrArg _ e)
          exact nodup_map_sub n3 n1 hdm'
        exact h3) (fun y hy => by
        rw [← hnew, List.mem_map] at hy
        obtain ⟨e, he, rfl⟩ := hy
        rw [← hks]
        exact List.mem_map.2 ⟨e, hdm' e he, rfl⟩)
    refine V.yield [] c hy (by rw [List.take_append_of_le_length (by rw [hr.len]; exact Nat.le_refl _)]; exact take_all (hr.len _ _)) (by kernel_rfl) (by kernel_rfl) (by kernel_rfl) (by kernel_rfl) fun z' => ?_
    refine V.conv (L' := E ((done ++ [(⟨p.v, ev, eb⟩ : MapEntry)]).map (fun e => decP e.key)) z' ++ [.blk r (.mapIter (some b) clock (doneS (done ++ [⟨p.v, ev, eb⟩])) clock)]) (by
      rw [hnew, List.drop_append_of_le_length (by rw [hr.len]; exact Nat.le_refl _), drop_all (hr.len _ _), List.nil_append]) rfl ?_
    refine V.ifb false false (by kernel_rfl) rfl ?_
    refine V.perm (L' := [.blk r (.mapIter (some b) clock (doneS (done ++ [⟨p.v, ev, eb⟩])) clock)] ++ E ((done ++ [(⟨p.v, ev, eb⟩ : MapEntry)]).map (fun e => decP e.key)) z') List.perm_append_comm ?_
    have hlt : done.length < es.size := by
      have n1 : (done ++ [⟨p.v, ev, eb⟩] : List MapEntry).Nodup := (List.pairwise_map.1 hdn').imp fun h e => h (congrArg _ e)
      have h5 := nodup_len n1 hdm'
      simp at h5
      omega
    exact again (done ++ [⟨p.v, ev, eb⟩], z') _ ⟨hdn', hdm'⟩ (show es.size - (done ++ [(⟨p.v, ev, eb⟩ : MapEntry)]).length < es.size - done.length by rw [List.length_append]; simp; omega) (by kernel_rfl) (by kernel_rfl)
end Go.Ev

namespace Go.Ev
open Go Proofs Bil

theorem keysOf_f (b : Nat) : SX GLS 71 #[.map (some b)] [] (fun bm : Nat => .func (.func 91) #[] #[ptr bm]) (fun bm => [cell1 bm (.map (some b)) 134]) := by
  refine Spec.enter Tryz.func71 (by kernel_rfl) (by kernel_rfl) fun w _ _ => ?_
  refine V.new (fun _ => by kernel_rfl) fun b0 => ?_
  exact V.rete b0 _ [0] (by kernel_rfl) (by kernel_rfl) (by kernel_rfl) (by kernel_rfl) rfl trivial
abbrev rowP (a : Option Addr) (cap : Nat) (l : List Pair) : Ent := .row (.slice a l.length cap) 88 2 l.length (flat Pair.cells l)
theorem Pair.cells_length (p : Pair) : p.cells.length = 2 := rfl
theorem appendSeq_f (bm b : Nat) (kvs : List (Pair × Value)) (hnd : (kvs.map (·.1)).Nodup) (hlen : kvs.length ≤ 1048576) :
    Spec Tryz.prog [cell1 bm (.map (some b)) 134, .gen b (MapIs Pair.v kvs)] 106 #[.slice none 0 0, .func (.func 91) #[] #[ptr bm]] (fun _ => True) [] (fun x : List Pair × Option Addr × Nat => .slice x.2.1 x.1.length x.2.2)
      (fun x => x.1.Perm (kvs.map (·.1))) (fun x => [rowP x.2.1 x.2.2 x.1]) := by
  refine Spec.enter Tryz.func106 (by kernel_rfl) (by kernel_rfl) fun w _ _ => ?_
  refine V.new (fun _ => by kernel_rfl) fun b2 => ?_
  refine V.nilrow 88 2 ?_
  refine V.rangeFunc 91 (fun l => #[.func (.yield l) #[] #[], ptr bm]) [3, 0, 1, 2] 3
    (fun D l r => [.blk l (.loop r), cell1 b2 (.slice none 0 0) 82, rowP none 0 [], .blk D (.deferred (some []))])
    (by kernel_rfl) (by kernel_rfl) (fun _ => by kernel_rfl) (by kernel_rfl) (fun _ _ _ => by kernel_rfl) fun D l r hr hrel => ?_
  refine ⟨List Pair × Option Addr × Nat, _, _, _, _, [1000, 1001], keys1_f l bm b kvs hnd (Z := Option Addr × Nat) (E := fun pre z => [.blk l (.loop r), cell1 b2 (.slice z.1 pre.length z.2) 82, rowP z.1 z.2 pre]) (c := 3) ⟨fun _ _ => rfl, fun pre z x hnp hp => ?_⟩ (none, 0), by kernel_rfl, by kernel_rfl, by kernel_rfl, fun y hy => ⟨rfl, ?_⟩⟩
  · have hl : pre.length + 1 ≤ 1048576 := by
      have := nodup_len hnp hp
      simp at this
      omega
    refine YSpec.of_VR hr Tryz.f106 7 x.v rfl (by kernel_rfl) (by decide) hrel fun w1 => ?_
    refine VR.new (fun _ => by kernel_rfl) fun b4 => ?_
    refine VR.store 3 (by kernel_rfl) (by kernel_rfl) (by kernel_rfl) ?_
    refine VR.begin 0 (r := r) (by kernel_rfl) (by kernel_rfl) hr.state ?_
    refine VR.loads [1, 3] (by kernel_rfl) ?_
    refine VR.new (fun _ => by kernel_rfl) fun b5 => ?_
    refine VR.append 2 4 8 (t := 82) (e := 88) (size := 2) (n := pre.length) (m := 1) (b := b5) (c := 1) (T := 88) (v := .slice z.1 pre.length z.2) (xs := flat Pair.cells pre) (cs := x.cells.toArray) (by kernel_rfl) (by kernel_rfl) (by kernel_rfl) (by kernel_rfl) (by kernel_rfl) (by kernel_rfl) (by unfold maxLen; omega) (by omega) fun a' cap' => ?_
    refine VR.store 1 (by kernel_rfl) (by kernel_rfl) (by kernel_rfl) ?_
    refine VR.done 0 (r := { r with state := .busy }) (by kernel_rfl) (by kernel_rfl) (rec_back hr) fun w2 h2 => ⟨(a', cap'), rfl, ?_⟩
    have e : [.blk l (.loop r), cell1 b2 (.slice a' (pre.length + 1) cap') 82, .row (.slice a' (pre.length + 1) cap') 88 2 (pre.length + 1) (flat Pair.cells pre ++ x.cells)] =
        [.blk l (.loop r), cell1 b2 (.slice a' (pre ++ [x]).length cap') 82, rowP a' cap' (pre ++ [x])] := by simp [flat, rowP]
    exact e ▸ h2.picked [0, 1, 2] (by kernel_rfl) (by kernel_rfl)
  · refine VM.loads [1] (by kernel_rfl) ?_
    exact VM.ret 3 (.slice y.2.1 y.1.length y.2.2) (by kernel_rfl) (by kernel_rfl) (by kernel_rfl) fun w2 h2 => ⟨y, rfl, hy, h2.picked [2] (by kernel_rfl) (by kernel_rfl)⟩
theorem collect_f (bm b : Nat) (kvs : List (Pair × Value)) (hnd : (kvs.map (·.1)).Nodup) (hlen : kvs.length ≤ 1048576) :
    Spec Tryz.prog [cell1 bm (.map (some b)) 134, .gen b (MapIs Pair.v kvs)] 89 #[.func (.func 91) #[] #[ptr bm]] (fun _ => True) [] (fun x : List Pair × Option Addr × Nat => .slice x.2.1 x.1.length x.2.2)
      (fun x => x.1.Perm (kvs.map (·.1))) (fun x => [rowP x.2.1 x.2.2 x.1]) := by
  refine Spec.enter Tryz.func89 (by kernel_rfl) (by kernel_rfl) fun w _ _ => ?_
  refine V.call0 [1000, 1001] (appendSeq_f bm b kvs hnd hlen) (by kernel_rfl) (by kernel_rfl) (by kernel_rfl) (fun _ _ => trivial) fun x hx => ?_
  exact V.rete x _ [0] (by kernel_rfl) (by kernel_rfl) (by kernel_rfl) (by kernel_rfl) rfl hx
end Go.Ev

namespace Go.Proofs
open Go.Shelf
def Tryz.sortPair_ren : Go.Shelf.Ren := ⟨fun | 6 => 90 | 15 => 108 | 14 => 107 | 28 => 125 | 29 => 115 | 20 => 117 | 21 => 118 | 22 => 119 | 23 => 120 | 24 => 121 | 25 => 122 | 26 => 123 | 27 => 124 | 46 => 129 | 47 => 130 | 48 => 131 | 49 => 132 | 50 => 133 | 57 => 137 | n => n, fun | 22 => 82 | 24 => 88 | 25 => 141 | 3 => 3 | 39 => 76 | 0 => 0 | 53 => 36 | 55 => 148 | 4 => 4 | 46 => 200 | 45 => 199 | 50 => 91 | 5 => 5 | 9 => 9 | 66 => 210 | 70 => 214 | 76 => 220 | 77 => 221 | n => n, fun | n => n⟩
theorem Tryz.sortPair : Go.Proofs.SlLaysF0.n6 Tryz.prog Tryz.sortPair_ren := {
  mixed := by kernel_rfl
  f6 := ⟨Tryz.f90.name, by decide, Tryz.func90.trans (congrArg some (by kernel_rfl))⟩
  f14 := ⟨Tryz.f107.name, by decide, Tryz.func107.trans (congrArg some (by kernel_rfl))⟩
  f15 := Tryz.func108.trans (congrArg some (by kernel_rfl))
  f20 := ⟨Tryz.f117.name, by decide, Tryz.func117.trans (congrArg some (by kernel_rfl))⟩
  f21 := ⟨Tryz.f118.name, by decide, Tryz.func118.trans (congrArg some (by kernel_rfl))⟩
  f22 := ⟨Tryz.f119.name, by decide, Tryz.func119.trans (congrArg some (by kernel_rfl))⟩
  f23 := ⟨Tryz.f120.name, by decide, Tryz.func120.trans (congrArg some (by kernel_rfl))⟩
  f24 := ⟨Tryz.f121.name, by decide, Tryz.func121.trans (congrArg some (by kernel_rfl))⟩
  f25 := ⟨Tryz.f122.name, by decide, Tryz.func122.trans (congrArg some (by kernel_rfl))⟩
  f26 := ⟨Tryz.f123.name, by decide, Tryz.func123.trans (congrArg some (by kernel_rfl))⟩
  f27 := ⟨Tryz.f124.name, by decide, Tryz.func124.trans (congrArg some (by kernel_rfl))⟩
  f28 := Tryz.func125.trans (congrArg some (by kernel_rfl))
  f29 := Tryz.func115.trans (congrArg some (by kernel_rfl))
  f46 := ⟨Tryz.f129.name, by decide, Tryz.func129.trans (congrArg some (by kernel_rfl))⟩
  f47 := Tryz.func130.trans (congrArg some (by kernel_rfl))
  f48 := Tryz.func131.trans (congrArg some (by kernel_rfl))
  f49 := ⟨Tryz.f132.name, by decide, Tryz.func132.trans (congrArg some (by kernel_rfl))⟩
  f50 := ⟨Tryz.f133.name, by decide, Tryz.func133.trans (congrArg some (by kernel_rfl))⟩
  f57 := ⟨Tryz.f137.name, by decide, Tryz.func137.trans (congrArg some (by kernel_rfl))⟩
  t0 := Tryz.underlying0
  a0 := Tryz.isAgg0
  z0 := Tryz.sizeOf0
  v0 := Tryz.zeroValue0
  t3 := Tryz.underlying3
  a3 := Tryz.isAgg3
  z3 := Tryz.sizeOf3
  v3 := Tryz.zeroValue3
  t4 := Tryz.underlying4
  a4 := Tryz.isAgg4
  z4 := Tryz.sizeOf4
  v4 := Tryz.zeroValue4
  t5 := Tryz.underlying5
  a5 := Tryz.isAgg5
  z5 := Tryz.sizeOf5
  v5 := Tryz.zeroValue5
  t9 := Tryz.underlying9
  a9 := Tryz.isAgg9
  z9 := Tryz.sizeOf9
  v9 := Tryz.zeroValue9
  t22 := Tryz.underlying82
  a22 := Tryz.isAgg82
  z22 := Tryz.sizeOf82
  v22 := Tryz.zeroValue82
  t25 := Tryz.underlying141
  a25 := Tryz.isAgg141
  z25 := Tryz.sizeOf141
  v25 := Tryz.zeroValue141
  t39 := Tryz.underlying76
  a39 := Tryz.isAgg76
  z39 := Tryz.sizeOf76
  v39 := Tryz.zeroValue76
  t45 := Tryz.underlying199
  a45 := Tryz.isAgg199
  z45 := Tryz.sizeOf199
  v45 := Tryz.zeroValue199
  t46 := Tryz.underlying200
  a46 := Tryz.isAgg200
  z46 := Tryz.sizeOf200
  v46 := Tryz.zeroValue200
  t50 := Tryz.underlying91
  a50 := Tryz.isAgg91
  z50 := Tryz.sizeOf91
  v50 := Tryz.zeroValue91
  t53 := Tryz.underlying36
  a53 := Tryz.isAgg36
  z53 := Tryz.sizeOf36
  v53 := Tryz.zeroValue36
  t55 := Tryz.underlying148
  a55 := Tryz.isAgg148
  z55 := Tryz.sizeOf148
  v55 := Tryz.zeroValue148
  t66 := Tryz.underlying210
  a66 := Tryz.isAgg210
  z66 := Tryz.sizeOf210
  v66 := Tryz.zeroValue210
  t70 := Tryz.underlying214
  a70 := Tryz.isAgg214
  z70 := Tryz.sizeOf214
  v70 := Tryz.zeroValue214
  t76 := Tryz.underlying220
  a76 := Tryz.isAgg220
  z76 := Tryz.sizeOf220
  v76 := Tryz.zeroValue220
  t77 := Tryz.underlying221
  a77 := Tryz.isAgg221
  z77 := Tryz.sizeOf221
  v77 := Tryz.zeroValue221 }
end Go.Proofs

namespace Go.Ev
open Go Proofs Bil

theorem isNaN_e (x : Int) : PureFn Tryz.prog [] 80 #[.int .u32 x] (.bool false) := by
  refine PureFn.enter Tryz.func80 (by kernel_rfl) (by kernel_rfl) fun w => ?_
  exact V.retp (.bool (x != x)) (by kernel_rfl) (by kernel_rfl) (by simp)
theorem compare_e (x y : Int) : PureFn Tryz.prog [] 59 #[.int .u32 x, .int .u32 y] (.int .i64 (cmpI x y)) := by
  refine PureFn.enter Tryz.func59 (by kernel_rfl) (by kernel_rfl) fun w => ?_
  refine V.callp (isNaN_e x) (by kernel_rfl) ?_
  refine V.callp (isNaN_e y) (by kernel_rfl) ?_
  refine V.ifb false false (by kernel_rfl) rfl ?_
  refine V.ifb false false (by kernel_rfl) rfl ?_
  refine V.ite (decide (x < y)) (by kernel_rfl) (fun h => ?_) (fun h => ?_)
  · exact V.retp (.int .i64 (-1)) (by kernel_rfl) (by kernel_rfl) (by rw [cmpI, if_pos (of_decide_eq_true h)])
  refine V.ite (decide (x > y)) (by kernel_rfl) (fun h2 => ?_) (fun h2 => ?_)
  · exact V.retp (.int .i64 1) (by kernel_rfl) (by kernel_rfl) (by rw [cmpI, if_neg (of_decide_eq_false h), if_pos (of_decide_eq_true h2)])
  · exact V.retp (.int .i64 0) (by kernel_rfl) (by kernel_rfl) (by rw [cmpI, if_neg (of_decide_eq_false h), if_neg (of_decide_eq_false h2)])
def cmpP (x y : Pair) : Int := if cmpI x.lo y.lo = 0 then cmpI x.hi y.hi else cmpI x.lo y.lo
theorem cmpOr_f (bs : Nat) (a b : Int) : PureFn Tryz.prog [.blk bs (.cells #[.int .i64 a, .int .i64 b] 3 (0, 0))] 92 #[.slice (some ⟨bs, 0, none⟩) 2 2] (.int .i64 (if a = 0 then b else a)) := by
  refine PureFn.enter Tryz.func92 (by kernel_rfl) (by kernel_rfl) fun w => ?_
  refine V.roll (by kernel_rfl) ?_
  refine V.ifb (decide ((0 : Int) < 2)) true (by kernel_rfl) rfl ?_
  refine V.idx bs 0 2 1 0 .i64 (by kernel_rfl) (by decide) ?_
  refine V.loads [1000] (by kernel_rfl) ?_
  refine V.ite (!(a == 0)) (by kernel_rfl) (fun h => ?_) (fun h => ?_)
  · have h : a ≠ 0 := by simpa using h
    exact V.retp (.int .i64 a) (by kernel_rfl) (by kernel_rfl) (by rw [if_neg h])
  have h : a = 0 := by simpa using h
  refine V.again (by kernel_rfl) ?_
  refine V.ifb (decide ((1 : Int) < 2)) true (by kernel_rfl) rfl ?_
  refine V.idx bs 0 2 1 1 .i64 (by kernel_rfl) (by decide) ?_
  refine V.loads [1000] (by kernel_rfl) ?_
  refine V.ite (!(b == 0)) (by kernel_rfl) (fun h2 => ?_) (fun h2 => ?_)
  · exact V.retp (.int .i64 b) (by kernel_rfl) (by kernel_rfl) (by rw [if_pos h])
  have h2 : b = 0 := by simpa using h2
  refine V.again (by kernel_rfl) ?_
  refine V.ifb (decide ((2 : Int) < 2)) false (by kernel_rfl) rfl ?_
  exact V.retp (.int .i64 0) (by kernel_rfl) (by kernel_rfl) (by rw [if_pos h, h2])
theorem gcmp_f (x y : Pair) : PureFn Tryz.prog [] 72 #[x.v, y.v] (.int .i64 (cmpP x y)) := by
  refine PureFn.enter Tryz.func72 (by kernel_rfl) (by kernel_rfl) fun w => ?_
  refine V.new (fun _ => by kernel_rfl) fun b2 => ?_
  refine V.new (fun _ => by kernel_rfl) fun b3 => ?_
  refine V.drawn mix (by kernel_rfl) ?_
  refine VD.loads [0, 1, 0, 1] (by kernel_rfl) ?_
  refine VD.callp (compare_e x.lo y.lo) 4 (by kernel_rfl) (by kernel_rfl) (by kernel_rfl) ?_
  refine VD.callp (compare_e x.hi y.hi) 9 (by kernel_rfl) (by kernel_rfl) (by kernel_rfl) ?_
  refine VD.new 10 (by kernel_rfl) (by kernel_rfl) (fun _ => by kernel_rfl) fun b4 => ?_
  refine VD.callg [2] (cmpOr_f b4 (cmpI x.lo y.lo) (cmpI x.hi y.hi)) (by kernel_rfl) (by kernel_rfl) 11 (by kernel_rfl) (by kernel_rfl) (by kernel_rfl) ?_
  refine VD.done (by kernel_rfl) ?_
  exact V.retp _ (by kernel_rfl) (by kernel_rfl) rfl

/-! ### the library's sort at a row of the function's own -/
section
open Go.Sort Go.Shelf Go.RowKit Go.Lib
theorem flat_get {α : Type} (c : α → List Value) (k : Nat) (hc : ∀ x, (c x).length = k) (l : List α) (t : Nat) (x : α) (hx : l[t / k]? = some x) (hk : 0 < k) : (flat c l)[t]? = (c x)[t % k]? := by
  have h := flat_at c k hc l (t / k) x hx
  have h2 : (((flat c l).drop (t / k * k)).take k)[t % k]? = (c x)[t % k]? := by rw [h]
  rw [List.getElem?_take_of_lt (Nat.mod_lt _ hk), List.getElem?_drop] at h2
  rw [show t / k * k + t % k = t from Nat.div_add_mod' t k] at h2
  exact h2
theorem flatK_flat {α : Type} [Inhabited α] (c : α → List Value) (k : Nat) (hc : ∀ x, (c x).length = k) (hk : 0 < k) (l : List α) : (flatK c k l.toArray).toList = flat c l := by
  apply List.ext_getElem?
  intro t
  by_cases ht : t < l.length * k
  · have hd : t / k < l.length := (Nat.div_lt_iff_lt_mul hk).2 ht
    have hx : l[t / k]? = some l[t / k] := List.getElem?_eq_getElem hd
    rw [flat_get c k hc l t _ hx hk, Array.getElem?_toList]
    have h1 : t < (flatK c k l.toArray).size := by simpa using ht
    rw [Array.getElem?_eq_getElem h1]
    have h2 := get_flatK c k l.toArray t (by simpa using ht)
    rw [getElem!_pos _ t h1] at h2
    rw [h2]
    have h3 : l.toArray[t / k]! = l[t / k] := by rw [getElem!_pos _ _ (by simpa using hd)]; simp
    rw [h3]
    have h4 : t % k < (c l[t / k]).length := by rw [hc]; exact Nat.mod_lt _ hk
    rw [getElem!_pos (c l[t / k]) (t % k) h4, List.getElem?_eq_getElem h4]
  · rw [List.getElem?_eq_none (by simp; omega), List.getElem?_eq_none (by rw [flat_length c k hc]; omega)]
theorem reach_grow {w w' : World} (h : Reach [] w [] w') : ∃ q os', w' = grow (w.drewN q) os' := by
  refine ⟨w'.drawn - w.drawn, w'.heap.extract w.heap.size w'.heap.size, ?_⟩
  obtain ⟨hp, tp, dr, os, out⟩ := w'
  have e1 := h.os
  have e2 := h.tape
  have e3 := h.output
  have e4 := h.draws
  have e5 := h.size
  simp only at e1 e2 e3 e4 e5
  subst e1 e2 e3
  unfold grow World.drewN
  simp only [World.mk.injEq, true_and, and_true]
  refine ⟨?_, by omega⟩
  apply Array.ext_getElem?
  intro i
  by_cases hi : i < w.heap.size
  · rw [Array.getElem?_append_left hi]
    exact h.old i hi (by simp)
  · rw [Array.getElem?_append_right (by omega), Array.getElem?_extract]
    have e6 : w.heap.size + (i - w.heap.size) = i := by omega
    rw [e6]
    by_cases h2 : i < hp.size
    · rw [if_pos (by simp; omega)]
    · rw [if_neg (by simp; omega), Array.getElem?_eq_none (by omega)]
theorem holds_own {α : Type} [Inhabited α] {c : α → List Value} {k : Nat} (hc : ∀ x, (c x).length = k) (hk : 0 < k) {w : World} {g cap : Nat} {cur : Array Value} {e : TypeId} {l : List α} (hb : w.heap[g]? = some (.cells cur e (0, 0)))
    (hcap : l.length ≤ cap) (hcur : cur.size = cap * k) (ht : cur.toList.take (l.length * k) = flat c l) : HoldsK c k w g 0 l.toArray := by
  intro j hj
  have hj' : j < l.length * k := by simpa using hj
  have h1 : l.length * k ≤ cap * k := Nat.mul_le_mul_right k hcap
  refine ⟨?_, by simp [World.frozen?, hb]⟩
  have h2 : cur[j]? = (flat c l)[j]? := by rw [← ht, List.getElem?_take_of_lt hj', Array.getElem?_toList]
  rw [← flatK_flat c k hc hk l, Array.getElem?_toList, Array.getElem?_eq_getElem hj] at h2
  have h3 : (flatK c k l.toArray)[j]! = (flatK c k l.toArray)[j] := getElem!_pos _ j hj
  rw [h3]
  simp only [World.cell?, hb, Nat.zero_add, Option.isSome_none, Bool.false_eq_true, if_false, id]
  exact h2
theorem reach_sorted {α : Type} [Inhabited α] {c : α → List Value} {k : Nat} (hc : ∀ x, (c x).length = k) (hk : 0 < k) {w : World} {g cap n : Nat} {os : Array Obj} {cur : Array Value} {e : TypeId} {l m : List α} (hl : m.length = l.length)
    (hb : w.heap[g]? = some (.cells cur e (0, 0))) (hcap : l.length ≤ cap) (hmax : cap ≤ maxLen) (hcur : cur.size = cap * k) :
    Reach [g] w [.row (.slice (some ⟨g, 0, none⟩) l.length cap) e k l.length (flat c m)] (sortWorldK c k w g 0 n m.toArray os) := by
  have hF := flatK_flat c k hc hk m
  have hs : (flatK c k m.toArray).size = m.length * k := by simp
  have h1 : m.length * k ≤ cap * k := Nat.mul_le_mul_right k (by omega)
  unfold sortWorldK putRowK
  have hblk : (grow (putRow id (Sort.ahead w n) g 0 (flatK c k m.toArray)) os).heap[g]? = some (.cells (putCells id 0 (flatK c k m.toArray) cur) e (0, 0)) := by
    have hlt : g < w.heap.size := (Array.getElem?_eq_some_iff.1 hb).1
    have h2 : (putRow id (Sort.ahead w n) g 0 (flatK c k m.toArray)).heap[g]? = some (.cells (putCells id 0 (flatK c k m.toArray) cur) e (0, 0)) := by
      simp [putRow, mapBlock, Sort.ahead, Array.getElem?_modify, hb, onCells]
    rw [← h2]
    unfold grow
    exact Array.getElem?_append_left (by rw [Go.Sort.size_putRow]; exact hlt)
  have hrow : (Ent.row (.slice (some ⟨g, 0, none⟩) l.length cap) e k l.length (flat c m)).holds (grow (putRow id (Sort.ahead w n) g 0 (flatK c k m.toArray)) os) := by
    refine ⟨by rw [flat_length c k hc, hl], .inr ⟨g, cap, _, rfl, Nat.zero_le _, hblk, hcap, hmax, by simp [putCells, hcur], ?_⟩⟩
    rw [← hl, ← hF]
    apply List.ext_getElem?
    intro j
    by_cases hj : j < m.length * k
    · rw [List.getElem?_take_of_lt hj, Array.getElem?_toList, Array.getElem?_toList]
      have hj2 : j < cur.size := by omega
      have h4 : (flatK c k m.toArray)[j]! = (flatK c k m.toArray)[j]'(by omega) := getElem!_pos _ j (by omega)
      simp [putCells, hj, hj2, h4]
    · rw [List.getElem?_take_eq_none (by omega), Array.getElem?_toList, Array.getElem?_eq_none (by omega)]
  refine ⟨rfl, rfl, rfl, Nat.le_add_right _ _, by unfold grow; simp [putRow, mapBlock, Sort.ahead], fun b hb' hM => ?_, fun E hE => by simp only [List.mem_singleton] at hE; subst hE; exact hrow, by simp [feet, Ent.foot, Value.ownBlock], fun b hb' => .inr (by simpa [feet, Ent.foot, Value.ownBlock] using hb')⟩
  have hne : g ≠ b := fun h => hM (by simp [h])
  unfold grow
  rw [Array.getElem?_append_left (by rw [Go.Sort.size_putRow]; exact hb')]
  simp [putRow, mapBlock, Sort.ahead, Array.getElem?_modify, hne]

theorem swoP : SWO (ltOf cmpP) := by
  have key : ∀ x y : Pair, ltOf cmpP x y = decide (x.lo < y.lo ∨ (x.lo = y.lo ∧ x.hi < y.hi)) := by
    intro x y
    unfold ltOf cmpP
    rw [decide_eq_decide]
    have h1 := @cmpI_neg x.lo y.lo
    have h2 := @cmpI_zero x.lo y.lo
    have h3 := @cmpI_neg x.hi y.hi
    split <;> omega
  exact ⟨fun x => by rw [key]; simp, fun x y z h1 h2 => by rw [key] at *; simp at *; omega, fun x y z h1 h2 => by rw [key] at *; simp at *; omega⟩
theorem parts_P (x y : Pair) (h1 : ltOf cmpP x y = false) (h2 : ltOf cmpP y x = false) : x = y := by
  unfold ltOf cmpP at h1 h2
  have a1 := @cmpI_neg x.lo y.lo
  have a2 := @cmpI_zero x.lo y.lo
  have a3 := @cmpI_neg x.hi y.hi
  have b1 := @cmpI_neg y.lo x.lo
  have b2 := @cmpI_zero y.lo x.lo
  have b3 := @cmpI_neg y.hi x.hi
  obtain ⟨a, b⟩ := x
  obtain ⟨c, d⟩ := y
  simp only [decide_eq_false_iff_not, Pair.mk.injEq] at *
  split at h1 <;> split at h2 <;> omega
/-- the pairs in their order -/
def sortP (l : List Pair) : List Pair := l.mergeSort fun x y => !(ltOf cmpP) y x
theorem sortP_perm (l : List Pair) : (sortP l).Perm l := List.mergeSort_perm _ _
theorem sortP_sorted (l : List Pair) : (sortP l).Pairwise (fun x y => (!(ltOf cmpP) y x) = true) := by
  refine List.pairwise_mergeSort (fun a b c h1 h2 => ?_) (fun a b => ?_) l
  · simp only [Bool.not_eq_true'] at *
    exact swoP.ntrans c b a h2 h1
  · cases h : ltOf cmpP b a with
    | false => rfl
    | true =>
      have : ltOf cmpP a b = false := by
        cases h2 : ltOf cmpP a b with
        | false => rfl
        | true => have := swoP.trans a b a h2 h; rw [swoP.irrefl] at this; cases this
      rw [this]; rfl
theorem sortP_eq {l m : List Pair} (h : l.Perm m) : sortP l = sortP m := by
  refine List.Perm.eq_of_pairwise (fun a b _ _ h1 h2 => parts_P a b ?_ ?_) (sortP_sorted l) (sortP_sorted m) (((sortP_perm l).trans h).trans (sortP_perm m).symm)
  · simpa using h2
  · simpa using h1
instance : Inhabited Pair := ⟨⟨0, 0⟩⟩
theorem sortFunc_f (l : List Pair) (a : Option Addr) (cap : Nat) (hn : l.length ≤ 1048576) :
    Spec Tryz.prog [] 90 #[.slice a l.length cap, .func (.func 72) #[] #[]] (fun _ => True) [rowP a cap l] (fun _ : Unit => .tuple #[]) (fun _ => True) (fun _ => [rowP a cap (sortP l)]) := by
  intro w _ _ ho _
  have hh : (rowP a cap l).holds w := ho.ents _ (by simp)
  have hown : w.ownsRow 0 88 2 (.slice a l.length cap) l.length (flat Pair.cells l) := hh
  have hlen : (sortP l).length = l.length := (sortP_perm l).length_eq
  rcases hown.2 with ⟨hv, h0⟩ | ⟨g, cap', cur, hv, _, hb, hcap, hmax, hcur, ht⟩
  · have hl : l = [] := List.eq_nil_of_length_eq_zero h0
    subst hl
    cases hv
    refine (AnyF.slices_SortFunc_none Tryz.sortPair none 0 _ w).mono fun e w' he => ?_
    obtain ⟨rfl, rfl⟩ := he
    exact ⟨(), rfl, trivial, by show Reach _ _ [rowP none 0 (sortP [])] _; rw [show sortP [] = [] by simp [sortP]]; exact ho⟩
  · cases hv
    have hH : HoldsK Pair.cells 2 w g 0 l.toArray := holds_own Pair.cells_length (by decide) hb hcap hcur ht
    have hblk : g < w.heap.size := (Array.getElem?_eq_some_iff.1 hb).1
    have hc := AnyQ.slices_SortFunc_total Tryz.sortPair 2 Tryz.isAgg88 Tryz.sizeOf88 Pair.cells Pair.cells_length (fun x v hv => by simp [Pair.cells] at hv; rcases hv with rfl | rfl <;> rfl) cmpP swoP 72 #[] g 0 cap l.toArray w
      (enters_of Tryz.func72 (by kernel_rfl) rfl) (fun m os dk _ x y => (gcmp_f x y _ (fun _ h => by cases h)).mono fun e w' he => ⟨he.1, reach_grow he.2⟩) hH hblk (by simp; omega) parts_P
    refine Calls.mono (R := fun e w' => e = .returned (.tuple #[]) ∧ ∃ n os, w' = sortWorldK Pair.cells 2 w g 0 n (sortP l).toArray os) hc fun e w' he => ?_
    obtain ⟨rfl, n, os, rfl⟩ := he
    refine ⟨(), rfl, trivial, ?_⟩
    have := reach_sorted (k := 2) Pair.cells_length (by decide) (n := n) (os := os) (m := sortP l) hlen hb hcap hmax hcur
    show Reach [g] w [.row (.slice (some ⟨g, 0, none⟩) (sortP l).length cap) 88 2 (sortP l).length (flat Pair.cells (sortP l))] _
    rw [hlen]
    exact this
end
theorem sorted_f (bm b : Nat) (kvs : List (Pair × Value)) (hnd : (kvs.map (·.1)).Nodup) (hlen : kvs.length ≤ 1048576) :
    Spec Tryz.prog [cell1 bm (.map (some b)) 134, .gen b (MapIs Pair.v kvs)] 70 #[.func (.func 91) #[] #[ptr bm], .func (.func 72) #[] #[]] (fun _ => True) [] (fun x : Option Addr × Nat => .slice x.1 (sortP (kvs.map (·.1))).length x.2)
      (fun _ => True) (fun x => [rowP x.1 x.2 (sortP (kvs.map (·.1)))]) := by
  refine Spec.enter Tryz.func70 (by kernel_rfl) (by kernel_rfl) fun w _ _ => ?_
  refine V.call0 [1000, 1001] (collect_f bm b kvs hnd hlen) (by kernel_rfl) (by kernel_rfl) (by kernel_rfl) (fun _ _ => trivial) fun x hx => ?_
  obtain ⟨l, a, cap⟩ := x
  have hx : l.Perm (kvs.map (·.1)) := hx
  have hl : l.length ≤ 1048576 := by rw [hx.length_eq, List.length_map]; exact hlen
  have e : sortP l = sortP (kvs.map (·.1)) := sortP_eq hx
  refine V.callcg [] 1 (sortFunc_f l a cap hl) (by kernel_rfl) (by kernel_rfl) (by kernel_rfl) (by kernel_rfl) (by kernel_rfl) (fun _ _ => trivial) fun _ _ => ?_
  rw [e]
  have e2 : l.length = (sortP (kvs.map (·.1))).length := by rw [← e, (sortP_perm l).length_eq]
  refine V.rete (a, cap) (.slice a l.length cap) [0] (by kernel_rfl) (by kernel_rfl) (by kernel_rfl) (by kernel_rfl) (by rw [e2]) trivial
end Go.Ev
