/- StepMoves holds for every input: if no limit is reached, stepping and then moving all bodies by the same vector is moving and then stepping. Condition: the package-level variables box.none and cell.factors hold what the program's text lays (the card ties this). -/
import Derived.Test.YtpnknnlnkmhgpaaGreatDoorCards
import Derived.Test.YtpnknnlnkmhgpaaGreatDoorTie
import Derived.Test.YtpnknnlnkmhgpaaGreatDoorK19
namespace Go.Proofs.YtpnknnlnkmhgpaaGreatDoor.stepMoves
open Go Proofs Bil Go.ChangeShapes Go.WideShapes Go.ChangeAt Go.RowKit Go.Ev

theorem own : ownKnob Tryz.prog.godebug = none := by kernel_rfl
theorem prm : (Tryz.f3).params = #[22, 24] := by kernel_rfl
theorem u24 : Tryz.prog.underlying 24 = some (.struct (structOf Tryz.prog 24)) := structOf_spec (by kernel_rfl)
set_option maxRecDepth 100000 in
theorem vec_of {H : Type} {enc : TypeId × Value → H} {W : World} {base b0 : Nat} {sp : Nat → Bool} {held : Bool} {r : Go.Reach} {v : Value} {d : DataW H} {ps : List MemPlace} (hval : Value.okWide Tryz.prog W r b0 24 v) (h : DataW.Trod enc Tryz.prog W base sp held 24 v d ps) :
    ∃ x : Vec, v = x.v ∧ (-2147483648 ≤ x.x ∧ x.x ≤ 2147483647) ∧ -2147483648 ≤ x.y ∧ x.y ≤ 2147483647 := by
  obtain ⟨cs, rfl, hsz⟩ := okWide_struct u24 hval
  have hsz : cs.size = 2 := hsz.trans (by kernel_rfl)
  obtain ⟨fuel, hf⟩ := h
  obtain ⟨xs, n, _, _, _, hxl, hi⟩ := DataW.trod_struct u24 hf
  obtain ⟨x, hx, wx⟩ := field_int hxl hi 0 0 .i32 (by kernel_rfl)
  obtain ⟨y, hy, wy⟩ := field_int hxl hi 1 1 .i32 (by kernel_rfl)
  refine ⟨⟨x, y⟩, ?_, bounds_i32 wx, bounds_i32 wy⟩
  have hx : cs.toList[0]? = some (.int .i32 x) := hx
  have hy : cs.toList[1]? = some (.int .i32 y) := hy
  have e : cs.toList = [.int .i32 x, .int .i32 y] := by
    apply List.ext_getElem?
    intro i
    match i with
    | 0 => rw [hx]; rfl
    | 1 => rw [hy]; rfl
    | i + 2 => rw [List.getElem?_eq_none (by simp; omega), List.getElem?_eq_none (by simp)]
  show Value.agg cs = Value.agg (Vec.cells ⟨x, y⟩).toArray
  rw [show cs = (Vec.cells ⟨x, y⟩).toArray from Array.ext' e]

set_option maxRecDepth 100000 in
theorem contract (H : Type) (enc : TypeId × Value → H) (W : World) (base : Nat) (args : Array Value) (ds gs : List (DataW H)) (before : List MemPlace)
    (hval : ∀ (j : Nat) t v, (Tryz.f3).params[j]? = some t → args[j]? = some v → Value.okWide Tryz.prog W .any base t v)
    (hW : DataW.Whole enc Tryz.prog (Tryz.f3).params.toList Rows.stepMovesSpec.vars false W args.toList ds gs before) (hL : laidMetH Tryz.prog Rows.stepMovesRow.laid W) (hsh : W.ShapedOpen Tryz.prog) :
    Calls Tryz.prog 3 args W fun e W' => ∃ v, e = .returned v ∧ Rows.stepMovesSpec.post enc Tryz.prog Tryz.f3 false true false false W args v W' := by
  have hW' := hW
  have hG : Gl GLS W := gls_of hsh hL
  have hpos : 0 < W.heap.size := by
    have h := hG _ (List.mem_cons_self)
    have := (Array.getElem?_eq_some_iff.1 (show W.heap[3]? = _ from h)).1
    omega
  obtain ⟨p, q, hA0, hV, rfl, hfz, hnd⟩ := hW
  have hA : DataW.TrodAll enc Tryz.prog W 0 (fun _ => true) true (Tryz.f3).params.toList args.toList ds p := hA0
  rw [prm] at hA hval
  obtain ⟨v0, vs0, d0, ds0, p0, q0, hargs, rfl, rfl, h0, r0⟩ := trodAll_cons hA
  obtain ⟨v1, vs1, d1, ds1, p1, q1, rfl, rfl, rfl, h1, r1⟩ := trodAll_cons r0
  obtain ⟨rfl, rfl, rfl⟩ := trodAll_nil r1
  obtain rfl : args = #[v0, v1] := by cases args; simp_all
  obtain ⟨rfl, rfl⟩ := trodVars_none hV
  obtain ⟨a, l, cap, rfl, hok, hfit, hold⟩ := arg_of (hval 0 22 v0 rfl rfl) h0 hpos
  obtain ⟨dv, rfl, hdx, hdy⟩ := vec_of (hval 1 24 v1 rfl rfl) h1
  have hall : Gl (GLS ++ [argE a l]) W := fun E hE => by
    rcases List.mem_append.1 hE with h | h
    · exact hG E h
    · rw [List.mem_singleton.1 h]; exact hold
  refine (moves20_f movesLaw l a cap hok dv hdx hdy W hall).mono fun e W' he => ?_
  obtain ⟨rfl, hr⟩ := he
  exact ⟨_, rfl, law_post 4 hW' rfl rfl hr (by kernel_rfl) (by kernel_rfl) (by kernel_rfl) (by kernel_rfl)⟩

/-- a world for the witness: the settled one, the two variables holding what their initialisers lay -/
def setCells (cs : Array Value) (o : Obj) : Obj := match o with
  | .cells _ t frozen => .cells cs t frozen
  | o => o
noncomputable def laidWorld (os : Os) : World :=
  { World.holding Tryz.prog os ⟨#[], #[], []⟩ with heap := ((World.holding Tryz.prog os ⟨#[], #[], []⟩).heap.modify 3 (setCells #[.int .i32 1, .int .i32 0, .int .i32 0, .int .i32 0])).modify 0 (setCells #[.int .u32 73856093, .int .u32 19349663]) }
theorem laid_met (os : Os) : laidMet Tryz.prog Rows.stepMovesRow.laid ((laidWorld os).forCall (fun _ _ => 0) ⟨#[], #[.slice none 0 0, .agg #[.int .i32 0, .int .i32 0]], []⟩).memory :=
  laidMet_of_run' 8 (by kernel_rfl) (by kernel_rfl)
theorem reads (os : Os) {H : Type} (enc : TypeId × Value → H) : ∃ places, DataW.whole enc Tryz.prog ((laidWorld os).forCall (fun _ _ => 0) ⟨#[], #[.slice none 0 0, .agg #[.int .i32 0, .int .i32 0]], []⟩).memory (Tryz.f3).params.toList Rows.stepMovesSpec.vars false #[Value.slice none 0 0, Value.agg #[.int .i32 0, .int .i32 0]].toList 8 = some ([.nil, .agg [.lit (.int .i32 0), .lit (.int .i32 0)]], [], places) :=
  ⟨[], by kernel_rfl⟩

set_option maxRecDepth 100000 in
theorem lifted (os : Os) (started : os.Started) (H : Type) (enc : TypeId × Value → H) (F : Stop.Interp) :
    ReturnsInHanded {} Tryz.checked os 3 .any ((OpenSpec.ofChange Rows.stepMovesSpec).preRow enc Tryz.prog Tryz.f3 Rows.stepMovesRow.domain false Rows.stepMovesRow.laid) (((OpenSpec.ofChange Rows.stepMovesSpec).at F).post enc Tryz.prog Tryz.f3 false true false false) := by
  obtain ⟨places, hx⟩ := reads os enc
  refine returnsInHanded_of_row (C := Tryz.checked) (s := OpenSpec.ofChange Rows.stepMovesSpec) own started (by kernel_rfl) Tryz.func3
    (witness_row_at (enc := enc) (C := Tryz.checked) false (laidWorld os) #[.slice none 0 0, .agg #[.int .i32 0, .int .i32 0]] rfl (by kernel_rfl) (by kernel_rfl) (by kernel_rfl)
      (OpenSpec.preRow_of_cond 8 hx (by kernel_rfl) (fun k hk => by cases hk) (by kernel_rfl) (laid_met os))) ?_
  intro W base args ds gs before hval hW _ _ _ hL hsh _
  exact contract H enc W base args ds gs before hval hW hL hsh

theorem said : Rows.StepMovesSaid :=
  OpenClaim.holds_of_cond 3 Tryz.f3 rfl rfl rfl rfl rfl rfl rfl ⟨rfl, rfl, rfl, rfl, rfl⟩ rfl rfl rfl rfl rfl (by kernel_rfl) Tryz.func3 (by kernel_rfl)
    (of_decide_eq_true (by kernel_rfl)) (by unfold Func.isWrapper; first | (rw [if_pos (by decide +kernel)]; kernel_rfl) | (rw [if_neg (by decide +kernel)]; exact ⟨rfl, rfl⟩))
    (fun os started H enc _ F => by rw [OpenClaim.pre_eq_preRow]; exact lifted os started H enc F)

theorem plain (f : FuncId) (fn : Func) (hf : Tryz.pinned.checked.prog.funcNamed "billiard/billiardlaw20.StepMoves" = some f) (hfn : Tryz.pinned.checked.prog.funcs[f]? = some fn) :
    false = Tryz.pinned.checked.prog.looks [] ∧ ∀ (j : Nat) t, fn.params[j]? = some t → Tryz.pinned.checked.prog.wantsStandIn t = false := by
  obtain rfl : f = 3 := Option.some.inj ((show Tryz.prog.funcNamed "billiard/billiardlaw20.StepMoves" = some 3 by kernel_rfl).symm.trans hf) |>.symm
  obtain rfl : fn = Tryz.f3 := (Option.some.inj (Tryz.func3.symm.trans hfn)).symm
  refine ⟨by kernel_rfl, fun j t ht => ?_⟩
  rw [prm] at ht
  have h22 : Tryz.prog.wantsStandIn 22 = false := by kernel_rfl
  have h24 : Tryz.prog.wantsStandIn 24 = false := by kernel_rfl
  have hm := Array.mem_of_getElem? ht
  simp only [List.mem_toArray, List.mem_cons, List.not_mem_nil, or_false] at hm
  rcases hm with rfl | rfl
  · exact h22
  · exact h24

theorem card : Rows.StepMovesCardSaid :=
  Claim7.holds_tied_plain_at .later [] _ _ _ _ said (fun _ h => by cases h) (by kernel_rfl) (fun _ h => by cases h) stepMoves_row_tie rfl ⟨rfl, rfl⟩ (by kernel_rfl) rfl plain (by kernel_rfl)
end Go.Proofs.YtpnknnlnkmhgpaaGreatDoor.stepMoves
