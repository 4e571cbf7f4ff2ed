/- StepSplits holds for every input: several steps are made one after the other, their statistics are summed up, a free body remains valid. Condition: the package-level variables box.none and cell.factors hold what the program's text lays (the card ties this). -/
import Derived.Test.YtpnknnlnkmhgpaaGreatDoorCards
import Derived.Test.YtpnknnlnkmhgpaaGreatDoorTie
import Derived.Test.YtpnknnlnkmhgpaaGreatDoorK18
namespace Go.Proofs.YtpnknnlnkmhgpaaGreatDoor.stepSplits
open Go Proofs Bil Go.ChangeShapes Go.WideShapes Go.ChangeAt Go.RowKit Go.Ev

theorem own : ownKnob Tryz.prog.godebug = none := by kernel_rfl
theorem prm : (Tryz.f5).params = #[22, 5, 5] := by kernel_rfl
theorem u5 : Tryz.prog.underlying 5 = some (.int .u8) := by kernel_rfl
theorem mod4 {n : Int} (h0 : 0 ≤ n) : ∃ k : Nat, n.tmod 4 = (k : Int) ∧ k < 4 := by
  refine ⟨(n % 4).toNat, ?_, by omega⟩
  rw [Int.tmod_eq_emod_of_nonneg h0]
  omega

set_option maxRecDepth 100000 in
theorem contract (H : Type) (enc : TypeId × Value → H) (W : World) (base : Nat) (args : Array Value) (ds gs : List (DataW H)) (before : List MemPlace)
    (hval : ∀ (j : Nat) t v, (Tryz.f5).params[j]? = some t → args[j]? = some v → Value.okWide Tryz.prog W .any base t v)
    (hW : DataW.Whole enc Tryz.prog (Tryz.f5).params.toList Rows.stepSplitsSpec.vars false W args.toList ds gs before) (hL : laidMetH Tryz.prog Rows.stepSplitsRow.laid W) (hsh : W.ShapedOpen Tryz.prog) :
    Calls Tryz.prog 5 args W fun e W' => ∃ v, e = .returned v ∧ Rows.stepSplitsSpec.post enc Tryz.prog Tryz.f5 false true false false W args v W' := by
  have hW' := hW
  have hG : Gl GLS W := gls_of hsh hL
  have hpos : 0 < W.heap.size := by
    have h := hG _ (List.mem_cons_self)
    have := (Array.getElem?_eq_some_iff.1 (show W.heap[3]? = _ from h)).1
    omega
  obtain ⟨p, q, hA0, hV, rfl, hfz, hnd⟩ := hW
  have hA : DataW.TrodAll enc Tryz.prog W 0 (fun _ => true) true (Tryz.f5).params.toList args.toList ds p := hA0
  rw [prm] at hA hval
  obtain ⟨v0, vs0, d0, ds0, p0, q0, hargs, rfl, rfl, h0, r0⟩ := trodAll_cons hA
  obtain ⟨v1, vs1, d1, ds1, p1, q1, rfl, rfl, rfl, h1, r1⟩ := trodAll_cons r0
  obtain ⟨v2, vs2, d2, ds2, p2, q2, rfl, rfl, rfl, h2, r2⟩ := trodAll_cons r1
  obtain ⟨rfl, rfl, rfl⟩ := trodAll_nil r2
  obtain rfl : args = #[v0, v1, v2] := by cases args; simp_all
  obtain ⟨rfl, rfl⟩ := trodVars_none hV
  obtain ⟨a, l, cap, rfl, hok, hfit, hold⟩ := arg_of (hval 0 22 v0 rfl rfl) h0 hpos
  obtain ⟨n, rfl, rfl, rfl, wn⟩ := open_int u5 (hval 1 5 v1 rfl rfl) h1
  obtain ⟨m, rfl, rfl, rfl, wm⟩ := open_int u5 (hval 2 5 v2 rfl rfl) h2
  obtain ⟨na, hna, hna4⟩ := mod4 (bounds_u8 wn).1
  obtain ⟨nb, hnb, hnb4⟩ := mod4 (bounds_u8 wm).1
  have hall : Gl (GLS ++ [argE a l]) W := fun E hE => by
    rcases List.mem_append.1 hE with h | h
    · exact hG E h
    · rw [List.mem_singleton.1 h]; exact hold
  refine (splits_f l a cap hok n m na nb hna hnb hna4 hnb4 W hall).mono fun e W' he => ?_
  obtain ⟨rfl, hr⟩ := he
  exact ⟨_, rfl, law_post 4 hW' rfl rfl hr (by kernel_rfl) (by kernel_rfl) (by kernel_rfl) (by kernel_rfl)⟩

/-- a world for the witness: the settled one, the two variables holding what their initialisers lay -/
def setCells (cs : Array Value) (o : Obj) : Obj := match o with
  | .cells _ t frozen => .cells cs t frozen
  | o => o
noncomputable def laidWorld (os : Os) : World :=
  { World.holding Tryz.prog os ⟨#[], #[], []⟩ with heap := ((World.holding Tryz.prog os ⟨#[], #[], []⟩).heap.modify 3 (setCells #[.int .i32 1, .int .i32 0, .int .i32 0, .int .i32 0])).modify 0 (setCells #[.int .u32 73856093, .int .u32 19349663]) }
theorem laid_met (os : Os) : laidMet Tryz.prog Rows.stepSplitsRow.laid ((laidWorld os).forCall (fun _ _ => 0) ⟨#[], #[.slice none 0 0, .int .u8 0, .int .u8 0], []⟩).memory :=
  laidMet_of_run' 8 (by kernel_rfl) (by kernel_rfl)
theorem reads (os : Os) {H : Type} (enc : TypeId × Value → H) : ∃ places, DataW.whole enc Tryz.prog ((laidWorld os).forCall (fun _ _ => 0) ⟨#[], #[.slice none 0 0, .int .u8 0, .int .u8 0], []⟩).memory (Tryz.f5).params.toList Rows.stepSplitsSpec.vars false #[Value.slice none 0 0, Value.int .u8 0, Value.int .u8 0].toList 8 = some ([.nil, .lit (.int .u8 0), .lit (.int .u8 0)], [], places) :=
  ⟨[], by kernel_rfl⟩

set_option maxRecDepth 100000 in
theorem lifted (os : Os) (started : os.Started) (H : Type) (enc : TypeId × Value → H) (F : Stop.Interp) :
    ReturnsInHanded {} Tryz.checked os 5 .any ((OpenSpec.ofChange Rows.stepSplitsSpec).preRow enc Tryz.prog Tryz.f5 Rows.stepSplitsRow.domain false Rows.stepSplitsRow.laid) (((OpenSpec.ofChange Rows.stepSplitsSpec).at F).post enc Tryz.prog Tryz.f5 false true false false) := by
  obtain ⟨places, hx⟩ := reads os enc
  refine returnsInHanded_of_row (C := Tryz.checked) (s := OpenSpec.ofChange Rows.stepSplitsSpec) own started (by kernel_rfl) Tryz.func5
    (witness_row_at (enc := enc) (C := Tryz.checked) false (laidWorld os) #[.slice none 0 0, .int .u8 0, .int .u8 0] rfl (by kernel_rfl) (by kernel_rfl) (by kernel_rfl)
      (OpenSpec.preRow_of_cond 8 hx (by kernel_rfl) (fun k hk => by cases hk) (by kernel_rfl) (laid_met os))) ?_
  intro W base args ds gs before hval hW _ _ _ hL hsh _
  exact contract H enc W base args ds gs before hval hW hL hsh

theorem said : Rows.StepSplitsSaid :=
  OpenClaim.holds_of_cond 5 Tryz.f5 rfl rfl rfl rfl rfl rfl rfl ⟨rfl, rfl, rfl, rfl, rfl⟩ rfl rfl rfl rfl rfl (by kernel_rfl) Tryz.func5 (by kernel_rfl)
    (of_decide_eq_true (by kernel_rfl)) (by unfold Func.isWrapper; first | (rw [if_pos (by decide +kernel)]; kernel_rfl) | (rw [if_neg (by decide +kernel)]; exact ⟨rfl, rfl⟩))
    (fun os started H enc _ F => by rw [OpenClaim.pre_eq_preRow]; exact lifted os started H enc F)

theorem plain (f : FuncId) (fn : Func) (hf : Tryz.pinned.checked.prog.funcNamed "billiard/billiardlaw20.StepSplits" = some f) (hfn : Tryz.pinned.checked.prog.funcs[f]? = some fn) :
    false = Tryz.pinned.checked.prog.looks [] ∧ ∀ (j : Nat) t, fn.params[j]? = some t → Tryz.pinned.checked.prog.wantsStandIn t = false := by
  obtain rfl : f = 5 := Option.some.inj ((show Tryz.prog.funcNamed "billiard/billiardlaw20.StepSplits" = some 5 by kernel_rfl).symm.trans hf) |>.symm
  obtain rfl : fn = Tryz.f5 := (Option.some.inj (Tryz.func5.symm.trans hfn)).symm
  refine ⟨by kernel_rfl, fun j t ht => ?_⟩
  rw [prm] at ht
  have h22 : Tryz.prog.wantsStandIn 22 = false := by kernel_rfl
  have h5 : Tryz.prog.wantsStandIn 5 = false := by kernel_rfl
  have hm := Array.mem_of_getElem? ht
  simp only [List.mem_toArray, List.mem_cons, List.not_mem_nil, or_false] at hm
  rcases hm with rfl | rfl | rfl
  · exact h22
  · exact h5
  · exact h5

theorem card : Rows.StepSplitsCardSaid :=
  Claim7.holds_tied_plain_at .later [] _ _ _ _ said (fun _ h => by cases h) (by kernel_rfl) (fun _ h => by cases h) stepSplits_row_tie rfl ⟨rfl, rfl⟩ (by kernel_rfl) rfl plain (by kernel_rfl)
end Go.Proofs.YtpnknnlnkmhgpaaGreatDoor.stepSplits
