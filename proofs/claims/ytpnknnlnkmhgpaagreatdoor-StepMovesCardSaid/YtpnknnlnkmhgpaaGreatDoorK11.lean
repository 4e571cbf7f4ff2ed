/- Shown here: Walks: pairs.boxes and the map of contacts.All. Walks: the package cell. Conditions: none beyond those in each theorem. -/
import Derived.Test.YtpnknnlnkmhgpaaGreatDoorK10
namespace Go.Ev
open Go Proofs Bil

/-- bodies' boxes by key -/
def boxMap (v : List Body) : List (Int × Value) := v.foldl (fun m b => mput b.key (boxOf b).v m) []
abbrev mapE (b : Nat) (kvs : List (Int × Value)) : Ent := .gen b (MapIs (Value.int .u32) kvs)
theorem keyU : KeyOk Tryz.prog 36 (Value.int .u32) := keyInt (kd2 := .u32) (by kernel_rfl)
theorem boxes_f (v : List Body) (a : Option Addr) (cap : Nat) (hn : v.length ≤ 65536) :
    SX (GLS ++ [rowB a cap v]) 50 #[.slice a v.length cap] [] (fun b : Nat => .map (some b)) (fun b => [mapE b (boxMap v)]) := by
  refine Spec.enter Tryz.func50 (by kernel_rfl) (by kernel_rfl) fun w _ _ => ?_
  refine V.new (fun _ => by kernel_rfl) fun bm => ?_
  refine V.mapnew (Value.int .u32) 0 bm (by kernel_rfl) ?_
  refine V.cut 1 [3] (fun _ : Unit => [.map (some bm)]) (fun _ => [mapE bm (boxMap v)]) (fun _ => True) (fun F z _ => ?_) (fun after => ?_)
  · exact V.rete bm (.map (some bm)) [0] (by kernel_rfl) (by kernel_rfl) (by kernel_rfl) (by kernel_rfl) rfl trivial
  refine V.loop [3, 7, 8, 9] (fun k : Nat => [.map (some bm), .slice a v.length cap, .int .i64 (v.length : Int), .int .i64 (k : Int)])
    (fun k => [mapE bm (boxMap (v.take k))]) (fun k => k ≤ v.length) (fun k => v.length - k) 0 (by kernel_rfl) (by kernel_rfl) (by kernel_rfl) (Nat.zero_le _) ?_
  rintro F k hk again
  have hk : k ≤ v.length := hk
  refine V.ite (decide ((k : Int) < (v.length : Int))) (by kernel_rfl) (fun hlt => ?_) (fun hlt => ?_)
  · have hlt : (k : Int) < (v.length : Int) := of_decide_eq_true hlt
    have hlt : k < v.length := by omega
    have hb : v[k]? = some v[k] := List.getElem?_eq_getElem hlt
    have htk := take_succ_get hlt
    revert hb htk
    generalize v[k] = b
    intro hb htk
    refine V.rix 1002 k .i64 (.slice a v.length cap) 38 10 v.length (flat Body.cells v) (by kernel_rfl) (by kernel_rfl) (by kernel_rfl) hlt ?_
    refine V.part 1002 k b.cells (.slice a v.length cap) 38 10 v.length (flat Body.cells v) (by kernel_rfl) (by kernel_rfl) hlt (flat_at Body.cells 10 Body.cells_length v k b hb) ?_
    refine V.loads [2000] (by kernel_rfl) ?_
    refine V.unpart ?_
    refine V.new (fun _ => by kernel_rfl) fun b7 => ?_
    refine V.store 1 (by kernel_rfl) (by kernel_rfl) (by kernel_rfl) ?_
    refine V.drawn mix (by kernel_rfl) ?_
    refine VD.loads [1, 1] (by kernel_rfl) ?_
    refine VD.callg [1000, 1001] (boxOf_f b) (by kernel_rfl) (by kernel_rfl) 4 (by kernel_rfl) (by kernel_rfl) (by kernel_rfl) ?_
    refine VD.mapput 5 0 (t := 99) (kt := 36) (e := 106) (b := bm) (enc := Value.int .u32) (kvs := boxMap (v.take k)) b.key (boxOf b).v keyU (by kernel_rfl) (by kernel_rfl) (by kernel_rfl) (by kernel_rfl) (by kernel_rfl) ?_
    refine VD.done (by kernel_rfl) ?_
    refine V.keep [0] (by kernel_rfl) ?_
    refine V.norm 9 (.int .i64 (IntKind.wrap .i64 ((k : Int) + 1))) (.int .i64 ((k + 1 : Nat) : Int)) (by kernel_rfl) (vInt (w64_succ (by omega))) ?_
    refine V.conv ((show _ = [mapE bm (mput b.key (boxOf b).v (boxMap (v.take k)))] by kernel_rfl).trans ?_) rfl (again (k + 1) _ (show k + 1 ≤ _ by omega) (show v.length - (k + 1) < v.length - k by omega) (by kernel_rfl) (by kernel_rfl))
    show _ = [mapE bm (boxMap (v.take (k + 1)))]
    rw [htk, boxMap, boxMap, List.foldl_append]
    rfl
  · have hlt : ¬ (k : Int) < (v.length : Int) := of_decide_eq_false hlt
    have hk2 : k = v.length := by omega
    subst hk2
    have e : v.take v.length = v := List.take_length
    exact V.conv ((show _ = [mapE bm (boxMap (v.take v.length))] by kernel_rfl).trans (by rw [e])) rfl (after () _ trivial (by kernel_rfl) (by kernel_rfl))
end Go.Ev

namespace Go.Ev
open Go Proofs Bil

theorem cellOf_f (p : Vec) : PF 116 #[p.v] (cellX p).v := by
  refine PureFn.enter Tryz.func116 (by kernel_rfl) (by kernel_rfl) fun w => ?_
  refine V.new (fun _ => by kernel_rfl) fun b0 => ?_
  refine V.new (fun _ => by kernel_rfl) fun b1 => ?_
  refine V.loads [0, 0] (by kernel_rfl) ?_
  refine V.store 1 (by kernel_rfl) (by kernel_rfl) (by kernel_rfl) ?_
  exact V.retlp [1, 1] _ (by kernel_rfl) (by kernel_rfl) (by kernel_rfl) rfl
theorem pair_f (a b : Int) : PF 69 #[.int .u32 a, .int .u32 b] (pairOf a b).v := by
  refine PureFn.enter Tryz.func69 (by kernel_rfl) (by kernel_rfl) fun w => ?_
  refine V.new (fun _ => by kernel_rfl) fun b0 => ?_
  refine V.store 0 (by kernel_rfl) (by kernel_rfl) (by kernel_rfl) ?_
  exact V.retlp [0, 0] _ (by kernel_rfl) (by kernel_rfl) (by kernel_rfl) rfl
theorem span_f (a : Box) : PF 104 #[a.v] (if boxEmpty a = true then .tuple #[(Vec.v ⟨0, 0⟩), (Vec.v ⟨0, 0⟩), .bool false] else .tuple #[(spanLo a).v, (spanHi a).v, .bool true]) := by
  refine PureFn.enter Tryz.func104 (by kernel_rfl) (by kernel_rfl) fun w => ?_
  refine V.new (fun _ => by kernel_rfl) fun b0 => ?_
  refine V.new (fun _ => by kernel_rfl) fun b1 => ?_
  refine V.new (fun _ => by kernel_rfl) fun b2 => ?_
  refine V.loads [0] (by kernel_rfl) ?_
  refine V.callp (boxEmpty_f a) (by kernel_rfl) ?_
  refine V.ite (boxEmpty a) (by kernel_rfl) (fun h => ?_) (fun h => ?_)
  · refine V.drawn mix (by kernel_rfl) ?_
    refine VD.loads [1, 2] (by kernel_rfl) ?_
    refine VD.stores 2 (by kernel_rfl) (by kernel_rfl) 1 (by kernel_rfl) (by kernel_rfl) (by kernel_rfl) (by kernel_rfl) ?_
    refine VD.stores 3 (by kernel_rfl) (by kernel_rfl) 2 (by kernel_rfl) (by kernel_rfl) (by kernel_rfl) (by kernel_rfl) ?_
    refine VD.done (by kernel_rfl) ?_
    exact V.retlp [1, 1, 2, 2] (.tuple #[(Vec.v ⟨0, 0⟩), (Vec.v ⟨0, 0⟩), .bool false]) (by kernel_rfl) (by kernel_rfl) (by kernel_rfl) (by rw [if_pos h])
  · refine V.keep [1, 2, 0] (by kernel_rfl) ?_
    refine V.drawk 2 mix (by kernel_rfl) ?_
    refine VD.loads [0, 0, 0, 0] (by kernel_rfl) ?_
    refine VD.callp (cellOf_f ⟨a.x0, a.y0⟩) 5 (by kernel_rfl) (by kernel_rfl) (by kernel_rfl) ?_
    refine VD.callp (cellOf_f ⟨a.x1, a.y1⟩) 11 (by kernel_rfl) (by kernel_rfl) (by kernel_rfl) ?_
    refine VD.storek 2 12 (by kernel_rfl) (by kernel_rfl) (by kernel_rfl) 0 (by kernel_rfl) (by kernel_rfl) (by kernel_rfl) (by kernel_rfl) ?_
    refine VD.storek 2 13 (by kernel_rfl) (by kernel_rfl) (by kernel_rfl) 1 (by kernel_rfl) (by kernel_rfl) (by kernel_rfl) (by kernel_rfl) ?_
    refine VD.done (by kernel_rfl) ?_
    exact V.retlp [0, 0, 1, 1] (.tuple #[(spanLo a).v, (spanHi a).v, .bool true]) (by kernel_rfl) (by kernel_rfl) (by kernel_rfl) (by rw [if_neg (by rw [h]; decide)])
end Go.Ev
