/- Shown here: Walks: the package jacobi. Walks: jacobi.Round and Solve. Walks: correct.Shifts. Conditions: none beyond those in each theorem. -/
import Derived.Test.YtpnknnlnkmhgpaaGreatDoorK8
namespace Go.Ev
open Go Proofs Bil

abbrev rowN (a : Option Addr) (cap n : Nat) (x : List Int) : Ent := .row (.slice a n cap) 2 1 n (ints x)
theorem rowOut_ints {x : List Int} {i : Nat} {z : Int} (h : i < x.length) : rowOut (ints x) (i * 1) [.int .i64 z] = ints (x.set i z) := by
  rw [Nat.mul_one]
  unfold rowOut splL ints
  rw [List.set_eq_take_append_cons_drop, if_pos h]
  simp
theorem bodyAt_get {v : List Body} {i : Nat} (h : i < v.length) : v[i]? = some (bodyAt v i) := by
  rw [bodyAt, List.getD_eq_getElem?_getD, List.getElem?_eq_getElem h]; rfl
/-- the struct of the sums -/
def sumsE (bs : Nat) (n : Nat) (a : Option Addr) (cap : Nat) (ax : Option Addr) (cx : Nat) (ay : Option Addr) (cy : Nat) : Ent :=
  .blk bs (.cells #[.slice a n cap, .slice ax n cx, .slice ay n cy] 154 (0, 0))
set_option maxHeartbeats 4000000 in
theorem add_f (v : List Body) (a : Option Addr) (cap : Nat) (c : Contact) (x y : List Int) (ax : Option Addr) (cx : Nat) (ay : Option Addr) (cy : Nat) (bs : Nat)
    (hs : Srt v) (hn : v.length ≤ 65536) (hx : x.length = v.length) (hy : y.length = v.length) (ha : ia v c < v.length) (hb : ib v c < v.length) :
    SX (GLS ++ [rowB a cap v, sumsE bs v.length a cap ax cx ay cy]) 79 #[ptr bs, c.v] [rowN ax cx v.length x, rowN ay cy v.length y] (fun _ : Unit => .tuple #[])
      (fun _ => [rowN ax cx v.length (addX v c c.nx x), rowN ay cy v.length (addX v c c.ny y)]) := by
  refine Spec.enter Tryz.func79 (by kernel_rfl) (by kernel_rfl) fun w _ _ => ?_
  refine V.new (fun _ => by kernel_rfl) fun b0 => ?_
  refine V.drawn mix (by kernel_rfl) ?_
  refine VD.loads [1003, 2] (by kernel_rfl) ?_
  refine VD.callg [1000, 1001, 1002] (find_f v a cap c.lo hs hn) (by kernel_rfl) (by kernel_rfl) 7 (by kernel_rfl) (by kernel_rfl) (by kernel_rfl) ?_
  refine VD.done (by kernel_rfl) ?_
  refine V.drawn mix (by kernel_rfl) ?_
  refine VD.loads [1003, 2] (by kernel_rfl) ?_
  refine VD.callg [1000, 1001, 1002] (find_f v a cap c.hi hs hn) (by kernel_rfl) (by kernel_rfl) 7 (by kernel_rfl) (by kernel_rfl) (by kernel_rfl) ?_
  refine VD.done (by kernel_rfl) ?_
  have hA := flat_at Body.cells 10 Body.cells_length v (ia v c) _ (bodyAt_get ha)
  have hB := flat_at Body.cells 10 Body.cells_length v (ib v c) _ (bodyAt_get hb)
  refine V.part 1002 (ia v c) (bodyAt v (ia v c)).cells (.slice a v.length cap) 38 10 v.length (flat Body.cells v) (by kernel_rfl) (by kernel_rfl) ha hA ?_
  refine V.part 1003 (ib v c) (bodyAt v (ib v c)).cells (.slice a v.length cap) 38 10 v.length (flat Body.cells v) (by kernel_rfl) (by kernel_rfl) hb hB ?_
  refine V.drawn mix (by kernel_rfl) ?_
  refine VD.loads [2, 1005, 1005] (by kernel_rfl) ?_
  refine VD.rix 6 1004 (ia v c) .i64 (.slice a v.length cap) 38 10 v.length (flat Body.cells v) (by kernel_rfl) (by kernel_rfl) (by kernel_rfl) (by kernel_rfl) ha ?_
  refine VD.rix 13 1004 (ib v c) .i64 (.slice a v.length cap) 38 10 v.length (flat Body.cells v) (by kernel_rfl) (by kernel_rfl) (by kernel_rfl) (by kernel_rfl) hb ?_
  refine VD.loads [2001, 2000] (by kernel_rfl) ?_
  refine VD.callg [1002, 1003] (strength_f c (bodyAt v (ia v c)) (bodyAt v (ib v c))) (by kernel_rfl) (by kernel_rfl) 15 (by kernel_rfl) (by kernel_rfl) (by kernel_rfl) ?_
  refine VD.done (by kernel_rfl) ?_
  refine V.drawn mix (by kernel_rfl) ?_
  refine VD.loads [1005, 2] (by kernel_rfl) ?_
  refine VD.rix 6 1004 (ia v c) .i64 (.slice a v.length cap) 38 10 v.length (flat Body.cells v) (by kernel_rfl) (by kernel_rfl) (by kernel_rfl) (by kernel_rfl) ha ?_
  refine VD.loads [6001] (by kernel_rfl) ?_
  refine VD.callg [1002, 1003] (change_f (jmp v c) (bodyAt v (ia v c)).inv ⟨c.nx, c.ny⟩ (strength_range _ _ _)) (by kernel_rfl) (by kernel_rfl) 11 (by kernel_rfl) (by kernel_rfl) (by kernel_rfl) ?_
  refine VD.done (by kernel_rfl) ?_
  refine V.focus 0 (ia v c) [.int .i64 (x.getD (ia v c) 0)] (.slice ax v.length cx) 2 1 v.length (ints x) (by kernel_rfl) ha (ints_at (by omega)) (by kernel_rfl) ?_
  refine V.focus 1 (ia v c) [.int .i64 (y.getD (ia v c) 0)] (.slice ay v.length cy) 2 1 v.length (ints y) (by kernel_rfl) ha (ints_at (by omega)) (by kernel_rfl) ?_
  refine V.drawn mix (by kernel_rfl) ?_
  refine VD.loads [1005, 1005, 1005, 1005] (by kernel_rfl) ?_
  refine VD.rixL 15 0 (ia v c) .i64 (.slice ax v.length cx) 2 1 v.length (ints x) (ia v c * 1) [.int .i64 (x.getD (ia v c) 0)] (by kernel_rfl) (by kernel_rfl) (by kernel_rfl) ha ?_
  refine VD.rixL 24 1 (ia v c) .i64 (.slice ay v.length cy) 2 1 v.length (ints y) (ia v c * 1) [.int .i64 (y.getD (ia v c) 0)] (by kernel_rfl) (by kernel_rfl) (by kernel_rfl) ha ?_
  refine VD.loads [500, 501] (by kernel_rfl) ?_
  refine VD.rixO 28 0 (ia v c) .i64 (.slice ax v.length cx) 2 1 v.length (ints x) (ia v c * 1) [.int .i64 (x.getD (ia v c) 0)] (by kernel_rfl) (by kernel_rfl) (by kernel_rfl) (by kernel_rfl) ha ?_
  refine VD.rst 29 0 0 (.slice ax v.length cx) 2 1 v.length (ints x) (ia v c * 1) [.int .i64 (x.getD (ia v c) 0)] [.int .i64 (w64 (x.getD (ia v c) 0 - change (jmp v c) (bodyAt v (ia v c)).inv c.nx))] (by kernel_rfl) (by kernel_rfl) (by kernel_rfl) (by kernel_rfl) (by kernel_rfl) (by kernel_rfl) (by kernel_rfl) ?_
  refine VD.rixO 30 1 (ia v c) .i64 (.slice ay v.length cy) 2 1 v.length (ints y) (ia v c * 1) [.int .i64 (y.getD (ia v c) 0)] (by kernel_rfl) (by kernel_rfl) (by kernel_rfl) (by kernel_rfl) ha ?_
  refine VD.rst 31 1 0 (.slice ay v.length cy) 2 1 v.length (ints y) (ia v c * 1) [.int .i64 (y.getD (ia v c) 0)] [.int .i64 (w64 (y.getD (ia v c) 0 - change (jmp v c) (bodyAt v (ia v c)).inv c.ny))] (by kernel_rfl) (by kernel_rfl) (by kernel_rfl) (by kernel_rfl) (by kernel_rfl) (by kernel_rfl) (by kernel_rfl) ?_
  refine VD.done (by kernel_rfl) ?_
  refine V.unfocus 0 (.slice ax v.length cx) 2 1 v.length (rowOut (ints x) (ia v c * 1) [.int .i64 (w64 (x.getD (ia v c) 0 - change (jmp v c) (bodyAt v (ia v c)).inv c.nx))]) (ia v c * 1) [.int .i64 (w64 (x.getD (ia v c) 0 - change (jmp v c) (bodyAt v (ia v c)).inv c.nx))] (by kernel_rfl) ?_
  refine V.unfocus 1 (.slice ay v.length cy) 2 1 v.length (rowOut (ints y) (ia v c * 1) [.int .i64 (w64 (y.getD (ia v c) 0 - change (jmp v c) (bodyAt v (ia v c)).inv c.ny))]) (ia v c * 1) [.int .i64 (w64 (y.getD (ia v c) 0 - change (jmp v c) (bodyAt v (ia v c)).inv c.ny))] (by kernel_rfl) ?_
  refine V.conv (L' := [rowN ax cx v.length (setA v c c.nx x), rowN ay cy v.length (setA v c c.ny y), .blk b0 (.cells c.cells.toArray 90 (0, 0))]) ((show _ = [.row (.slice ax v.length cx) 2 1 v.length (rowOut (ints x) (ia v c * 1) [.int .i64 (w64 (x.getD (ia v c) 0 - change (jmp v c) (bodyAt v (ia v c)).inv c.nx))]), .row (.slice ay v.length cy) 2 1 v.length (rowOut (ints y) (ia v c * 1) [.int .i64 (w64 (y.getD (ia v c) 0 - change (jmp v c) (bodyAt v (ia v c)).inv c.ny))]), .blk b0 (.cells c.cells.toArray 90 (0, 0))] by kernel_rfl).trans (by rw [rowOut_ints (by omega), rowOut_ints (by omega)]; rfl)) rfl ?_
  have hx1 : (setA v c c.nx x).length = v.length := by rw [setA_length, hx]
  have hy1 : (setA v c c.ny y).length = v.length := by rw [setA_length, hy]
  have eX : addX v c c.nx x = setB v c c.nx (setA v c c.nx x) := rfl
  have eY : addX v c c.ny y = setB v c c.ny (setA v c c.ny y) := rfl
  rw [eX, eY]
  clear eX eY
  generalize setA v c c.nx x = x1 at *
  generalize setA v c c.ny y = y1 at *
  refine V.drawn mix (by kernel_rfl) ?_
  refine VD.loads [1005, 2] (by kernel_rfl) ?_
  refine VD.rix 6 1004 (ib v c) .i64 (.slice a v.length cap) 38 10 v.length (flat Body.cells v) (by kernel_rfl) (by kernel_rfl) (by kernel_rfl) (by kernel_rfl) hb ?_
  refine VD.loads [6000] (by kernel_rfl) ?_
  refine VD.callg [1002, 1003] (change_f (jmp v c) (bodyAt v (ib v c)).inv ⟨c.nx, c.ny⟩ (strength_range _ _ _)) (by kernel_rfl) (by kernel_rfl) 11 (by kernel_rfl) (by kernel_rfl) (by kernel_rfl) ?_
  refine VD.done (by kernel_rfl) ?_
  refine V.focus 0 (ib v c) [.int .i64 (x1.getD (ib v c) 0)] (.slice ax v.length cx) 2 1 v.length (ints x1) (by kernel_rfl) hb (ints_at (by omega)) (by kernel_rfl) ?_
  refine V.focus 1 (ib v c) [.int .i64 (y1.getD (ib v c) 0)] (.slice ay v.length cy) 2 1 v.length (ints y1) (by kernel_rfl) hb (ints_at (by omega)) (by kernel_rfl) ?_
  refine V.drawn mix (by kernel_rfl) ?_
  refine VD.loads [1005, 1005, 1005, 1005] (by kernel_rfl) ?_
  refine VD.rixL 15 0 (ib v c) .i64 (.slice ax v.length cx) 2 1 v.length (ints x1) (ib v c * 1) [.int .i64 (x1.getD (ib v c) 0)] (by kernel_rfl) (by kernel_rfl) (by kernel_rfl) hb ?_
  refine VD.rixL 24 1 (ib v c) .i64 (.slice ay v.length cy) 2 1 v.length (ints y1) (ib v c * 1) [.int .i64 (y1.getD (ib v c) 0)] (by kernel_rfl) (by kernel_rfl) (by kernel_rfl) hb ?_
  refine VD.loads [500, 501] (by kernel_rfl) ?_
  refine VD.rixO 28 0 (ib v c) .i64 (.slice ax v.length cx) 2 1 v.length (ints x1) (ib v c * 1) [.int .i64 (x1.getD (ib v c) 0)] (by kernel_rfl) (by kernel_rfl) (by kernel_rfl) (by kernel_rfl) hb ?_
  refine VD.rst 29 0 0 (.slice ax v.length cx) 2 1 v.length (ints x1) (ib v c * 1) [.int .i64 (x1.getD (ib v c) 0)] [.int .i64 (w64 (x1.getD (ib v c) 0 + change (jmp v c) (bodyAt v (ib v c)).inv c.nx))] (by kernel_rfl) (by kernel_rfl) (by kernel_rfl) (by kernel_rfl) (by kernel_rfl) (by kernel_rfl) (by kernel_rfl) ?_
  refine VD.rixO 30 1 (ib v c) .i64 (.slice ay v.length cy) 2 1 v.length (ints y1) (ib v c * 1) [.int .i64 (y1.getD (ib v c) 0)] (by kernel_rfl) (by kernel_rfl) (by kernel_rfl) (by kernel_rfl) hb ?_
  refine VD.rst 31 1 0 (.slice ay v.length cy) 2 1 v.length (ints y1) (ib v c * 1) [.int .i64 (y1.getD (ib v c) 0)] [.int .i64 (w64 (y1.getD (ib v c) 0 + change (jmp v c) (bodyAt v (ib v c)).inv c.ny))] (by kernel_rfl) (by kernel_rfl) (by kernel_rfl) (by kernel_rfl) (by kernel_rfl) (by kernel_rfl) (by kernel_rfl) ?_
  refine VD.done (by kernel_rfl) ?_
  refine V.unfocus 0 (.slice ax v.length cx) 2 1 v.length (rowOut (ints x1) (ib v c * 1) [.int .i64 (w64 (x1.getD (ib v c) 0 + change (jmp v c) (bodyAt v (ib v c)).inv c.nx))]) (ib v c * 1) [.int .i64 (w64 (x1.getD (ib v c) 0 + change (jmp v c) (bodyAt v (ib v c)).inv c.nx))] (by kernel_rfl) ?_
  refine V.unfocus 1 (.slice ay v.length cy) 2 1 v.length (rowOut (ints y1) (ib v c * 1) [.int .i64 (w64 (y1.getD (ib v c) 0 + change (jmp v c) (bodyAt v (ib v c)).inv c.ny))]) (ib v c * 1) [.int .i64 (w64 (y1.getD (ib v c) 0 + change (jmp v c) (bodyAt v (ib v c)).inv c.ny))] (by kernel_rfl) ?_
  exact V.rete () (.tuple #[]) [0, 1] (by kernel_rfl) (by kernel_rfl) (by kernel_rfl) ((show _ = [.row (.slice ax v.length cx) 2 1 v.length (rowOut (ints x1) (ib v c * 1) [.int .i64 (w64 (x1.getD (ib v c) 0 + change (jmp v c) (bodyAt v (ib v c)).inv c.nx))]), .row (.slice ay v.length cy) 2 1 v.length (rowOut (ints y1) (ib v c * 1) [.int .i64 (w64 (y1.getD (ib v c) 0 + change (jmp v c) (bodyAt v (ib v c)).inv c.ny))])] by kernel_rfl).trans (by rw [rowOut_ints (by omega), rowOut_ints (by omega)]; rfl)) rfl trivial

abbrev rowC (a : Option Addr) (cap : Nat) (l : List Contact) : Ent := .row (.slice a l.length cap) 90 5 l.length (flat Contact.cells l)
theorem each_f (v : List Body) (a : Option Addr) (cap : Nat) (l : List Contact) (al : Option Addr) (cl : Nat) (x y : List Int) (ax : Option Addr) (cx : Nat) (ay : Option Addr) (cy : Nat) (bs : Nat)
    (hs : Srt v) (hn : v.length ≤ 65536) (hl : l.length ≤ 4294967296) (hx : x.length = v.length) (hy : y.length = v.length) (hb : Both v l) :
    SX (GLS ++ [rowB a cap v, sumsE bs v.length a cap ax cx ay cy, rowC al cl l]) 78 #[.slice al l.length cl, .func (.func 79) #[ptr bs] #[]] [rowN ax cx v.length x, rowN ay cy v.length y] (fun _ : Unit => .tuple #[])
      (fun _ => [rowN ax cx v.length (addsX v l x), rowN ay cy v.length (addsY v l y)]) := by
  refine Spec.enter Tryz.func78 (by kernel_rfl) (by kernel_rfl) fun w _ _ => ?_
  refine V.loop [6, 7, 8, 1] (fun k : Nat => [.slice al l.length cl, .int .i64 (l.length : Int), .int .i64 (k : Int), .func (.func 79) #[ptr bs] #[]])
    (fun k => [rowN ax cx v.length (addsX v (l.take k) x), rowN ay cy v.length (addsY v (l.take k) y)]) (fun k => k ≤ l.length) (fun k => l.length - k) 0
    (by kernel_rfl) (by kernel_rfl) rfl (Nat.zero_le _) ?_
  rintro F k hk again
  have hk : k ≤ l.length := hk
  refine V.ite (decide ((k : Int) < (l.length : Int))) (by kernel_rfl) (fun hlt => ?_) (fun hlt => ?_)
  · have hlt : (k : Int) < (l.length : Int) := of_decide_eq_true hlt
    have hlt : k < l.length := by omega
    have hc : l[k]? = some l[k] := List.getElem?_eq_getElem hlt
    have htk := take_succ_get hlt
    have hbb := hb _ (List.getElem_mem hlt)
    revert hc htk hbb
    generalize l[k] = c
    intro hc htk hbb
    refine V.rix 1004 k .i64 (.slice al l.length cl) 90 5 l.length (flat Contact.cells l) (by kernel_rfl) (by kernel_rfl) (by kernel_rfl) hlt ?_
    refine V.part 1004 k c.cells (.slice al l.length cl) 90 5 l.length (flat Contact.cells l) (by kernel_rfl) (by kernel_rfl) hlt (flat_at Contact.cells 5 Contact.cells_length l k c hc) ?_
    refine V.loads [2000] (by kernel_rfl) ?_
    refine V.unpart ?_
    refine V.new (fun _ => by kernel_rfl) fun b7 => ?_
    refine V.store 2 (by kernel_rfl) (by kernel_rfl) (by kernel_rfl) ?_
    refine V.loads [2] (by kernel_rfl) ?_
    refine V.callcg [1000, 1001, 1002, 1003] 2 (add_f v a cap c (addsX v (l.take k) x) (addsY v (l.take k) y) ax cx ay cy bs hs hn (by rw [addsX_length, hx]) (by rw [addsY_length, hy]) hbb.1 hbb.2) (by kernel_rfl) (by kernel_rfl) (by kernel_rfl) (by kernel_rfl) (by kernel_rfl) (fun _ _ => trivial) fun _ _ => ?_
    refine V.keep [0, 1] (by kernel_rfl) ?_
    refine V.norm 8 (.int .i64 (IntKind.wrap .i64 ((k : Int) + 1))) (.int .i64 ((k + 1 : Nat) : Int)) (by kernel_rfl) (vInt (w64_succ (by omega))) ?_
    refine V.conv ((show _ = [rowN ax cx v.length (addX v c c.nx (addsX v (l.take k) x)), rowN ay cy v.length (addX v c c.ny (addsY v (l.take k) y))] by kernel_rfl).trans ?_) rfl (again (k + 1) _ (show k + 1 ≤ _ by omega) (show l.length - (k + 1) < l.length - k by omega) (by kernel_rfl) (by kernel_rfl))
    show _ = [rowN ax cx v.length (addsX v (l.take (k + 1)) x), rowN ay cy v.length (addsY v (l.take (k + 1)) y)]
    rw [htk, addsX, addsY, addsX, addsY, List.foldl_append, List.foldl_append]
    rfl
  · have hlt : ¬ (k : Int) < (l.length : Int) := of_decide_eq_false hlt
    have hk2 : k = l.length := by omega
    subst hk2
    have e : l.take l.length = l := List.take_length
    exact V.rete () (.tuple #[]) [0, 1] (by kernel_rfl) (by kernel_rfl) (by kernel_rfl) ((show _ = [rowN ax cx v.length (addsX v (l.take l.length) x), rowN ay cy v.length (addsY v (l.take l.length) y)] by kernel_rfl).trans (by rw [e])) rfl trivial

theorem made_ints (n : Nat) : (madeCells #[.int .i64 0] (n * 1)).toList = ints (List.replicate n 0) := by
  rw [Nat.mul_one, toList_madeCells_one, ints, List.map_replicate]
theorem sums_f (v : List Body) (a : Option Addr) (cap : Nat) (l : List Contact) (al : Option Addr) (cl : Nat) (hs : Srt v) (hn : v.length ≤ 65536) (hl : l.length ≤ 4294967296) (hb : Both v l) :
    SX (GLS ++ [rowB a cap v, rowC al cl l]) 56 #[.slice a v.length cap, .slice al l.length cl] [] (fun x : Nat × Nat => .tuple #[.slice (some ⟨x.1, 0, none⟩) v.length v.length, .slice (some ⟨x.2, 0, none⟩) v.length v.length])
      (fun x => [rowN (some ⟨x.1, 0, none⟩) v.length v.length (sumX v l), rowN (some ⟨x.2, 0, none⟩) v.length v.length (sumY v l)]) := by
  refine Spec.enter Tryz.func56 (by kernel_rfl) (by kernel_rfl) fun w _ _ => ?_
  refine V.drawn mix (by kernel_rfl) ?_
  refine VD.two 3 6 (by kernel_rfl) (by kernel_rfl) ?_ ?_
  · refine G1.make 3 v.length 1 8 (t := 115) (e := 2) (kl := .i64) (kc := .i64) (by kernel_rfl) (by kernel_rfl) (by simp only [maxLen]; omega) (by omega) (ints (List.replicate v.length 0)) (by rw [← made_ints]; kernel_rfl) fun bx => ?_
    refine VD.make 6 v.length 1 8 (t := 115) (e := 2) (kl := .i64) (kc := .i64) (by kernel_rfl) (by kernel_rfl) (by kernel_rfl) (by kernel_rfl) (by simp only [maxLen]; omega) (by omega) (ints (List.replicate v.length 0)) (by rw [← made_ints]; kernel_rfl) fun by' => ?_
    refine VD.new 8 (by kernel_rfl) (by kernel_rfl) (fun _ => by kernel_rfl) fun bs => ?_
    refine VD.done (by kernel_rfl) ?_
    refine V.keep [0, 1, 2] (by kernel_rfl) ?_
    refine V.callcg [1000, 1001, 1002, 2, 1003] 2 (each_f v a cap l al cl (List.replicate v.length 0) (List.replicate v.length 0) (some ⟨bx, 0, none⟩) v.length (some ⟨by', 0, none⟩) v.length bs hs hn hl (by simp) (by simp) hb) (by kernel_rfl) (by kernel_rfl) (by kernel_rfl) (by kernel_rfl) (by kernel_rfl) (fun _ _ => trivial) fun _ _ => ?_
    refine V.drawn mix (by kernel_rfl) ?_
    refine VD.loads [2, 2] (by kernel_rfl) ?_
    refine VD.done (by kernel_rfl) ?_
    exact V.rete (bx, by') (.tuple #[.slice (some ⟨bx, 0, none⟩) v.length v.length, .slice (some ⟨by', 0, none⟩) v.length v.length]) [0, 1] (by kernel_rfl) (by kernel_rfl) (by kernel_rfl) (by kernel_rfl) rfl trivial
  · refine G1.make 6 v.length 1 8 (t := 115) (e := 2) (kl := .i64) (kc := .i64) (by kernel_rfl) (by kernel_rfl) (by simp only [maxLen]; omega) (by omega) (ints (List.replicate v.length 0)) (by rw [← made_ints]; kernel_rfl) fun by' => ?_
    refine VD.make 3 v.length 1 8 (t := 115) (e := 2) (kl := .i64) (kc := .i64) (by kernel_rfl) (by kernel_rfl) (by kernel_rfl) (by kernel_rfl) (by simp only [maxLen]; omega) (by omega) (ints (List.replicate v.length 0)) (by rw [← made_ints]; kernel_rfl) fun bx => ?_
    refine VD.new 8 (by kernel_rfl) (by kernel_rfl) (fun _ => by kernel_rfl) fun bs => ?_
    refine VD.done (by kernel_rfl) ?_
    refine V.keep [1, 0, 2] (by kernel_rfl) ?_
    refine V.callcg [1000, 1001, 1002, 2, 1003] 2 (each_f v a cap l al cl (List.replicate v.length 0) (List.replicate v.length 0) (some ⟨bx, 0, none⟩) v.length (some ⟨by', 0, none⟩) v.length bs hs hn hl (by simp) (by simp) hb) (by kernel_rfl) (by kernel_rfl) (by kernel_rfl) (by kernel_rfl) (by kernel_rfl) (fun _ _ => trivial) fun _ _ => ?_
    refine V.drawn mix (by kernel_rfl) ?_
    refine VD.loads [2, 2] (by kernel_rfl) ?_
    refine VD.done (by kernel_rfl) ?_
    exact V.rete (bx, by') (.tuple #[.slice (some ⟨bx, 0, none⟩) v.length v.length, .slice (some ⟨by', 0, none⟩) v.length v.length]) [0, 1] (by kernel_rfl) (by kernel_rfl) (by kernel_rfl) (by kernel_rfl) rfl trivial
end Go.Ev

namespace Go.Ev
open Go Proofs Bil

theorem round_f (v : List Body) (a : Option Addr) (cap : Nat) (l : List Contact) (al : Option Addr) (cl : Nat) (hs : Srt v) (hn : v.length ≤ 65536) (hl : l.length ≤ 4294967296) (hb : Both v l) :
    SX (GLS ++ [rowB a cap v, rowC al cl l]) 44 #[.slice a v.length cap, .slice al l.length cl] [] (fun x : Option Addr × Nat => .tuple #[.slice x.1 v.length x.2, .bool (roundH v l)]) (fun x => [rowB x.1 x.2 (roundV v l)]) := by
  refine Spec.enter Tryz.func44 (by kernel_rfl) (by kernel_rfl) fun w _ _ => ?_
  refine V.call0 [1000, 1001, 1002, 1003] (sums_f v a cap l al cl hs hn hl hb) (by kernel_rfl) (by kernel_rfl) (by kernel_rfl) (fun _ _ => trivial) fun bxy _ => ?_
  obtain ⟨bx, by'⟩ := bxy
  obtain ⟨x, hx⟩ : ∃ x, x = sumX v l := ⟨_, rfl⟩
  obtain ⟨y, hy⟩ : ∃ y, y = sumY v l := ⟨_, rfl⟩
  have hxl : x.length = v.length := by rw [hx, sumX_length]
  have hyl : y.length = v.length := by rw [hy, sumY_length]
  refine V.conv (L' := [rowN (some ⟨bx, 0, none⟩) v.length v.length x, rowN (some ⟨by', 0, none⟩) v.length v.length y]) (by rw [hx, hy]; rfl) rfl ?_
  refine V.freeze 2 fun w1 hR => ?_
  refine V.nilrow 38 10 ?_
  refine V.cut 1 [9, 8] (fun z : Option Addr × Nat => [.slice z.1 v.length z.2, .bool (anyI (rndH x y) 0 v)]) (fun z => [rowB z.1 z.2 (mapI (rndB x y) 0 v)]) (fun _ => True) (fun F z _ => ?_) (fun after => ?_)
  · refine V.retf hR z (.tuple #[.slice z.1 v.length z.2, .bool (anyI (rndH x y) 0 v)]) [0] (by kernel_rfl) (by kernel_rfl) (by kernel_rfl) ?_ ?_ trivial
    · rw [hx, hy]; kernel_rfl
    · rw [hx, hy]; rfl
  refine V.loop [9, 22, 23, 24, 6, 7, 8] (fun z : Nat × Option Addr × Nat => [.slice z.2.1 z.1 z.2.2, .slice a v.length cap, .int .i64 (v.length : Int), .int .i64 (z.1 : Int), .slice (some ⟨bx, 0, none⟩) v.length v.length, .slice (some ⟨by', 0, none⟩) v.length v.length, .bool (anyI (rndH x y) 0 (v.take z.1))])
    (fun z => [.row (.slice z.2.1 z.1 z.2.2) 38 10 z.1 (flat Body.cells (mapI (rndB x y) 0 (v.take z.1)))]) (fun z => z.1 ≤ v.length) (fun z => v.length - z.1) (0, none, 0)
    (by kernel_rfl) (by kernel_rfl) rfl (Nat.zero_le _) ?_
  rintro F ⟨k, a', cap'⟩ hk again
  have hk : k ≤ v.length := hk
  refine V.ite (decide ((k : Int) < (v.length : Int))) (by kernel_rfl) (fun hlt => ?_) (fun hlt => ?_)
  · have hlt : (k : Int) < (v.length : Int) := of_decide_eq_true hlt
    have hlt : k < v.length := by omega
    have hb : v[k]? = some v[k] := List.getElem?_eq_getElem hlt
    have htk := take_succ_get hlt
    revert hb htk
    generalize v[k] = b
    intro hb htk
    refine V.rix 1002 k .i64 (.slice a v.length cap) 38 10 v.length (flat Body.cells v) (by kernel_rfl) (by kernel_rfl) (by kernel_rfl) hlt ?_
    refine V.part 1002 k b.cells (.slice a v.length cap) 38 10 v.length (flat Body.cells v) (by kernel_rfl) (by kernel_rfl) hlt (flat_at Body.cells 10 Body.cells_length v k b hb) ?_
    refine V.loads [2000] (by kernel_rfl) ?_
    refine V.unpart ?_
    refine V.new (fun _ => by kernel_rfl) fun b7 => ?_
    refine V.store 1 (by kernel_rfl) (by kernel_rfl) (by kernel_rfl) ?_
    refine V.part 1004 k [.int .i64 (x.getD k 0)] (.slice (some ⟨bx, 0, none⟩) v.length v.length) 2 1 v.length (ints x) (by kernel_rfl) (by kernel_rfl) hlt (ints_at (by omega)) ?_
    refine V.part 1006 k [.int .i64 (y.getD k 0)] (.slice (some ⟨by', 0, none⟩) v.length v.length) 2 1 v.length (ints y) (by kernel_rfl) (by kernel_rfl) hlt (ints_at (by omega)) ?_
    refine V.drawn mix (by kernel_rfl) ?_
    refine VD.loads [1] (by kernel_rfl) ?_
    refine VD.rix 6 1006 k .i64 (.slice (some ⟨bx, 0, none⟩) v.length v.length) 2 1 v.length (ints x) (by kernel_rfl) (by kernel_rfl) (by kernel_rfl) (by kernel_rfl) hlt ?_
    refine VD.loads [2001] (by kernel_rfl) ?_
    refine VD.callg [1002, 1003] (limit_f (w64 (w64 b.vx + x.getD k 0)) 16777216) (by kernel_rfl) (by kernel_rfl) 9 (by kernel_rfl) (by kernel_rfl) (by kernel_rfl) ?_
    refine VD.done (by kernel_rfl) ?_
    refine V.drawn mix (by kernel_rfl) ?_
    refine VD.loads [1] (by kernel_rfl) ?_
    refine VD.rix 6 1007 k .i64 (.slice (some ⟨by', 0, none⟩) v.length v.length) 2 1 v.length (ints y) (by kernel_rfl) (by kernel_rfl) (by kernel_rfl) (by kernel_rfl) hlt ?_
    refine VD.loads [2000] (by kernel_rfl) ?_
    refine VD.callg [1002, 1003] (limit_f (w64 (w64 b.vy + y.getD k 0)) 16777216) (by kernel_rfl) (by kernel_rfl) 9 (by kernel_rfl) (by kernel_rfl) (by kernel_rfl) ?_
    refine VD.done (by kernel_rfl) ?_
    refine V.unpart ?_
    refine V.unpart ?_
    refine V.store 1 (by kernel_rfl) (by kernel_rfl) (by kernel_rfl) ?_
    refine V.cut 6 [9, 22, 23, 24, 6, 7, 8, 11] (fun _ : Unit => [.slice a' k cap', .slice a v.length cap, .int .i64 (v.length : Int), .int .i64 (k : Int), .slice (some ⟨bx, 0, none⟩) v.length v.length, .slice (some ⟨by', 0, none⟩) v.length v.length, .bool (anyI (rndH x y) 0 (v.take (k + 1))), ptr b7])
      (fun _ => [.row (.slice a' k cap') 38 10 k (flat Body.cells (mapI (rndB x y) 0 (v.take k))), .blk b7 (.cells (rndB x y k b).cells.toArray 38 (0, 0))]) (fun _ => True) (fun F _ _ => ?_) (fun after2 => ?_)
    · refine V.loads [1] (by kernel_rfl) ?_
      refine V.new (fun _ => by kernel_rfl) fun b9 => ?_
      refine V.append 0 2 40 (t := 22) (e := 38) (size := 10) (n := k) (m := 1) (b := b9) (c := 1) (T := 38) (v := .slice a' k cap') (xs := flat Body.cells (mapI (rndB x y) 0 (v.take k))) (cs := (rndB x y k b).cells.toArray)
        (by kernel_rfl) (by kernel_rfl) (by kernel_rfl) (by kernel_rfl) (by kernel_rfl) (by kernel_rfl) (by simp only [maxLen]; omega) (by omega) fun a2 cap2 => ?_
      refine V.keep [0] (by kernel_rfl) ?_
      refine V.norm 24 (.int .i64 (IntKind.wrap .i64 ((k : Int) + 1))) (.int .i64 ((k + 1 : Nat) : Int)) (by kernel_rfl) (vInt (w64_succ (by omega))) ?_
      refine V.conv ((show _ = [Ent.row (.slice a2 (k + 1) cap2) 38 10 (k + 1) (flat Body.cells (mapI (rndB x y) 0 (v.take k)) ++ (rndB x y k b).cells)] by kernel_rfl).trans ?_) rfl (again (k + 1, a2, cap2) _ (show k + 1 ≤ _ by omega) (show v.length - (k + 1) < v.length - k by omega) (by kernel_rfl) (by kernel_rfl))
      have hl : (v.take k).length = k := by rw [List.length_take]; omega
      show _ = [Ent.row (.slice a2 (k + 1) cap2) 38 10 (k + 1) (flat Body.cells (mapI (rndB x y) 0 (v.take (k + 1))))]
      rw [htk, mapI_append, flat_append, hl, Nat.zero_add]
      have e1 : flat Body.cells (mapI (rndB x y) k [b]) = (rndB x y k b).cells := by simp [mapI, flat]
      rw [e1]
    · have hany : anyI (rndH x y) 0 (v.take (k + 1)) = (anyI (rndH x y) 0 (v.take k) || ((rndX x k b).2 || (rndY y k b).2)) := by
        have hl : (v.take k).length = k := by rw [List.length_take]; omega
        rw [htk, anyI_append, hl, Nat.zero_add]
        simp [anyI, rndH]
      refine V.grd 62 (anyI (rndH x y) 0 (v.take k)) (by kernel_rfl) (fun h => ?_) (fun h => ?_)
      · refine V.grdb 65 true true (by kernel_rfl) rfl ?_
        refine V.norm 8 (.bool true) (.bool (anyI (rndH x y) 0 (v.take (k + 1)))) (by kernel_rfl) (by rw [hany, h]; rfl) ?_
        exact V.conv (by kernel_rfl) rfl (after2 () _ trivial (by kernel_rfl) (by kernel_rfl))
      · refine V.grd 65 (rndX x k b).2 (by kernel_rfl) (fun h2 => ?_) (fun h2 => ?_)
        · refine V.norm 8 (.bool true) (.bool (anyI (rndH x y) 0 (v.take (k + 1)))) (by kernel_rfl) (by rw [hany, h, h2]; rfl) ?_
          exact V.conv (by kernel_rfl) rfl (after2 () _ trivial (by kernel_rfl) (by kernel_rfl))
        · refine V.norm 8 (.bool (rndY y k b).2) (.bool (anyI (rndH x y) 0 (v.take (k + 1)))) (by kernel_rfl) (by rw [hany, h, h2]; rfl) ?_
          exact V.conv (by kernel_rfl) rfl (after2 () _ trivial (by kernel_rfl) (by kernel_rfl))
  · have hlt : ¬ (k : Int) < (v.length : Int) := of_decide_eq_false hlt
    have hk2 : k = v.length := by omega
    subst hk2
    have e : v.take v.length = v := List.take_length
    refine V.norm 8 (.bool (anyI (rndH x y) 0 (v.take v.length))) (.bool (anyI (rndH x y) 0 v)) (by kernel_rfl) (by rw [e]) ?_
    refine V.conv ((show _ = [Ent.row (.slice a' v.length cap') 38 10 v.length (flat Body.cells (mapI (rndB x y) 0 (v.take v.length)))] by kernel_rfl).trans ?_) rfl (after (a', cap') _ trivial (by kernel_rfl) (by kernel_rfl))
    rw [e, rowB, mapI_length]
theorem solve_f (v : List Body) (a : Option Addr) (cap : Nat) (l : List Contact) (al : Option Addr) (cl : Nat) (hs : Srt v) (hn : v.length ≤ 65536) (hl : l.length ≤ 4294967296) (hb : Both v l) :
    SX (GLS ++ [rowC al cl l]) 31 #[.slice a v.length cap, .slice al l.length cl] [rowB a cap v] (fun x : Option Addr × Nat => .tuple #[.slice x.1 (iterV v l 4).length x.2, .bool (iterH v l 4)]) (fun x => [rowB x.1 x.2 (iterV v l 4)]) := by
  refine Spec.enter Tryz.func31 (by kernel_rfl) (by kernel_rfl) fun w _ _ => ?_
  refine V.cut 1 [0, 6] (fun z : Option Addr × Nat => [.slice z.1 (iterV v l 4).length z.2, .bool (iterH v l 4)]) (fun z => [rowB z.1 z.2 (iterV v l 4)]) (fun _ => True) (fun F z _ => ?_) (fun after => ?_)
  · exact V.rete z (.tuple #[.slice z.1 (iterV v l 4).length z.2, .bool (iterH v l 4)]) [0] (by kernel_rfl) (by kernel_rfl) (by kernel_rfl) (by kernel_rfl) rfl trivial
  refine V.loop [0, 1, 6, 9] (fun z : Nat × Option Addr × Nat => [.slice z.2.1 (iterV v l z.1).length z.2.2, .slice al l.length cl, .bool (iterH v l z.1), .int .i64 (z.1 : Int)])
    (fun z => [rowB z.2.1 z.2.2 (iterV v l z.1)]) (fun z => z.1 ≤ 4) (fun z => 4 - z.1) (0, a, cap) (by kernel_rfl) (by kernel_rfl) rfl (Nat.zero_le _) ?_
  rintro F ⟨k, a', cap'⟩ hk again
  have hk : k ≤ 4 := hk
  refine V.ite (decide ((k : Int) < 4)) (by kernel_rfl) (fun hlt => ?_) (fun hlt => ?_)
  · have hlt : (k : Int) < 4 := of_decide_eq_true hlt
    have hkk := keys_iter v l k
    refine V.call0 [1000, 1001, 0, 1002] (round_f (iterV v l k) a' cap' l al cl (Srt_keys hkk hs) (by rw [len_keys hkk]; exact hn) hl (Both_keys hkk hb)) (by kernel_rfl) (by kernel_rfl) (by kernel_rfl) (fun _ _ => trivial) fun z _ => ?_
    refine V.keep [1] (by kernel_rfl) ?_
    have hlen : (iterV v l k).length = (iterV v l (k + 1)).length := by rw [len_keys hkk, len_keys (keys_iter v l (k + 1))]
    refine V.grd 19 (iterH v l k) (by kernel_rfl) (fun h => ?_) (fun h => ?_)
    · refine V.norm 6 (.bool true) (.bool (iterH v l (k + 1))) (by kernel_rfl) (by rw [iterH, h]; rfl) ?_
      refine V.norm 0 (.slice z.1 (iterV v l k).length z.2) (.slice z.1 (iterV v l (k + 1)).length z.2) (by kernel_rfl) (by rw [hlen]) ?_
      refine V.norm 9 (.int .i64 (IntKind.wrap .i64 ((k : Int) + 1))) (.int .i64 ((k + 1 : Nat) : Int)) (by kernel_rfl) (vInt (w64_succ (by omega))) ?_
      exact V.conv (by kernel_rfl) rfl (again (k + 1, z.1, z.2) _ (show k + 1 ≤ 4 by omega) (show 4 - (k + 1) < 4 - k by omega) (by kernel_rfl) (by kernel_rfl))
    · refine V.norm 6 (.bool (roundH (iterV v l k) l)) (.bool (iterH v l (k + 1))) (by kernel_rfl) (by rw [iterH, h]; rfl) ?_
      refine V.norm 0 (.slice z.1 (iterV v l k).length z.2) (.slice z.1 (iterV v l (k + 1)).length z.2) (by kernel_rfl) (by rw [hlen]) ?_
      refine V.norm 9 (.int .i64 (IntKind.wrap .i64 ((k : Int) + 1))) (.int .i64 ((k + 1 : Nat) : Int)) (by kernel_rfl) (vInt (w64_succ (by omega))) ?_
      exact V.conv (by kernel_rfl) rfl (again (k + 1, z.1, z.2) _ (show k + 1 ≤ 4 by omega) (show 4 - (k + 1) < 4 - k by omega) (by kernel_rfl) (by kernel_rfl))
  · have hlt : ¬ (k : Int) < 4 := of_decide_eq_false hlt
    have hk2 : k = 4 := by omega
    subst hk2
    exact after (a', cap') _ trivial (by kernel_rfl) (by kernel_rfl)
end Go.Ev

namespace Go.Ev
open Go Proofs Bil

theorem rowOut_flat {α : Type} (c : α → List Value) (k : Nat) (hc : ∀ x, (c x).length = k) (z : α) : ∀ (l : List α) (i : Nat), i < l.length → rowOut (flat c l) (i * k) (c z) = flat c (l.set i z)
  | [], i, h => by simp at h
  | y :: l, 0, _ => by
    simp only [rowOut, splL, flat, List.map_cons, List.flatten_cons, Nat.zero_mul, List.take_zero, List.nil_append, List.set_cons_zero, Nat.zero_add, hc]
    rw [List.drop_left' (hc y)]
  | y :: l, i + 1, h => by
    have := rowOut_flat c k hc z l i (by simpa using h)
    simp only [rowOut, splL, flat, List.map_cons, List.flatten_cons, List.set_cons_succ, hc] at this ⊢
    rw [← this]
    have e1 : (i + 1) * k = (c y).length + i * k := by rw [hc, Nat.add_mul, Nat.one_mul, Nat.add_comm]
    rw [e1, List.take_length_add_append, Nat.add_assoc, List.drop_length_add_append]
    simp
abbrev rowSn (a : Option Addr) (cap n : Nat) (ss : List Shift) : Ent := .row (.slice a n cap) 75 2 n (flat Shift.cells ss)
theorem push_f (c : Contact) (sh sg : Int) (i n : Nat) (ss : List Shift) (ax : Option Addr) (cx bo bc : Nat) (hn : ss.length = n) (hi : i < n) :
    SX (GLS ++ [cell1 bo (.slice ax n cx) 58, .blk bc (.cells c.cells.toArray 90 (0, 0))]) 46 #[.int .i64 (i : Int), .int .i64 sh, .int .i64 sg, ptr bo, ptr bc] [rowSn ax cx n ss] (fun _ : Unit => .tuple #[])
      (fun _ => [rowSn ax cx n (pushAt c sh sg i ss)]) := by
  refine Spec.enter Tryz.func46 (by kernel_rfl) (by kernel_rfl) fun w _ _ => ?_
  have hA := flat_at Shift.cells 2 Shift.cells_length ss i _ (shiftAt_get (by omega))
  refine V.focus 0 i (shiftAt ss i).cells (.slice ax n cx) 75 2 n (flat Shift.cells ss) (by kernel_rfl) hi hA (by kernel_rfl) ?_
  refine V.drawn mix (by kernel_rfl) ?_
  refine VD.loads [1002, 1003] (by kernel_rfl) ?_
  refine VD.rixL 2 0 i .i64 (.slice ax n cx) 75 2 n (flat Shift.cells ss) (i * 2) (shiftAt ss i).cells (by kernel_rfl) (by kernel_rfl) (by kernel_rfl) hi ?_
  refine VD.loads [500] (by kernel_rfl) ?_
  refine VD.rixO 15 0 i .i64 (.slice ax n cx) 75 2 n (flat Shift.cells ss) (i * 2) (shiftAt ss i).cells (by kernel_rfl) (by kernel_rfl) (by kernel_rfl) (by kernel_rfl) hi ?_
  refine VD.rst 17 0 0 (.slice ax n cx) 75 2 n (flat Shift.cells ss) (i * 2) (shiftAt ss i).cells (Shift.cells ⟨pushBy sh sg c.nx (shiftAt ss i).x, (shiftAt ss i).y⟩) (by kernel_rfl) (by kernel_rfl) (by kernel_rfl) (by kernel_rfl) (by kernel_rfl) (by kernel_rfl) (by kernel_rfl) ?_
  refine VD.done (by kernel_rfl) ?_
  refine V.drawn mix (by kernel_rfl) ?_
  refine VD.loads [1002, 1003] (by kernel_rfl) ?_
  refine VD.rixL 2 0 i .i64 (.slice ax n cx) 75 2 n (rowOut (flat Shift.cells ss) (i * 2) (Shift.cells ⟨pushBy sh sg c.nx (shiftAt ss i).x, (shiftAt ss i).y⟩)) (i * 2) (Shift.cells ⟨pushBy sh sg c.nx (shiftAt ss i).x, (shiftAt ss i).y⟩) (by kernel_rfl) (by kernel_rfl) (by kernel_rfl) hi ?_
  refine VD.loads [600] (by kernel_rfl) ?_
  refine VD.rixO 15 0 i .i64 (.slice ax n cx) 75 2 n (rowOut (flat Shift.cells ss) (i * 2) (Shift.cells ⟨pushBy sh sg c.nx (shiftAt ss i).x, (shiftAt ss i).y⟩)) (i * 2) (Shift.cells ⟨pushBy sh sg c.nx (shiftAt ss i).x, (shiftAt ss i).y⟩) (by kernel_rfl) (by kernel_rfl) (by kernel_rfl) (by kernel_rfl) hi ?_
  refine VD.rst 17 0 1 (.slice ax n cx) 75 2 n (rowOut (flat Shift.cells ss) (i * 2) (Shift.cells ⟨pushBy sh sg c.nx (shiftAt ss i).x, (shiftAt ss i).y⟩)) (i * 2) (Shift.cells ⟨pushBy sh sg c.nx (shiftAt ss i).x, (shiftAt ss i).y⟩) (Shift.cells ⟨pushBy sh sg c.nx (shiftAt ss i).x, pushBy sh sg c.ny (shiftAt ss i).y⟩) (by kernel_rfl) (by kernel_rfl) (by kernel_rfl) (by kernel_rfl) (by kernel_rfl) (by kernel_rfl) (by kernel_rfl) ?_
  refine VD.done (by kernel_rfl) ?_
  refine V.unfocus 0 (.slice ax n cx) 75 2 n (rowOut (rowOut (flat Shift.cells ss) (i * 2) (Shift.cells ⟨pushBy sh sg c.nx (shiftAt ss i).x, (shiftAt ss i).y⟩)) (i * 2) (Shift.cells ⟨pushBy sh sg c.nx (shiftAt ss i).x, pushBy sh sg c.ny (shiftAt ss i).y⟩)) (i * 2) (Shift.cells ⟨pushBy sh sg c.nx (shiftAt ss i).x, pushBy sh sg c.ny (shiftAt ss i).y⟩) (by kernel_rfl) ?_
  refine V.rete () (.tuple #[]) [0] (by kernel_rfl) (by kernel_rfl) (by kernel_rfl) ((show _ = [Ent.row (.slice ax n cx) 75 2 n (rowOut (rowOut (flat Shift.cells ss) (i * 2) (Shift.cells ⟨pushBy sh sg c.nx (shiftAt ss i).x, (shiftAt ss i).y⟩)) (i * 2) (Shift.cells ⟨pushBy sh sg c.nx (shiftAt ss i).x, pushBy sh sg c.ny (shiftAt ss i).y⟩))] by kernel_rfl).trans ?_) rfl trivial
  rw [rowOut_flat Shift.cells 2 Shift.cells_length _ ss i (by omega), rowOut_flat Shift.cells 2 Shift.cells_length _ _ i (by rw [List.length_set]; omega), List.set_set]
  rfl
theorem made_shifts (n : Nat) : (madeCells #[.int .i64 0, .int .i64 0] (n * 2)).toList = flat Shift.cells (List.replicate n noShift) := by
  have e1 : (madeCells #[.int .i64 0, .int .i64 0] (n * 2)).toList = List.replicate (n * 2) (.int .i64 0) := by
    refine List.eq_replicate_iff.2 ⟨by rw [Array.length_toList, size_madeCells], fun x hx => ?_⟩
    unfold madeCells at hx
    simp only [Array.toList_map, List.mem_map] at hx
    obtain ⟨i, _, rfl⟩ := hx
    have : i % 2 = 0 ∨ i % 2 = 1 := by omega
    rcases this with h | h <;> simp [h]
  have e2 : flat Shift.cells (List.replicate n noShift) = List.replicate (n * 2) (.int .i64 0) := by
    clear e1
    induction n with
    | zero => rfl
    | succ n ih' =>
      rw [List.replicate_succ]
      have : flat Shift.cells (noShift :: List.replicate n noShift) = Shift.cells noShift ++ flat Shift.cells (List.replicate n noShift) := rfl
      rw [this, ih', show Shift.cells noShift = List.replicate 2 (.int .i64 0) from rfl, List.replicate_append_replicate]
      congr 1
      omega
  rw [e1, e2]
set_option maxHeartbeats 4000000 in
theorem shifts_f (v : List Body) (a : Option Addr) (cap : Nat) (l : List Contact) (al : Option Addr) (cl : Nat) (hs : Srt v) (hn : v.length ≤ 65536) (hl : l.length ≤ 4294967296) (hb : Both v l) :
    SX (GLS ++ [rowB a cap v, rowC al cl l]) 32 #[.slice a v.length cap, .slice al l.length cl] [] (fun x : Nat => .slice (some ⟨x, 0, none⟩) v.length v.length) (fun x => [rowSn (some ⟨x, 0, none⟩) v.length v.length (shifts v l)]) := by
  refine Spec.enter Tryz.func32 (by kernel_rfl) (by kernel_rfl) fun w _ _ => ?_
  refine V.make v.length 2 16 (t := 58) (e := 75) (kl := .i64) (kc := .i64) (by kernel_rfl) (by kernel_rfl) (by simp only [maxLen]; omega) (by omega) (flat Shift.cells (List.replicate v.length noShift)) (by rw [← made_shifts]; kernel_rfl) fun bx => ?_
  refine V.new (fun _ => by kernel_rfl) fun b5 => ?_
  refine V.store 1 (by kernel_rfl) (by kernel_rfl) (by kernel_rfl) ?_
  refine V.cut 1 [5] (fun _ : Unit => [ptr b5]) (fun _ => [rowSn (some ⟨bx, 0, none⟩) v.length v.length (shifts v l), cell1 b5 (.slice (some ⟨bx, 0, none⟩) v.length v.length) 58]) (fun _ => True) (fun F z _ => ?_) (fun after => ?_)
  · refine V.loads [1] (by kernel_rfl) ?_
    exact V.rete bx (.slice (some ⟨bx, 0, none⟩) v.length v.length) [0] (by kernel_rfl) (by kernel_rfl) (by kernel_rfl) (by kernel_rfl) rfl trivial
  refine V.loop [0, 16, 17, 18, 5] (fun k : Nat => [.slice a v.length cap, .slice al l.length cl, .int .i64 (l.length : Int), .int .i64 (k : Int), ptr b5])
    (fun k => [rowSn (some ⟨bx, 0, none⟩) v.length v.length (shiftsFrom v (l.take k) (List.replicate v.length noShift)), cell1 b5 (.slice (some ⟨bx, 0, none⟩) v.length v.length) 58]) (fun k => k ≤ l.length) (fun k => l.length - k) 0
    (by kernel_rfl) (by kernel_rfl) (by kernel_rfl) (Nat.zero_le _) ?_
  rintro F k hk again
  have hk : k ≤ l.length := hk
  refine V.ite (decide ((k : Int) < (l.length : Int))) (by kernel_rfl) (fun hlt => ?_) (fun hlt => ?_)
  · have hlt : (k : Int) < (l.length : Int) := of_decide_eq_true hlt
    have hlt : k < l.length := by omega
    have hc : l[k]? = some l[k] := List.getElem?_eq_getElem hlt
    have htk := take_succ_get hlt
    have hbb := hb _ (List.getElem_mem hlt)
    revert hc htk hbb
    generalize l[k] = c
    intro hc htk hbb
    have hA := flat_at Body.cells 10 Body.cells_length v (ia v c) _ (bodyAt_get hbb.1)
    have hB := flat_at Body.cells 10 Body.cells_length v (ib v c) _ (bodyAt_get hbb.2)
    obtain ⟨ss, hss⟩ : ∃ ss, ss = shiftsFrom v (l.take k) (List.replicate v.length noShift) := ⟨_, rfl⟩
    have hsl : ss.length = v.length := by rw [hss, shiftsFrom_length, List.length_replicate]
    have hnext : shiftsFrom v (l.take (k + 1)) (List.replicate v.length noShift) = shiftC v c ss := by
      rw [hss, htk, shiftsFrom, shiftsFrom, List.foldl_append]; rfl
    refine V.conv (L' := [rowSn (some ⟨bx, 0, none⟩) v.length v.length ss, cell1 b5 (.slice (some ⟨bx, 0, none⟩) v.length v.length) 58]) (by rw [hss]) rfl ?_
    refine V.rix 1003 k .i64 (.slice al l.length cl) 90 5 l.length (flat Contact.cells l) (by kernel_rfl) (by kernel_rfl) (by kernel_rfl) hlt ?_
    refine V.part 1003 k c.cells (.slice al l.length cl) 90 5 l.length (flat Contact.cells l) (by kernel_rfl) (by kernel_rfl) hlt (flat_at Contact.cells 5 Contact.cells_length l k c hc) ?_
    refine V.loads [2000] (by kernel_rfl) ?_
    refine V.unpart ?_
    refine V.new (fun _ => by kernel_rfl) fun b7 => ?_
    refine V.store 2 (by kernel_rfl) (by kernel_rfl) (by kernel_rfl) ?_
    refine V.loads [2] (by kernel_rfl) ?_
    refine V.callg [1000, 1001, 1002] (find_f v a cap c.lo hs hn) (by kernel_rfl) (by kernel_rfl) (by kernel_rfl) ?_
    refine V.loads [2] (by kernel_rfl) ?_
    refine V.callg [1000, 1001, 1002] (find_f v a cap c.hi hs hn) (by kernel_rfl) (by kernel_rfl) (by kernel_rfl) ?_
    refine V.part 1002 (ia v c) (bodyAt v (ia v c)).cells (.slice a v.length cap) 38 10 v.length (flat Body.cells v) (by kernel_rfl) (by kernel_rfl) hbb.1 hA ?_
    refine V.part 1003 (ib v c) (bodyAt v (ib v c)).cells (.slice a v.length cap) 38 10 v.length (flat Body.cells v) (by kernel_rfl) (by kernel_rfl) hbb.2 hB ?_
    refine V.drawk 1 mix (by kernel_rfl) ?_
    refine VD.loads [1] (by kernel_rfl) ?_
    refine VD.rix 5 1004 (ia v c) .i64 (.slice a v.length cap) 38 10 v.length (flat Body.cells v) (by kernel_rfl) (by kernel_rfl) (by kernel_rfl) (by kernel_rfl) hbb.1 ?_
    refine VD.rix 9 1004 (ib v c) .i64 (.slice a v.length cap) 38 10 v.length (flat Body.cells v) (by kernel_rfl) (by kernel_rfl) (by kernel_rfl) (by kernel_rfl) hbb.2 ?_
    refine VD.loads [2001, 2000] (by kernel_rfl) ?_
    refine VD.callg [1002, 1003] (share_f c (bodyAt v (ia v c)) (bodyAt v (ib v c)) false) (by kernel_rfl) (by kernel_rfl) 11 (by kernel_rfl) (by kernel_rfl) (by kernel_rfl) ?_
    refine VD.callckg [1002, 1003, 1, 2] 1 1 (push_f c (share c (bodyAt v (ia v c)) (bodyAt v (ib v c)) false) (-1) (ia v c) v.length ss (some ⟨bx, 0, none⟩) v.length b5 b7 hsl hbb.1) (by kernel_rfl) (by kernel_rfl) (by kernel_rfl) (by kernel_rfl) 12 (by kernel_rfl) (by kernel_rfl) (by kernel_rfl) (by kernel_rfl) (by kernel_rfl) (fun _ _ => trivial) fun _ _ => ?_
    refine VD.done (by kernel_rfl) ?_
    refine V.drawk 1 mix (by kernel_rfl) ?_
    refine VD.loads [1] (by kernel_rfl) ?_
    refine VD.rix 5 1004 (ia v c) .i64 (.slice a v.length cap) 38 10 v.length (flat Body.cells v) (by kernel_rfl) (by kernel_rfl) (by kernel_rfl) (by kernel_rfl) hbb.1 ?_
    refine VD.rix 9 1004 (ib v c) .i64 (.slice a v.length cap) 38 10 v.length (flat Body.cells v) (by kernel_rfl) (by kernel_rfl) (by kernel_rfl) (by kernel_rfl) hbb.2 ?_
    refine VD.loads [2001, 2000] (by kernel_rfl) ?_
    refine VD.callg [1002, 1003] (share_f c (bodyAt v (ia v c)) (bodyAt v (ib v c)) true) (by kernel_rfl) (by kernel_rfl) 11 (by kernel_rfl) (by kernel_rfl) (by kernel_rfl) ?_
    refine VD.callckg [1002, 1003, 1, 2] 1 1 (push_f c (share c (bodyAt v (ia v c)) (bodyAt v (ib v c)) true) 1 (ib v c) v.length (pushAt c (share c (bodyAt v (ia v c)) (bodyAt v (ib v c)) false) (-1) (ia v c) ss) (some ⟨bx, 0, none⟩) v.length b5 b7 (by rw [pushAt_length, hsl]) hbb.2) (by kernel_rfl) (by kernel_rfl) (by kernel_rfl) (by kernel_rfl) 12 (by kernel_rfl) (by kernel_rfl) (by kernel_rfl) (by kernel_rfl) (by kernel_rfl) (fun _ _ => trivial) fun _ _ => ?_
    refine VD.done (by kernel_rfl) ?_
    refine V.unpart ?_
    refine V.unpart ?_
    refine V.keep [0, 1] (by kernel_rfl) ?_
    refine V.norm 18 (.int .i64 (IntKind.wrap .i64 ((k : Int) + 1))) (.int .i64 ((k + 1 : Nat) : Int)) (by kernel_rfl) (vInt (w64_succ (by omega))) ?_
    refine V.conv ((show _ = [rowSn (some ⟨bx, 0, none⟩) v.length v.length (shiftC v c ss), cell1 b5 (.slice (some ⟨bx, 0, none⟩) v.length v.length) 58] by kernel_rfl).trans ?_) rfl (again (k + 1) _ (show k + 1 ≤ _ by omega) (show l.length - (k + 1) < l.length - k by omega) (by kernel_rfl) (by kernel_rfl))
    rw [hnext]
  · have hlt : ¬ (k : Int) < (l.length : Int) := of_decide_eq_false hlt
    have hk2 : k = l.length := by omega
    subst hk2
    have e : l.take l.length = l := List.take_length
    exact V.conv ((show _ = [rowSn (some ⟨bx, 0, none⟩) v.length v.length (shiftsFrom v (l.take l.length) (List.replicate v.length noShift)), cell1 b5 (.slice (some ⟨bx, 0, none⟩) v.length v.length) 58] by kernel_rfl).trans (by rw [e]; rfl)) rfl (after () _ trivial (by kernel_rfl) (by kernel_rfl))
end Go.Ev
