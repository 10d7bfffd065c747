/- Part 19 of 22 of a proof: own engine, contracts and facts. -/
import Derived.Test.YtibcgaffjaekfaaGreatDoorPAJ
import Derived.Test.YtibcgaffjaekfaaGreatDoorPAL
import Derived.Test.YtibcgaffjaekfaaGreatDoorPAP
import Derived.Test.YtibcgaffjaekfaaGreatDoorPAR
set_option linter.all false
section
set_option linter.unusedSimpArgs false
set_option maxRecDepth 20000
namespace Go.Proofs
open Go Av Rp
theorem c_hand_own (G : Globs) (h : Heap) (c : Col) (t : Thread) : ACall Tryz.prog G 29 [heapV h, colV c, threadV t] [] (fun r L' => r = .tup [heapV h, colV c, threadV t] ∧ L' = []) := by
  refine ACall.enter Tryz.func29 rfl Tryz.ntmps29 (by rw [Tryz.results29]) (Nat.le_of_ble_eq_true rfl) rfl ?_
  -- REGION 0
  (repeat refine AWp.seq ?_); refine AWp.region ?_
  refine rn 6 ?_
  refine AL.nil ?_; simp only [thenQ, inQ]
  -- DRAWS region 1: 2 slices_Clone_int_int; 5 slices_Clone_api_Page_api_Page; 8 slices_Clone_bool_bool
  (repeat refine AWp.seq ?_); refine rdraws [.flo 0 0, .flo 0 0, .flo 0 0, .flo 0 0, .flo 0 0, .flo 0 1, .flo 0 0, .flo 0 0, .flo 0 0, .flo 0 0, .eff 0, .flo 1 1, .eff 1, .flo 2 2, .eff 2] 3 [(2, .im (ints h.W)), (5, .im (pages h.P)), (8, .im (bools h.C))] mixed ?_; refine ⟨⟨rck Tryz.call46 (hC := c_slices_Clone_int_int G _), rck Tryz.call47 (hC := c_slices_Clone_api_Page_api_Page G _), rck Tryz.call48 (hC := c_slices_Clone_bool_bool G _), trivial⟩, ?_⟩; simp only [thenQ, inQ, tS, List.getD_cons_zero, List.getD_cons_succ, if_true]
  -- DRAWS region 2: 2 slices_Clone_int_int; 5 slices_Clone_api_Op_api_Op
  (repeat refine AWp.seq ?_); refine rdraws [.flo 0 0, .flo 0 0, .flo 0 0, .flo 0 1, .flo 0 1, .flo 0 0, .flo 0 0, .eff 0, .flo 1 1, .eff 1] 2 [(2, .im (ints c.work)), (5, .im (opsI t.do_))] mixed ?_; refine ⟨⟨rck Tryz.call46 (hC := c_slices_Clone_int_int G _), rck Tryz.call49 (hC := c_slices_Clone_api_Op_api_Op G _), trivial⟩, ?_⟩; simp only [thenQ, inQ, tS, List.getD_cons_zero, List.getD_cons_succ, if_true]
  -- REGION 3
  (repeat refine AWp.seq ?_); refine AWp.region ?_
  refine rn 1 ?_
  refine AL.nil ?_; simp only [thenQ, inQ]
  (repeat refine AWp.seq ?_)
  refine AWp.block ?_
  (repeat refine AWp.seq ?_)
  refine AWp.rounds 4 ?_
  refine Rounds.round ?_
  -- REGION 4
  (repeat refine AWp.seq ?_); refine AWp.region ?_
  refine rn 1 ?_
  refine AL.nil ?_; simp only [thenQ, inQ]
  (repeat refine AWp.seq ?_)
  refine rc (t := true) (fun hb => ?_) (fun hb => by cases hb)
  (repeat refine AWp.seq ?_)
  refine AWp.skip ?_
  (try simp only [inQ, thenQ])
  (repeat refine AWp.seq ?_)
  refine AWp.block ?_
  -- REGION 5
  (repeat refine AWp.seq ?_); refine AWp.region ?_
  refine rn 2 ?_
  refine AL.nil ?_; simp only [thenQ, inQ]
  -- DRAWS region 6: 6 slices_Clone_int_int; 11 slices_Clone_int_int
  (repeat refine AWp.seq ?_); refine rdraws [.flo 0 0, .flo 0 1, .flo 0 0, .flo 0 0, .flo 0 0, .flo 0 0, .flo 0 0, .flo 0 1, .flo 0 1, .flo 0 1, .flo 0 1, .flo 0 0, .flo 0 1, .flo 0 0, .eff 0, .flo 0 2, .flo 1 1, .eff 1] 2 [(6, .im (ints h.F.a)), (11, .im (ints t.cache.a))] mixed ?_; refine ⟨⟨rck Tryz.call46 (hC := c_slices_Clone_int_int G _), rck Tryz.call46 (hC := c_slices_Clone_int_int G _), trivial⟩, ?_⟩; simp only [thenQ, inQ, tS, List.getD_cons_zero, List.getD_cons_succ, if_true]
  -- REGION 7
  (repeat refine AWp.seq ?_); refine AWp.region ?_
  refine rn 2 ?_
  refine AL.nil ?_; simp only [thenQ, inQ]
  (try simp only [inQ, thenQ])
  refine Rounds.round ?_
  -- REGION 4
  (repeat refine AWp.seq ?_); refine AWp.region ?_
  refine rn 1 ?_
  refine AL.nil ?_; simp only [thenQ, inQ]
  (repeat refine AWp.seq ?_)
  refine rc (t := true) (fun hb => ?_) (fun hb => by cases hb)
  (repeat refine AWp.seq ?_)
  refine AWp.skip ?_
  (try simp only [inQ, thenQ])
  (repeat refine AWp.seq ?_)
  refine AWp.block ?_
  -- REGION 5
  (repeat refine AWp.seq ?_); refine AWp.region ?_
  refine rn 2 ?_
  refine AL.nil ?_; simp only [thenQ, inQ]
  -- DRAWS region 6: 6 slices_Clone_int_int; 11 slices_Clone_int_int
  (repeat refine AWp.seq ?_); refine rdraws [.flo 0 0, .flo 0 1, .flo 0 0, .flo 0 0, .flo 0 0, .flo 0 0, .flo 0 0, .flo 0 1, .flo 0 1, .flo 0 1, .flo 0 1, .flo 0 0, .flo 0 1, .flo 0 0, .eff 0, .flo 0 2, .flo 1 1, .eff 1] 2 [(6, .im (ints h.F.b)), (11, .im (ints t.cache.b))] mixed ?_; refine ⟨⟨rck Tryz.call46 (hC := c_slices_Clone_int_int G _), rck Tryz.call46 (hC := c_slices_Clone_int_int G _), trivial⟩, ?_⟩; simp only [thenQ, inQ, tS, List.getD_cons_zero, List.getD_cons_succ, if_true]
  -- REGION 7
  (repeat refine AWp.seq ?_); refine AWp.region ?_
  refine rn 2 ?_
  refine AL.nil ?_; simp only [thenQ, inQ]
  (try simp only [inQ, thenQ])
  refine Rounds.round ?_
  -- REGION 4
  (repeat refine AWp.seq ?_); refine AWp.region ?_
  refine rn 1 ?_
  refine AL.nil ?_; simp only [thenQ, inQ]
  (repeat refine AWp.seq ?_)
  refine rc (t := true) (fun hb => ?_) (fun hb => by cases hb)
  (repeat refine AWp.seq ?_)
  refine AWp.skip ?_
  (try simp only [inQ, thenQ])
  (repeat refine AWp.seq ?_)
  refine AWp.block ?_
  -- REGION 5
  (repeat refine AWp.seq ?_); refine AWp.region ?_
  refine rn 2 ?_
  refine AL.nil ?_; simp only [thenQ, inQ]
  -- DRAWS region 6: 6 slices_Clone_int_int; 11 slices_Clone_int_int
  (repeat refine AWp.seq ?_); refine rdraws [.flo 0 0, .flo 0 1, .flo 0 0, .flo 0 0, .flo 0 0, .flo 0 0, .flo 0 0, .flo 0 1, .flo 0 1, .flo 0 1, .flo 0 1, .flo 0 0, .flo 0 1, .flo 0 0, .eff 0, .flo 0 2, .flo 1 1, .eff 1] 2 [(6, .im (ints h.F.c)), (11, .im (ints t.cache.c))] mixed ?_; refine ⟨⟨rck Tryz.call46 (hC := c_slices_Clone_int_int G _), rck Tryz.call46 (hC := c_slices_Clone_int_int G _), trivial⟩, ?_⟩; simp only [thenQ, inQ, tS, List.getD_cons_zero, List.getD_cons_succ, if_true]
  -- REGION 7
  (repeat refine AWp.seq ?_); refine AWp.region ?_
  refine rn 2 ?_
  refine AL.nil ?_; simp only [thenQ, inQ]
  (try simp only [inQ, thenQ])
  refine Rounds.round ?_
  -- REGION 4
  (repeat refine AWp.seq ?_); refine AWp.region ?_
  refine rn 1 ?_
  refine AL.nil ?_; simp only [thenQ, inQ]
  (repeat refine AWp.seq ?_)
  refine rc (t := false) (fun hb => by cases hb) (fun hb => ?_)
  refine AWp.exit ?_
  simp only [inQ, thenQ, reduceIte, Nat.reduceEqDiff]
  -- DRAWS region 8: 
  (repeat refine AWp.seq ?_); refine rdraws [.flo 0 0, .flo 0 1, .flo 0 2, .eff 0, .eff 1, .eff 2] 3 [] mixed ?_; refine ⟨trivial, ?_⟩; simp only [thenQ, inQ, tS, List.getD_cons_zero, List.getD_cons_succ, if_true]
  refine AWp.ret ?_; (try simp only [inQ, thenQ]); refine rret 0 ?_
  first | exact ⟨rfl, rfl⟩ | (refine ⟨?_, rfl⟩; (try simp only [pack, engA, engL]); (try simp_all [own]) <;> omega)

theorem c_heap_own (G : Globs) (h : Heap) : ACall Tryz.prog G 60 [heapV h] [] (fun r L' => r = heapV h ∧ L' = []) := by
  refine ACall.enter Tryz.func60 rfl Tryz.ntmps60 (by rw [Tryz.results60]) (Nat.le_of_ble_eq_true rfl) rfl ?_
  -- REGION 0
  (repeat refine AWp.seq ?_); refine AWp.region ?_
  refine rn 2 ?_
  refine AL.nil ?_; simp only [thenQ, inQ]
  -- DRAWS region 1: 2 slices_Clone_int_int; 5 slices_Clone_api_Page_api_Page; 8 slices_Clone_bool_bool
  (repeat refine AWp.seq ?_); refine rdraws [.flo 0 0, .flo 0 0, .flo 0 0, .flo 0 0, .flo 0 0, .flo 0 1, .flo 0 0, .flo 0 0, .flo 0 0, .flo 0 0, .eff 0, .flo 1 1, .eff 1, .flo 2 2, .eff 2] 3 [(2, .im (ints h.W)), (5, .im (pages h.P)), (8, .im (bools h.C))] mixed ?_; refine ⟨⟨rck Tryz.call46 (hC := c_slices_Clone_int_int G _), rck Tryz.call47 (hC := c_slices_Clone_api_Page_api_Page G _), rck Tryz.call48 (hC := c_slices_Clone_bool_bool G _), trivial⟩, ?_⟩; simp only [thenQ, inQ, tS, List.getD_cons_zero, List.getD_cons_succ, if_true]
  -- REGION 2
  (repeat refine AWp.seq ?_); refine AWp.region ?_
  refine rn 3 ?_
  refine AL.nil ?_; simp only [thenQ, inQ]
  (repeat refine AWp.seq ?_)
  refine AWp.block ?_
  (repeat refine AWp.seq ?_)
  refine AWp.rounds 4 ?_
  refine Rounds.round ?_
  -- REGION 3
  (repeat refine AWp.seq ?_); refine AWp.region ?_
  refine rn 1 ?_
  refine AL.nil ?_; simp only [thenQ, inQ]
  (repeat refine AWp.seq ?_)
  refine rc (t := true) (fun hb => ?_) (fun hb => by cases hb)
  (repeat refine AWp.seq ?_)
  refine AWp.skip ?_
  (try simp only [inQ, thenQ])
  (repeat refine AWp.seq ?_)
  refine AWp.block ?_
  -- REGION 4
  (repeat refine AWp.seq ?_); refine AWp.region ?_
  refine rn 4 ?_
  refine AL.nil ?_; simp only [thenQ, inQ]
  -- REGION 5
  (repeat refine AWp.seq ?_); refine AWp.region ?_
  refine rn 2 ?_
  refine rcall Tryz.call46 (hC := c_slices_Clone_int_int G _) (kk := ?_); simp only [Av.put]
  refine rn 3 ?_
  refine AL.nil ?_; simp only [thenQ, inQ]
  -- REGION 6
  (repeat refine AWp.seq ?_); refine AWp.region ?_
  refine rn 2 ?_
  refine AL.nil ?_; simp only [thenQ, inQ]
  (try simp only [inQ, thenQ])
  refine Rounds.round ?_
  -- REGION 3
  (repeat refine AWp.seq ?_); refine AWp.region ?_
  refine rn 1 ?_
  refine AL.nil ?_; simp only [thenQ, inQ]
  (repeat refine AWp.seq ?_)
  refine rc (t := true) (fun hb => ?_) (fun hb => by cases hb)
  (repeat refine AWp.seq ?_)
  refine AWp.skip ?_
  (try simp only [inQ, thenQ])
  (repeat refine AWp.seq ?_)
  refine AWp.block ?_
  -- REGION 4
  (repeat refine AWp.seq ?_); refine AWp.region ?_
  refine rn 4 ?_
  refine AL.nil ?_; simp only [thenQ, inQ]
  -- REGION 5
  (repeat refine AWp.seq ?_); refine AWp.region ?_
  refine rn 2 ?_
  refine rcall Tryz.call46 (hC := c_slices_Clone_int_int G _) (kk := ?_); simp only [Av.put]
  refine rn 3 ?_
  refine AL.nil ?_; simp only [thenQ, inQ]
  -- REGION 6
  (repeat refine AWp.seq ?_); refine AWp.region ?_
  refine rn 2 ?_
  refine AL.nil ?_; simp only [thenQ, inQ]
  (try simp only [inQ, thenQ])
  refine Rounds.round ?_
  -- REGION 3
  (repeat refine AWp.seq ?_); refine AWp.region ?_
  refine rn 1 ?_
  refine AL.nil ?_; simp only [thenQ, inQ]
  (repeat refine AWp.seq ?_)
  refine rc (t := true) (fun hb => ?_) (fun hb => by cases hb)
  (repeat refine AWp.seq ?_)
  refine AWp.skip ?_
  (try simp only [inQ, thenQ])
  (repeat refine AWp.seq ?_)
  refine AWp.block ?_
  -- REGION 4
  (repeat refine AWp.seq ?_); refine AWp.region ?_
  refine rn 4 ?_
  refine AL.nil ?_; simp only [thenQ, inQ]
  -- REGION 5
  (repeat refine AWp.seq ?_); refine AWp.region ?_
  refine rn 2 ?_
  refine rcall Tryz.call46 (hC := c_slices_Clone_int_int G _) (kk := ?_); simp only [Av.put]
  refine rn 3 ?_
  refine AL.nil ?_; simp only [thenQ, inQ]
  -- REGION 6
  (repeat refine AWp.seq ?_); refine AWp.region ?_
  refine rn 2 ?_
  refine AL.nil ?_; simp only [thenQ, inQ]
  (try simp only [inQ, thenQ])
  refine Rounds.round ?_
  -- REGION 3
  (repeat refine AWp.seq ?_); refine AWp.region ?_
  refine rn 1 ?_
  refine AL.nil ?_; simp only [thenQ, inQ]
  (repeat refine AWp.seq ?_)
  refine rc (t := false) (fun hb => by cases hb) (fun hb => ?_)
  refine AWp.exit ?_
  simp only [inQ, thenQ, reduceIte, Nat.reduceEqDiff]
  -- REGION 7
  (repeat refine AWp.seq ?_); refine AWp.region ?_
  refine rn 2 ?_
  refine AL.nil ?_; simp only [thenQ, inQ]
  refine AWp.ret ?_; (try simp only [inQ, thenQ]); refine rret 0 ?_
  first | exact ⟨rfl, rfl⟩ | (refine ⟨?_, rfl⟩; (try simp only [pack, engA, engL]); (try simp_all [own]) <;> omega)

theorem c_shade_own (G : Globs) (c : Col) : ACall Tryz.prog G 50 [colV c] [] (fun r L' => r = colV c ∧ L' = []) := by
  refine ACall.enter Tryz.func50 rfl Tryz.ntmps50 (by rw [Tryz.results50]) (Nat.le_of_ble_eq_true rfl) rfl ?_
  -- REGION 0
  (repeat refine AWp.seq ?_); refine AWp.region ?_
  refine rn 2 ?_
  refine AL.nil ?_; simp only [thenQ, inQ]
  -- REGION 1
  (repeat refine AWp.seq ?_); refine AWp.region ?_
  refine rn 2 ?_
  refine rcall Tryz.call46 (hC := c_slices_Clone_int_int G _) (kk := ?_); simp only [Av.put]
  refine rn 2 ?_
  refine AL.nil ?_; simp only [thenQ, inQ]
  -- REGION 2
  (repeat refine AWp.seq ?_); refine AWp.region ?_
  refine rn 2 ?_
  refine AL.nil ?_; simp only [thenQ, inQ]
  refine AWp.ret ?_; (try simp only [inQ, thenQ]); refine rret 0 ?_
  first | exact ⟨rfl, rfl⟩ | (refine ⟨?_, rfl⟩; (try simp only [pack, engA, engL]); (try simp_all [own]) <;> omega)

theorem c_shade_copied (G : Globs) (h : Heap) : ACall Tryz.prog G 51 [heapV h] [] (fun r L' => r = heapV h ∧ L' = []) := by
  refine ACall.enter Tryz.func51 rfl Tryz.ntmps51 (by rw [Tryz.results51]) (Nat.le_of_ble_eq_true rfl) rfl ?_
  -- REGION 0
  (repeat refine AWp.seq ?_); refine AWp.region ?_
  refine rn 2 ?_
  refine AL.nil ?_; simp only [thenQ, inQ]
  -- DRAWS region 1: 2 slices_Clone_int_int; 5 slices_Clone_api_Page_api_Page; 8 slices_Clone_bool_bool
  (repeat refine AWp.seq ?_); refine rdraws [.flo 0 0, .flo 0 0, .flo 0 0, .flo 0 0, .flo 0 0, .flo 0 1, .flo 0 0, .flo 0 0, .flo 0 0, .flo 0 0, .eff 0, .flo 1 1, .eff 1, .flo 2 2, .eff 2] 3 [(2, .im (ints h.W)), (5, .im (pages h.P)), (8, .im (bools h.C))] mixed ?_; refine ⟨⟨rck Tryz.call46 (hC := c_slices_Clone_int_int G _), rck Tryz.call47 (hC := c_slices_Clone_api_Page_api_Page G _), rck Tryz.call48 (hC := c_slices_Clone_bool_bool G _), trivial⟩, ?_⟩; simp only [thenQ, inQ, tS, List.getD_cons_zero, List.getD_cons_succ, if_true]
  -- REGION 2
  (repeat refine AWp.seq ?_); refine AWp.region ?_
  refine rn 3 ?_
  refine AL.nil ?_; simp only [thenQ, inQ]
  (repeat refine AWp.seq ?_)
  refine AWp.block ?_
  (repeat refine AWp.seq ?_)
  refine AWp.rounds 4 ?_
  refine Rounds.round ?_
  -- REGION 3
  (repeat refine AWp.seq ?_); refine AWp.region ?_
  refine rn 1 ?_
  refine AL.nil ?_; simp only [thenQ, inQ]
  (repeat refine AWp.seq ?_)
  refine rc (t := true) (fun hb => ?_) (fun hb => by cases hb)
  (repeat refine AWp.seq ?_)
  refine AWp.skip ?_
  (try simp only [inQ, thenQ])
  (repeat refine AWp.seq ?_)
  refine AWp.block ?_
  -- REGION 4
  (repeat refine AWp.seq ?_); refine AWp.region ?_
  refine rn 4 ?_
  refine AL.nil ?_; simp only [thenQ, inQ]
  -- REGION 5
  (repeat refine AWp.seq ?_); refine AWp.region ?_
  refine rn 2 ?_
  refine rcall Tryz.call46 (hC := c_slices_Clone_int_int G _) (kk := ?_); simp only [Av.put]
  refine rn 3 ?_
  refine AL.nil ?_; simp only [thenQ, inQ]
  -- REGION 6
  (repeat refine AWp.seq ?_); refine AWp.region ?_
  refine rn 2 ?_
  refine AL.nil ?_; simp only [thenQ, inQ]
  (try simp only [inQ, thenQ])
  refine Rounds.round ?_
  -- REGION 3
  (repeat refine AWp.seq ?_); refine AWp.region ?_
  refine rn 1 ?_
  refine AL.nil ?_; simp only [thenQ, inQ]
  (repeat refine AWp.seq ?_)
  refine rc (t := true) (fun hb => ?_) (fun hb => by cases hb)
  (repeat refine AWp.seq ?_)
  refine AWp.skip ?_
  (try simp only [inQ, thenQ])
  (repeat refine AWp.seq ?_)
  refine AWp.block ?_
  -- REGION 4
  (repeat refine AWp.seq ?_); refine AWp.region ?_
  refine rn 4 ?_
  refine AL.nil ?_; simp only [thenQ, inQ]
  -- REGION 5
  (repeat refine AWp.seq ?_); refine AWp.region ?_
  refine rn 2 ?_
  refine rcall Tryz.call46 (hC := c_slices_Clone_int_int G _) (kk := ?_); simp only [Av.put]
  refine rn 3 ?_
  refine AL.nil ?_; simp only [thenQ, inQ]
  -- REGION 6
  (repeat refine AWp.seq ?_); refine AWp.region ?_
  refine rn 2 ?_
  refine AL.nil ?_; simp only [thenQ, inQ]
  (try simp only [inQ, thenQ])
  refine Rounds.round ?_
  -- REGION 3
  (repeat refine AWp.seq ?_); refine AWp.region ?_
  refine rn 1 ?_
  refine AL.nil ?_; simp only [thenQ, inQ]
  (repeat refine AWp.seq ?_)
  refine rc (t := true) (fun hb => ?_) (fun hb => by cases hb)
  (repeat refine AWp.seq ?_)
  refine AWp.skip ?_
  (try simp only [inQ, thenQ])
  (repeat refine AWp.seq ?_)
  refine AWp.block ?_
  -- REGION 4
  (repeat refine AWp.seq ?_); refine AWp.region ?_
  refine rn 4 ?_
  refine AL.nil ?_; simp only [thenQ, inQ]
  -- REGION 5
  (repeat refine AWp.seq ?_); refine AWp.region ?_
  refine rn 2 ?_
  refine rcall Tryz.call46 (hC := c_slices_Clone_int_int G _) (kk := ?_); simp only [Av.put]
  refine rn 3 ?_
  refine AL.nil ?_; simp only [thenQ, inQ]
  -- REGION 6
  (repeat refine AWp.seq ?_); refine AWp.region ?_
  refine rn 2 ?_
  refine AL.nil ?_; simp only [thenQ, inQ]
  (try simp only [inQ, thenQ])
  refine Rounds.round ?_
  -- REGION 3
  (repeat refine AWp.seq ?_); refine AWp.region ?_
  refine rn 1 ?_
  refine AL.nil ?_; simp only [thenQ, inQ]
  (repeat refine AWp.seq ?_)
  refine rc (t := false) (fun hb => by cases hb) (fun hb => ?_)
  refine AWp.exit ?_
  simp only [inQ, thenQ, reduceIte, Nat.reduceEqDiff]
  -- REGION 7
  (repeat refine AWp.seq ?_); refine AWp.region ?_
  refine rn 2 ?_
  refine AL.nil ?_; simp only [thenQ, inQ]
  refine AWp.ret ?_; (try simp only [inQ, thenQ]); refine rret 0 ?_
  first | exact ⟨rfl, rfl⟩ | (refine ⟨?_, rfl⟩; (try simp only [pack, engA, engL]); (try simp_all [own]) <;> omega)

end Go.Proofs
end

section
set_option linter.unusedSimpArgs false
set_option maxRecDepth 20000
set_option maxHeartbeats 1000000
namespace Go.Proofs
open Go Av Rp
theorem c_heap_Set (G : Globs) (h : Heap) (a : Int) (x : Head) (hG : List.lookup 0 G = some wordsI) (ht : h.F.all.length ≤ 1000000) : ACall Tryz.prog G 52 [heapV h, intv a, headV x] [] (fun r L' => r = .tup [heapV (h.set a x).1, intv (h.set a x).2] ∧ L' = []) := by
  refine ACall.viewed ?_
  refine ACall.enter Tryz.func52 rfl Tryz.ntmps52 (by rw [Tryz.results52]) (Nat.le_of_ble_eq_true rfl) rfl ?_
  -- REGION 0
  (repeat refine AWp.seq ?_); refine AWp.region ?_
  refine rn 4 ?_
  refine AL.nil ?_; simp only [thenQ, inQ]
  -- REGION 1
  (repeat refine AWp.seq ?_); refine AWp.region ?_
  refine rn 2 ?_
  refine rcall Tryz.call53 (hC := c_heap_Head G h a hG ht) (kk := ?_); simp only [Av.put]
  refine rn 4 ?_
  refine rn 2 ?_
  refine AL.nil ?_; simp only [thenQ, inQ]
  -- REGION 2
  (repeat refine AWp.seq ?_); refine AWp.region ?_
  refine rn 2 ?_
  refine AL.nil ?_; simp only [thenQ, inQ]
  (repeat refine AWp.seq ?_)
  refine rc (fun hb => ?_) (fun hb => ?_)
  · skip
    -- REGION 3
    (repeat refine AWp.seq ?_); refine AWp.region ?_
    refine rn 4 ?_
    refine AL.nil ?_; simp only [thenQ, inQ]
    refine AWp.ret ?_; (try simp only [inQ, thenQ]); refine rret 0 ?_
    refine ⟨?_, rfl⟩; simp only [pack, engA, engL]; first | (rw [set_e (by assumption)]; exact Vw.tup ⟨Vw_heap0, Vw.rfl', trivial⟩) | (rw [set_1 (by assumption) (by assumption)]; exact Vw.tup ⟨Vw_heap0, Vw.rfl', trivial⟩) | (rw [set_2 (by assumption) (by assumption)]; exact Vw.tup ⟨Vw_heap0, Vw.rfl', trivial⟩) | (rw [set_3 (by assumption) (by assumption)]; exact Vw.tup ⟨Vw_heap0, Vw.rfl', trivial⟩) | (rw [set_ok (by assumption) (by assumption) (by assumption) (by assumption)]; exact Vw.rfl')
  · skip
    (repeat refine AWp.seq ?_)
    refine AWp.skip ?_
    (try simp only [inQ, thenQ])
    -- REGION 4
    (repeat refine AWp.seq ?_); refine AWp.region ?_
    refine rn 1 ?_
    refine rcall Tryz.call59 (hC := c_head_Pack G _) (kk := ?_); simp only [Av.put]
    refine rn 4 ?_
    refine rn 1 ?_
    refine AL.nil ?_; simp only [thenQ, inQ]
    -- REGION 5
    (repeat refine AWp.seq ?_); refine AWp.region ?_
    refine rn 3 ?_
    refine rsp 28 (fun hb => ?_) (fun hb => ?_)
    · skip
      refine rn 4 ?_
      refine rn 4 ?_
      refine rn 3 ?_
      refine AL.nil ?_; simp only [thenQ, inQ]
      (repeat refine AWp.seq ?_)
      refine rc (t := true) (fun hb => ?_) (fun hb => by cases hb)
      -- REGION 6
      (repeat refine AWp.seq ?_); refine AWp.region ?_
      refine rn 3 ?_
      refine AL.nil ?_; simp only [thenQ, inQ]
      refine AWp.ret ?_; (try simp only [inQ, thenQ]); refine rret 0 ?_
      refine ⟨?_, rfl⟩; simp only [pack, engA, engL]; first | (rw [set_e (by assumption)]; exact Vw.tup ⟨Vw_heap0, Vw.rfl', trivial⟩) | (rw [set_1 (by assumption) (by assumption)]; exact Vw.tup ⟨Vw_heap0, Vw.rfl', trivial⟩) | (rw [set_2 (by assumption) (by assumption)]; exact Vw.tup ⟨Vw_heap0, Vw.rfl', trivial⟩) | (rw [set_3 (by assumption) (by assumption)]; exact Vw.tup ⟨Vw_heap0, Vw.rfl', trivial⟩) | (rw [set_ok (by assumption) (by assumption) (by assumption) (by assumption)]; exact Vw.rfl')
    · skip
      refine rn 4 ?_
      refine rn 1 ?_
      refine rsp 33 (fun hb => ?_) (fun hb => ?_)
      · skip
        refine rn 4 ?_
        refine rn 2 ?_
        refine AL.nil ?_; simp only [thenQ, inQ]
        (repeat refine AWp.seq ?_)
        refine rc (t := true) (fun hb => ?_) (fun hb => by cases hb)
        -- REGION 6
        (repeat refine AWp.seq ?_); refine AWp.region ?_
        refine rn 3 ?_
        refine AL.nil ?_; simp only [thenQ, inQ]
        refine AWp.ret ?_; (try simp only [inQ, thenQ]); refine rret 0 ?_
        refine ⟨?_, rfl⟩; simp only [pack, engA, engL]; first | (rw [set_e (by assumption)]; exact Vw.tup ⟨Vw_heap0, Vw.rfl', trivial⟩) | (rw [set_1 (by assumption) (by assumption)]; exact Vw.tup ⟨Vw_heap0, Vw.rfl', trivial⟩) | (rw [set_2 (by assumption) (by assumption)]; exact Vw.tup ⟨Vw_heap0, Vw.rfl', trivial⟩) | (rw [set_3 (by assumption) (by assumption)]; exact Vw.tup ⟨Vw_heap0, Vw.rfl', trivial⟩) | (rw [set_ok (by assumption) (by assumption) (by assumption) (by assumption)]; exact Vw.rfl')
      · skip
        refine rn 4 ?_
        refine rn 2 ?_
        refine AL.nil ?_; simp only [thenQ, inQ]
        (repeat refine AWp.seq ?_)
        refine rc (fun hb => ?_) (fun hb => ?_)
        · skip
          -- REGION 6
          (repeat refine AWp.seq ?_); refine AWp.region ?_
          refine rn 3 ?_
          refine AL.nil ?_; simp only [thenQ, inQ]
          refine AWp.ret ?_; (try simp only [inQ, thenQ]); refine rret 0 ?_
          refine ⟨?_, rfl⟩; simp only [pack, engA, engL]; first | (rw [set_e (by assumption)]; exact Vw.tup ⟨Vw_heap0, Vw.rfl', trivial⟩) | (rw [set_1 (by assumption) (by assumption)]; exact Vw.tup ⟨Vw_heap0, Vw.rfl', trivial⟩) | (rw [set_2 (by assumption) (by assumption)]; exact Vw.tup ⟨Vw_heap0, Vw.rfl', trivial⟩) | (rw [set_3 (by assumption) (by assumption)]; exact Vw.tup ⟨Vw_heap0, Vw.rfl', trivial⟩) | (rw [set_ok (by assumption) (by assumption) (by assumption) (by assumption)]; exact Vw.rfl')
        · skip
          (repeat refine AWp.seq ?_)
          refine AWp.skip ?_
          (try simp only [inQ, thenQ])
          -- REGION 7
          (repeat refine AWp.seq ?_); refine AWp.region ?_
          refine rn 1 ?_
          refine rcall Tryz.call60 (hC := c_heap_own G h) (kk := ?_); simp only [Av.put]
          refine rn 1 ?_
          refine AL.nil ?_; simp only [thenQ, inQ]
          obtain ⟨p1, p2, p3⟩ := put_range (h := h) (a := a) (by assumption); have hxm : x.may = true := ite_may_f (by assumption); simp only [hxm, if_true]
          (repeat refine AWp.seq ?_); refine AWp.region ?_
          refine rn 4 ?_
          refine rcall Tryz.call61 (hC := c_arena_Put G h.W a x.pack p1 p2 p3) (kk := ?_); simp only [Av.put]
          refine rn 4 ?_
          refine rn 2 ?_
          refine AL.nil ?_; simp only [thenQ, inQ]
          -- REGION 9
          (repeat refine AWp.seq ?_); refine AWp.region ?_
          refine rn 4 ?_
          refine AL.nil ?_; simp only [thenQ, inQ]
          refine AWp.ret ?_; (try simp only [inQ, thenQ]); refine rret 0 ?_
          refine ⟨?_, rfl⟩; simp only [pack, engA, engL]; first | (rw [set_e (by assumption)]; exact Vw.tup ⟨Vw_heap0, Vw.rfl', trivial⟩) | (rw [set_1 (by assumption) (by assumption)]; exact Vw.tup ⟨Vw_heap0, Vw.rfl', trivial⟩) | (rw [set_2 (by assumption) (by assumption)]; exact Vw.tup ⟨Vw_heap0, Vw.rfl', trivial⟩) | (rw [set_3 (by assumption) (by assumption)]; exact Vw.tup ⟨Vw_heap0, Vw.rfl', trivial⟩) | (rw [set_ok (by assumption) (by assumption) (by assumption) (by assumption)]; exact Vw.rfl')

end Go.Proofs
end

section
set_option linter.unusedSimpArgs false
set_option maxRecDepth 20000
set_option maxHeartbeats 1000000
namespace Go.Proofs
open Go Av Rp
theorem c_shade_colour (G : Globs) (c : Col) (x : Head) : ACall Tryz.prog G 54 [colV c, headV x] [] (fun r L' => r = intv (colour c x) ∧ L' = []) := by
  refine ACall.enter Tryz.func54 rfl Tryz.ntmps54 (by rw [Tryz.results54]) (Nat.le_of_ble_eq_true rfl) rfl ?_
  -- REGION 0
  (repeat refine AWp.seq ?_); refine AWp.region ?_
  refine rn 3 ?_
  refine AL.nil ?_; simp only [thenQ, inQ]
  (repeat refine AWp.seq ?_)
  refine AWp.block ?_
  -- REGION 1
  (repeat refine AWp.seq ?_); refine AWp.region ?_
  refine rn 3 ?_
  refine rsp 8 (fun hb => ?_) (fun hb => ?_)
  · skip
    refine rn 4 ?_
    refine rn 1 ?_
    refine AL.nil ?_; simp only [thenQ, inQ]
    (repeat refine AWp.seq ?_)
    refine rc (fun hb => ?_) (fun hb => ?_)
    · skip
      (repeat refine AWp.seq ?_)
      refine AWp.skip ?_
      (try simp only [inQ, thenQ])
      (repeat refine AWp.seq ?_)
      refine rc (fun hb => ?_) (fun hb => ?_)
      · skip
        -- REGION 4
        (repeat refine AWp.seq ?_); refine AWp.region ?_
        refine rn 1 ?_
        refine AL.nil ?_; simp only [thenQ, inQ]
        refine AWp.ret ?_; (try simp only [inQ, thenQ]); refine rret 0 ?_
        first | exact ⟨rfl, rfl⟩ | (refine ⟨?_, rfl⟩; (try simp only [pack, engA, engL]); (try simp_all [colour]) <;> first | omega | (rw [Bool.eq_iff_iff]; simp only [Bool.and_eq_true, Bool.or_eq_true, decide_eq_true_eq]; omega) | (simp only [decide_eq_decide]; omega))
      · skip
        -- REGION 5
        (repeat refine AWp.seq ?_); refine AWp.region ?_
        refine rn 4 ?_
        refine rn 2 ?_
        refine AL.nil ?_; simp only [thenQ, inQ]
        (repeat refine AWp.seq ?_)
        refine rc (fun hb => ?_) (fun hb => ?_)
        · skip
          -- REGION 6
          (repeat refine AWp.seq ?_); refine AWp.region ?_
          refine rn 1 ?_
          refine AL.nil ?_; simp only [thenQ, inQ]
          refine AWp.ret ?_; (try simp only [inQ, thenQ]); refine rret 0 ?_
          first | exact ⟨rfl, rfl⟩ | (refine ⟨?_, rfl⟩; (try simp only [pack, engA, engL]); (try simp_all [colour]) <;> first | omega | (rw [Bool.eq_iff_iff]; simp only [Bool.and_eq_true, Bool.or_eq_true, decide_eq_true_eq]; omega) | (simp only [decide_eq_decide]; omega))
        · skip
          -- REGION 7
          (repeat refine AWp.seq ?_); refine AWp.region ?_
          refine rn 3 ?_
          refine AL.nil ?_; simp only [thenQ, inQ]
          (repeat refine AWp.seq ?_)
          refine rc (fun hb => ?_) (fun hb => ?_)
          · skip
            -- REGION 8
            (repeat refine AWp.seq ?_); refine AWp.region ?_
            refine rn 1 ?_
            refine AL.nil ?_; simp only [thenQ, inQ]
            refine AWp.ret ?_; (try simp only [inQ, thenQ]); refine rret 0 ?_
            first | exact ⟨rfl, rfl⟩ | (refine ⟨?_, rfl⟩; (try simp only [pack, engA, engL]); (try simp_all [colour]) <;> first | omega | (rw [Bool.eq_iff_iff]; simp only [Bool.and_eq_true, Bool.or_eq_true, decide_eq_true_eq]; omega) | (simp only [decide_eq_decide]; omega))
          · skip
            (repeat refine AWp.seq ?_)
            refine AWp.skip ?_
            (try simp only [inQ, thenQ])
            -- REGION 9
            (repeat refine AWp.seq ?_); refine AWp.region ?_
            refine rn 1 ?_
            refine AL.nil ?_; simp only [thenQ, inQ]
            refine AWp.ret ?_; (try simp only [inQ, thenQ]); refine rret 0 ?_
            first | exact ⟨rfl, rfl⟩ | (refine ⟨?_, rfl⟩; (try simp only [pack, engA, engL]); (try simp_all [colour]) <;> first | omega | (rw [Bool.eq_iff_iff]; simp only [Bool.and_eq_true, Bool.or_eq_true, decide_eq_true_eq]; omega) | (simp only [decide_eq_decide]; omega))
    · skip
      -- REGION 2
      (repeat refine AWp.seq ?_); refine AWp.region ?_
      refine rn 4 ?_
      refine AL.nil ?_; simp only [thenQ, inQ]
      (repeat refine AWp.seq ?_)
      refine rc (fun hb => ?_) (fun hb => ?_)
      · skip
        (repeat refine AWp.seq ?_)
        refine AWp.skip ?_
        (try simp only [inQ, thenQ])
        (repeat refine AWp.seq ?_)
        refine rc (fun hb => ?_) (fun hb => ?_)
        · skip
          -- REGION 4
          (repeat refine AWp.seq ?_); refine AWp.region ?_
          refine rn 1 ?_
          refine AL.nil ?_; simp only [thenQ, inQ]
          refine AWp.ret ?_; (try simp only [inQ, thenQ]); refine rret 0 ?_
          first | exact ⟨rfl, rfl⟩ | (refine ⟨?_, rfl⟩; (try simp only [pack, engA, engL]); (try simp_all [colour]) <;> first | omega | (rw [Bool.eq_iff_iff]; simp only [Bool.and_eq_true, Bool.or_eq_true, decide_eq_true_eq]; omega) | (simp only [decide_eq_decide]; omega))
        · skip
          -- REGION 5
          (repeat refine AWp.seq ?_); refine AWp.region ?_
          refine rn 4 ?_
          refine rn 2 ?_
          refine AL.nil ?_; simp only [thenQ, inQ]
          (repeat refine AWp.seq ?_)
          refine rc (fun hb => ?_) (fun hb => ?_)
          · skip
            -- REGION 6
            (repeat refine AWp.seq ?_); refine AWp.region ?_
            refine rn 1 ?_
            refine AL.nil ?_; simp only [thenQ, inQ]
            refine AWp.ret ?_; (try simp only [inQ, thenQ]); refine rret 0 ?_
            first | exact ⟨rfl, rfl⟩ | (refine ⟨?_, rfl⟩; (try simp only [pack, engA, engL]); (try simp_all [colour]) <;> first | omega | (rw [Bool.eq_iff_iff]; simp only [Bool.and_eq_true, Bool.or_eq_true, decide_eq_true_eq]; omega) | (simp only [decide_eq_decide]; omega))
          · skip
            -- REGION 7
            (repeat refine AWp.seq ?_); refine AWp.region ?_
            refine rn 3 ?_
            refine AL.nil ?_; simp only [thenQ, inQ]
            (repeat refine AWp.seq ?_)
            refine rc (fun hb => ?_) (fun hb => ?_)
            · skip
              -- REGION 8
              (repeat refine AWp.seq ?_); refine AWp.region ?_
              refine rn 1 ?_
              refine AL.nil ?_; simp only [thenQ, inQ]
              refine AWp.ret ?_; (try simp only [inQ, thenQ]); refine rret 0 ?_
              first | exact ⟨rfl, rfl⟩ | (refine ⟨?_, rfl⟩; (try simp only [pack, engA, engL]); (try simp_all [colour]) <;> first | omega | (rw [Bool.eq_iff_iff]; simp only [Bool.and_eq_true, Bool.or_eq_true, decide_eq_true_eq]; omega) | (simp only [decide_eq_decide]; omega))
            · skip
              (repeat refine AWp.seq ?_)
              refine AWp.skip ?_
              (try simp only [inQ, thenQ])
              -- REGION 9
              (repeat refine AWp.seq ?_); refine AWp.region ?_
              refine rn 1 ?_
              refine AL.nil ?_; simp only [thenQ, inQ]
              refine AWp.ret ?_; (try simp only [inQ, thenQ]); refine rret 0 ?_
              first | exact ⟨rfl, rfl⟩ | (refine ⟨?_, rfl⟩; (try simp only [pack, engA, engL]); (try simp_all [colour]) <;> first | omega | (rw [Bool.eq_iff_iff]; simp only [Bool.and_eq_true, Bool.or_eq_true, decide_eq_true_eq]; omega) | (simp only [decide_eq_decide]; omega))
      · skip
        -- REGION 3
        (repeat refine AWp.seq ?_); refine AWp.region ?_
        refine rn 4 ?_
        refine AL.nil ?_; simp only [thenQ, inQ]
        (repeat refine AWp.seq ?_)
        refine rc (fun hb => ?_) (fun hb => ?_)
        · skip
          -- REGION 4
          (repeat refine AWp.seq ?_); refine AWp.region ?_
          refine rn 1 ?_
          refine AL.nil ?_; simp only [thenQ, inQ]
          refine AWp.ret ?_; (try simp only [inQ, thenQ]); refine rret 0 ?_
          first | exact ⟨rfl, rfl⟩ | (refine ⟨?_, rfl⟩; (try simp only [pack, engA, engL]); (try simp_all [colour]) <;> first | omega | (rw [Bool.eq_iff_iff]; simp only [Bool.and_eq_true, Bool.or_eq_true, decide_eq_true_eq]; omega) | (simp only [decide_eq_decide]; omega))
        · skip
          -- REGION 5
          (repeat refine AWp.seq ?_); refine AWp.region ?_
          refine rn 4 ?_
          refine rn 2 ?_
          refine AL.nil ?_; simp only [thenQ, inQ]
          (repeat refine AWp.seq ?_)
          refine rc (fun hb => ?_) (fun hb => ?_)
          · skip
            -- REGION 6
            (repeat refine AWp.seq ?_); refine AWp.region ?_
            refine rn 1 ?_
            refine AL.nil ?_; simp only [thenQ, inQ]
            refine AWp.ret ?_; (try simp only [inQ, thenQ]); refine rret 0 ?_
            first | exact ⟨rfl, rfl⟩ | (refine ⟨?_, rfl⟩; (try simp only [pack, engA, engL]); (try simp_all [colour]) <;> first | omega | (rw [Bool.eq_iff_iff]; simp only [Bool.and_eq_true, Bool.or_eq_true, decide_eq_true_eq]; omega) | (simp only [decide_eq_decide]; omega))
          · skip
            -- REGION 7
            (repeat refine AWp.seq ?_); refine AWp.region ?_
            refine rn 3 ?_
            refine AL.nil ?_; simp only [thenQ, inQ]
            (repeat refine AWp.seq ?_)
            refine rc (fun hb => ?_) (fun hb => ?_)
            · skip
              -- REGION 8
              (repeat refine AWp.seq ?_); refine AWp.region ?_
              refine rn 1 ?_
              refine AL.nil ?_; simp only [thenQ, inQ]
              refine AWp.ret ?_; (try simp only [inQ, thenQ]); refine rret 0 ?_
              first | exact ⟨rfl, rfl⟩ | (refine ⟨?_, rfl⟩; (try simp only [pack, engA, engL]); (try simp_all [colour]) <;> first | omega | (rw [Bool.eq_iff_iff]; simp only [Bool.and_eq_true, Bool.or_eq_true, decide_eq_true_eq]; omega) | (simp only [decide_eq_decide]; omega))
            · skip
              (repeat refine AWp.seq ?_)
              refine AWp.skip ?_
              (try simp only [inQ, thenQ])
              -- REGION 9
              (repeat refine AWp.seq ?_); refine AWp.region ?_
              refine rn 1 ?_
              refine AL.nil ?_; simp only [thenQ, inQ]
              refine AWp.ret ?_; (try simp only [inQ, thenQ]); refine rret 0 ?_
              first | exact ⟨rfl, rfl⟩ | (refine ⟨?_, rfl⟩; (try simp only [pack, engA, engL]); (try simp_all [colour]) <;> first | omega | (rw [Bool.eq_iff_iff]; simp only [Bool.and_eq_true, Bool.or_eq_true, decide_eq_true_eq]; omega) | (simp only [decide_eq_decide]; omega))
  · skip
    refine rn 4 ?_
    refine rn 1 ?_
    refine AL.nil ?_; simp only [thenQ, inQ]
    (repeat refine AWp.seq ?_)
    refine rc (t := false) (fun hb => by cases hb) (fun hb => ?_)
    -- REGION 2
    (repeat refine AWp.seq ?_); refine AWp.region ?_
    refine rn 4 ?_
    refine AL.nil ?_; simp only [thenQ, inQ]
    (repeat refine AWp.seq ?_)
    refine rc (fun hb => ?_) (fun hb => ?_)
    · skip
      (repeat refine AWp.seq ?_)
      refine AWp.skip ?_
      (try simp only [inQ, thenQ])
      (repeat refine AWp.seq ?_)
      refine rc (fun hb => ?_) (fun hb => ?_)
      · skip
        -- REGION 4
        (repeat refine AWp.seq ?_); refine AWp.region ?_
        refine rn 1 ?_
        refine AL.nil ?_; simp only [thenQ, inQ]
        refine AWp.ret ?_; (try simp only [inQ, thenQ]); refine rret 0 ?_
        first | exact ⟨rfl, rfl⟩ | (refine ⟨?_, rfl⟩; (try simp only [pack, engA, engL]); (try simp_all [colour]) <;> first | omega | (rw [Bool.eq_iff_iff]; simp only [Bool.and_eq_true, Bool.or_eq_true, decide_eq_true_eq]; omega) | (simp only [decide_eq_decide]; omega))
      · skip
        -- REGION 5
        (repeat refine AWp.seq ?_); refine AWp.region ?_
        refine rn 4 ?_
        refine rn 2 ?_
        refine AL.nil ?_; simp only [thenQ, inQ]
        (repeat refine AWp.seq ?_)
        refine rc (fun hb => ?_) (fun hb => ?_)
        · skip
          -- REGION 6
          (repeat refine AWp.seq ?_); refine AWp.region ?_
          refine rn 1 ?_
          refine AL.nil ?_; simp only [thenQ, inQ]
          refine AWp.ret ?_; (try simp only [inQ, thenQ]); refine rret 0 ?_
          first | exact ⟨rfl, rfl⟩ | (refine ⟨?_, rfl⟩; (try simp only [pack, engA, engL]); (try simp_all [colour]) <;> first | omega | (rw [Bool.eq_iff_iff]; simp only [Bool.and_eq_true, Bool.or_eq_true, decide_eq_true_eq]; omega) | (simp only [decide_eq_decide]; omega))
        · skip
          -- REGION 7
          (repeat refine AWp.seq ?_); refine AWp.region ?_
          refine rn 3 ?_
          refine AL.nil ?_; simp only [thenQ, inQ]
          (repeat refine AWp.seq ?_)
          refine rc (fun hb => ?_) (fun hb => ?_)
          · skip
            -- REGION 8
            (repeat refine AWp.seq ?_); refine AWp.region ?_
            refine rn 1 ?_
            refine AL.nil ?_; simp only [thenQ, inQ]
            refine AWp.ret ?_; (try simp only [inQ, thenQ]); refine rret 0 ?_
            first | exact ⟨rfl, rfl⟩ | (refine ⟨?_, rfl⟩; (try simp only [pack, engA, engL]); (try simp_all [colour]) <;> first | omega | (rw [Bool.eq_iff_iff]; simp only [Bool.and_eq_true, Bool.or_eq_true, decide_eq_true_eq]; omega) | (simp only [decide_eq_decide]; omega))
          · skip
            (repeat refine AWp.seq ?_)
            refine AWp.skip ?_
            (try simp only [inQ, thenQ])
            -- REGION 9
            (repeat refine AWp.seq ?_); refine AWp.region ?_
            refine rn 1 ?_
            refine AL.nil ?_; simp only [thenQ, inQ]
            refine AWp.ret ?_; (try simp only [inQ, thenQ]); refine rret 0 ?_
            first | exact ⟨rfl, rfl⟩ | (refine ⟨?_, rfl⟩; (try simp only [pack, engA, engL]); (try simp_all [colour]) <;> first | omega | (rw [Bool.eq_iff_iff]; simp only [Bool.and_eq_true, Bool.or_eq_true, decide_eq_true_eq]; omega) | (simp only [decide_eq_decide]; omega))
    · skip
      -- REGION 3
      (repeat refine AWp.seq ?_); refine AWp.region ?_
      refine rn 4 ?_
      refine AL.nil ?_; simp only [thenQ, inQ]
      (repeat refine AWp.seq ?_)
      refine rc (fun hb => ?_) (fun hb => ?_)
      · skip
        -- REGION 4
        (repeat refine AWp.seq ?_); refine AWp.region ?_
        refine rn 1 ?_
        refine AL.nil ?_; simp only [thenQ, inQ]
        refine AWp.ret ?_; (try simp only [inQ, thenQ]); refine rret 0 ?_
        first | exact ⟨rfl, rfl⟩ | (refine ⟨?_, rfl⟩; (try simp only [pack, engA, engL]); (try simp_all [colour]) <;> first | omega | (rw [Bool.eq_iff_iff]; simp only [Bool.and_eq_true, Bool.or_eq_true, decide_eq_true_eq]; omega) | (simp only [decide_eq_decide]; omega))
      · skip
        -- REGION 5
        (repeat refine AWp.seq ?_); refine AWp.region ?_
        refine rn 4 ?_
        refine rn 2 ?_
        refine AL.nil ?_; simp only [thenQ, inQ]
        (repeat refine AWp.seq ?_)
        refine rc (fun hb => ?_) (fun hb => ?_)
        · skip
          -- REGION 6
          (repeat refine AWp.seq ?_); refine AWp.region ?_
          refine rn 1 ?_
          refine AL.nil ?_; simp only [thenQ, inQ]
          refine AWp.ret ?_; (try simp only [inQ, thenQ]); refine rret 0 ?_
          first | exact ⟨rfl, rfl⟩ | (refine ⟨?_, rfl⟩; (try simp only [pack, engA, engL]); (try simp_all [colour]) <;> first | omega | (rw [Bool.eq_iff_iff]; simp only [Bool.and_eq_true, Bool.or_eq_true, decide_eq_true_eq]; omega) | (simp only [decide_eq_decide]; omega))
        · skip
          -- REGION 7
          (repeat refine AWp.seq ?_); refine AWp.region ?_
          refine rn 3 ?_
          refine AL.nil ?_; simp only [thenQ, inQ]
          (repeat refine AWp.seq ?_)
          refine rc (fun hb => ?_) (fun hb => ?_)
          · skip
            -- REGION 8
            (repeat refine AWp.seq ?_); refine AWp.region ?_
            refine rn 1 ?_
            refine AL.nil ?_; simp only [thenQ, inQ]
            refine AWp.ret ?_; (try simp only [inQ, thenQ]); refine rret 0 ?_
            first | exact ⟨rfl, rfl⟩ | (refine ⟨?_, rfl⟩; (try simp only [pack, engA, engL]); (try simp_all [colour]) <;> first | omega | (rw [Bool.eq_iff_iff]; simp only [Bool.and_eq_true, Bool.or_eq_true, decide_eq_true_eq]; omega) | (simp only [decide_eq_decide]; omega))
          · skip
            (repeat refine AWp.seq ?_)
            refine AWp.skip ?_
            (try simp only [inQ, thenQ])
            -- REGION 9
            (repeat refine AWp.seq ?_); refine AWp.region ?_
            refine rn 1 ?_
            refine AL.nil ?_; simp only [thenQ, inQ]
            refine AWp.ret ?_; (try simp only [inQ, thenQ]); refine rret 0 ?_
            first | exact ⟨rfl, rfl⟩ | (refine ⟨?_, rfl⟩; (try simp only [pack, engA, engL]); (try simp_all [colour]) <;> first | omega | (rw [Bool.eq_iff_iff]; simp only [Bool.and_eq_true, Bool.or_eq_true, decide_eq_true_eq]; omega) | (simp only [decide_eq_decide]; omega))

end Go.Proofs
end

section
set_option linter.unusedSimpArgs false
set_option maxRecDepth 20000
set_option maxHeartbeats 1000000
namespace Go.Proofs
open Go Av Rp
theorem c_slices_Clone_ownG (G : Globs) (l : List Int) : ACall Tryz.prog G 46 [.im (ints l)] [] (fun r L' => r = .app 0 ∧ L' = [.app 1 (intRow l) 3]) := by
  refine ACall.enter Tryz.func46 rfl Tryz.ntmps46 (by rw [Tryz.results46]) (Nat.le_of_ble_eq_true rfl) rfl ?_
  refine AWp.big 0 rfl (fun hbig => ?_)
  replace hbig : l.length ≤ 274877906944 := by simpa [bigN] using hbig
  (repeat refine AWp.seq ?_); refine AWp.region ?_
  refine rn 1 ?_
  refine AL.nil ?_; simp only [thenQ, inQ]
  (repeat refine AWp.seq ?_); refine AWp.region ?_
  refine rn 1 ?_
  refine AL.cons (OpTo.eqNil (es := l.map (fun n => [IV.int n])) rfl rfl ti22 rfl (by simp only [engA, engL, engT, reduceIte, reduceCtorEq, Nat.reduceLT, Nat.reduceLeDiff, Nat.reduceAdd, Nat.reduceSub, Nat.reduceMul, Nat.reduceEqDiff, Nat.reduceBneDiff, Nat.le_refl, Bool.false_eq_true, Int.reduceLT, Int.reduceLE, Int.reduceAdd, Int.reduceSub, Int.reduceMul, Int.reduceToNat, Int.reduceEq, Int.cast_ofNat_Int, Int.reduceNeg]; rfl)) rfl ?_
  rintro T' L' ⟨b, hb, rfl, rfl⟩
  simp only [Av.put]
  refine AL.nil ?_; simp only [thenQ, inQ]
  (repeat refine AWp.seq ?_)
  refine rc (fun hb1 => ?_) (fun hb1 => ?_)
  · have hl : l = [] := by
      rcases l with _ | ⟨x, l⟩
      · rfl
      · have := hb (by simp); simp_all
    subst hl
    (repeat refine AWp.seq ?_); refine AWp.region ?_
    refine rn 1 ?_
    refine AL.nil ?_; simp only [thenQ, inQ]
    refine AWp.newApp 1 3 2 (by simp only [engA, engL, engT, reduceIte, reduceCtorEq, Nat.reduceLT, Nat.reduceLeDiff, Nat.reduceAdd, Nat.reduceSub, Nat.reduceMul, Nat.reduceEqDiff, Nat.reduceBneDiff, Nat.le_refl, Bool.false_eq_true, Int.reduceLT, Int.reduceLE, Int.reduceAdd, Int.reduceSub, Int.reduceMul, Int.reduceToNat, Int.reduceEq, Int.cast_ofNat_Int, Int.reduceNeg] <;> rfl) ?_
    simp only [engA, engL, engT, reduceIte, reduceCtorEq, Nat.reduceLT, Nat.reduceLeDiff, Nat.reduceAdd, Nat.reduceSub, Nat.reduceMul, Nat.reduceEqDiff, Nat.reduceBneDiff, Nat.le_refl, Bool.false_eq_true, Int.reduceLT, Int.reduceLE, Int.reduceAdd, Int.reduceSub, Int.reduceMul, Int.reduceToNat, Int.reduceEq, Int.cast_ofNat_Int, Int.reduceNeg]
    refine AWp.ret ?_; (try simp only [inQ, thenQ]); refine rret 1 ?_
    exact ⟨rfl, rfl⟩
  · (repeat refine AWp.seq ?_)
    refine AWp.skip ?_
    simp only [inQ, thenQ]
    (repeat refine AWp.seq ?_); refine AWp.region ?_
    refine AL.consEq (OpTo.build0 rfl rfl ti22 rfl ti3) rfl ?_
    simp only [Av.put]
    refine rn 1 ?_
    refine AL.consEq (OpTo.appendF (ys := intRow l) (xv := .im .e0) rfl rfl ti22 rfl ti3 rfl rfl (by decide) (by decide) (by simp only [engA, engL, engT, reduceIte, reduceCtorEq, Nat.reduceLT, Nat.reduceLeDiff, Nat.reduceAdd, Nat.reduceSub, Nat.reduceMul, Nat.reduceEqDiff, Nat.reduceBneDiff, Nat.le_refl, Bool.false_eq_true, Int.reduceLT, Int.reduceLE, Int.reduceAdd, Int.reduceSub, Int.reduceMul, Int.reduceToNat, Int.reduceEq, Int.cast_ofNat_Int, Int.reduceNeg] <;> rfl) (.inl rfl) (by simp only [engA, engL, engT, reduceIte, reduceCtorEq, Nat.reduceLT, Nat.reduceLeDiff, Nat.reduceAdd, Nat.reduceSub, Nat.reduceMul, Nat.reduceEqDiff, Nat.reduceBneDiff, Nat.le_refl, Bool.false_eq_true, Int.reduceLT, Int.reduceLE, Int.reduceAdd, Int.reduceSub, Int.reduceMul, Int.reduceToNat, Int.reduceEq, Int.cast_ofNat_Int, Int.reduceNeg] <;> rfl) (by simp only [intRow, List.length_map, bigN]; omega) (oc_intl l)) rfl ?_
    simp only [Av.put, List.length_nil, List.nil_append]
    refine rn 1 ?_
    refine AL.nil ?_; simp only [thenQ, inQ]
    refine AWp.ret ?_; (try simp only [inQ, thenQ]); refine rret 1 ?_
    exact ⟨rfl, rfl⟩
def colA (c : Col) (i : Nat) : List SV := [intv c.phase, intv c.epoch, boolv c.major, .app i, boolv c.over, intv c.at_, intv c.field, intv c.seek, intv c.card, boolv c.met]
theorem c_shade_own_own (G : Globs) (c : Col) : ACall Tryz.prog G 50 [colV c] [] (fun r L' => r = .agg (colA c 2) ∧ L' = [.vars (colA c 2) 30, .vars (colA c 2) 30, .app 1 (intRow c.work) 3]) := by
  refine ACall.enter Tryz.func50 rfl Tryz.ntmps50 (by rw [Tryz.results50]) (Nat.le_of_ble_eq_true rfl) rfl ?_
  -- REGION 0
  (repeat refine AWp.seq ?_); refine AWp.region ?_
  refine rn 2 ?_
  refine AL.nil ?_; simp only [thenQ, inQ]
  -- REGION 1
  (repeat refine AWp.seq ?_); refine AWp.region ?_
  refine rn 2 ?_
  refine rcallO Tryz.call46 (hC := c_slices_Clone_ownG G c.work) (kk := ?_); simp only [Av.put, List.cons_append, List.nil_append]
  refine rn 2 ?_
  refine AL.nil ?_; simp only [thenQ, inQ]
  -- REGION 2
  (repeat refine AWp.seq ?_); refine AWp.region ?_
  refine rn 2 ?_
  refine AL.nil ?_; simp only [thenQ, inQ]
  refine AWp.ret ?_; (try simp only [inQ, thenQ]); refine rret 3 ?_
  exact ⟨rfl, rfl⟩
theorem c_shade_at (G : Globs) (h : Heap) (c : Col) (a : Int) (hG : List.lookup 0 G = some wordsI) (ht : h.F.all.length ≤ 1000000) : ACall Tryz.prog G 36 [heapV h, colV c, intv a] [] (fun r L' => r = .tup [headV (h.head a).1, intv (colAt h c a)] ∧ L' = []) := by
  refine ACall.enter Tryz.func36 rfl Tryz.ntmps36 (by rw [Tryz.results36]) (Nat.le_of_ble_eq_true rfl) rfl ?_
  -- REGION 0
  (repeat refine AWp.seq ?_); refine AWp.region ?_
  refine rn 4 ?_
  refine AL.nil ?_; simp only [thenQ, inQ]
  -- REGION 1
  (repeat refine AWp.seq ?_); refine AWp.region ?_
  refine rn 2 ?_
  refine rcall Tryz.call53 (hC := c_heap_Head G h a hG ht) (kk := ?_); simp only [Av.put]
  refine rn 4 ?_
  refine rn 2 ?_
  refine AL.nil ?_; simp only [thenQ, inQ]
  -- REGION 2
  (repeat refine AWp.seq ?_); refine AWp.region ?_
  refine rn 2 ?_
  refine AL.nil ?_; simp only [thenQ, inQ]
  (repeat refine AWp.seq ?_)
  refine rc (fun hb => ?_) (fun hb => ?_)
  · skip
    -- REGION 3
    (repeat refine AWp.seq ?_); refine AWp.region ?_
    refine rn 3 ?_
    refine AL.nil ?_; simp only [thenQ, inQ]
    refine AWp.ret ?_; (try simp only [inQ, thenQ]); refine rret 0 ?_
    first | exact ⟨rfl, rfl⟩ | (refine ⟨?_, rfl⟩; (try simp only [pack, engA, engL]); (try simp_all [colAt]) <;> first | omega | (rw [Bool.eq_iff_iff]; simp only [Bool.and_eq_true, Bool.or_eq_true, decide_eq_true_eq]; omega) | (simp only [decide_eq_decide]; omega))
  · skip
    (repeat refine AWp.seq ?_)
    refine AWp.skip ?_
    (try simp only [inQ, thenQ])
    -- DRAWS region 4: 3 shade_colour
    (repeat refine AWp.seq ?_); refine rdraws [.flo 0 0, .flo 0 1, .flo 0 1, .flo 0 0, .eff 0, .flo 1 1] 1 [(3, intv (colour c (h.head a).1))] mixed ?_; refine ⟨⟨rck Tryz.call54 (hC := c_shade_colour G _ _), trivial⟩, ?_⟩; simp only [thenQ, inQ, tS, List.getD_cons_zero, List.getD_cons_succ, if_true]
    refine AWp.ret ?_; (try simp only [inQ, thenQ]); refine rret 0 ?_
    first | exact ⟨rfl, rfl⟩ | (refine ⟨?_, rfl⟩; (try simp only [pack, engA, engL]); (try simp_all [colAt]) <;> first | omega | (rw [Bool.eq_iff_iff]; simp only [Bool.and_eq_true, Bool.or_eq_true, decide_eq_true_eq]; omega) | (simp only [decide_eq_decide]; omega))

theorem c_shade_White (G : Globs) (h : Heap) (c : Col) (a : Int) (hG : List.lookup 0 G = some wordsI) (ht : h.F.all.length ≤ 1000000) : ACall Tryz.prog G 17 [heapV h, colV c, intv a] [] (fun r L' => r = boolv (white h c a) ∧ L' = []) := by
  refine ACall.enter Tryz.func17 rfl Tryz.ntmps17 (by rw [Tryz.results17]) (Nat.le_of_ble_eq_true rfl) rfl ?_
  -- REGION 0
  (repeat refine AWp.seq ?_); refine AWp.region ?_
  refine rn 3 ?_
  refine AL.nil ?_; simp only [thenQ, inQ]
  -- REGION 1
  (repeat refine AWp.seq ?_); refine AWp.region ?_
  refine rn 3 ?_
  refine rcall Tryz.call36 (hC := c_shade_at G h c a hG ht) (kk := ?_); simp only [Av.put]
  refine rn 4 ?_
  refine rn 2 ?_
  refine AL.nil ?_; simp only [thenQ, inQ]
  -- REGION 2
  (repeat refine AWp.seq ?_); refine AWp.region ?_
  refine rn 3 ?_
  refine AL.nil ?_; simp only [thenQ, inQ]
  refine AWp.ret ?_; (try simp only [inQ, thenQ]); refine rret 0 ?_
  first | exact ⟨rfl, rfl⟩ | (refine ⟨?_, rfl⟩; (try simp only [pack, engA, engL]); (try simp_all [white]) <;> first | omega | (rw [Bool.eq_iff_iff]; simp only [Bool.and_eq_true, Bool.or_eq_true, decide_eq_true_eq]; omega) | (simp only [decide_eq_decide]; omega))

end Go.Proofs
end

section
set_option linter.unusedSimpArgs false
set_option maxRecDepth 20000
set_option maxHeartbeats 1000000
namespace Go.Proofs
open Go Av Rp
theorem c_shade_Shade (G : Globs) (h : Heap) (c : Col) (a : Int) (hG : List.lookup 0 G = some wordsI) (ht : h.F.all.length ≤ 1000000) (hw : c.work.length ≤ 1000000) : ACall Tryz.prog G 30 [heapV h, colV c, intv a] [] (fun r L' => r = .tup [heapV (shade h c a).1, colV (shade h c a).2] ∧ L' = []) := by
  refine ACall.enter Tryz.func30 rfl Tryz.ntmps30 (by rw [Tryz.results30]) (Nat.le_of_ble_eq_true rfl) rfl ?_
  -- REGION 0
  (repeat refine AWp.seq ?_); refine AWp.region ?_
  refine rn 4 ?_
  refine AL.nil ?_; simp only [thenQ, inQ]
  -- REGION 1
  (repeat refine AWp.seq ?_); refine AWp.region ?_
  refine rn 3 ?_
  refine rcall Tryz.call36 (hC := c_shade_at G h c a hG ht) (kk := ?_); simp only [Av.put]
  refine rn 4 ?_
  refine rn 2 ?_
  refine AL.nil ?_; simp only [thenQ, inQ]
  -- REGION 2
  (repeat refine AWp.seq ?_); refine AWp.region ?_
  refine rn 1 ?_
  refine rcallO Tryz.call50 (hC := c_shade_own_own G c) (kk := ?_) (hx := by simp only [colA, SV.ren, renL, engA, engL, engT, reduceIte, reduceCtorEq, Nat.reduceLT, Nat.reduceLeDiff, Nat.reduceAdd, Nat.reduceSub, Nat.reduceMul, Nat.reduceEqDiff, Nat.reduceBneDiff, Nat.le_refl, Bool.false_eq_true, Int.reduceLT, Int.reduceLE, Int.reduceAdd, Int.reduceSub, Int.reduceMul, Int.reduceToNat, Int.reduceEq, Int.cast_ofNat_Int, Int.reduceNeg] <;> rfl) (hL := by simp only [colA, SV.ren, renL, Blk.ren, List.map_cons, List.map_nil, engA, engL, engT, reduceIte, reduceCtorEq, Nat.reduceLT, Nat.reduceLeDiff, Nat.reduceAdd, Nat.reduceSub, Nat.reduceMul, Nat.reduceEqDiff, Nat.reduceBneDiff, Nat.le_refl, Bool.false_eq_true, Int.reduceLT, Int.reduceLE, Int.reduceAdd, Int.reduceSub, Int.reduceMul, Int.reduceToNat, Int.reduceEq, Int.cast_ofNat_Int, Int.reduceNeg] <;> rfl); simp only [Av.put, List.cons_append, List.nil_append]
  refine rn 1 ?_
  refine AL.nil ?_; simp only [thenQ, inQ]
  -- REGION 3
  (repeat refine AWp.seq ?_); refine AWp.region ?_
  refine rn 2 ?_
  refine AL.nil ?_; simp only [thenQ, inQ]
  (repeat refine AWp.seq ?_)
  refine rc (fun hb => ?_) (fun hb => ?_)
  · skip
    refine AWp.freeze 7 rfl (by simp only [intRow, List.length_map, bigN]; omega) ?_; simp only [frzT, frzB, SV.frz, frzL, Blk.frz, List.map_cons, List.map_nil, reduceIte, Nat.reduceEqDiff]
    (repeat refine AWp.seq ?_); refine rdraws [.flo 0 0, .flo 0 0, .flo 0 1, .eff 0, .eff 1] 2 [(1, heapV h)] mixed ?_; refine ⟨⟨rck Tryz.call51 (hC := c_shade_copied G _), trivial⟩, ?_⟩; simp only [thenQ, inQ, tS, List.getD_cons_zero, List.getD_cons_succ, if_true]
    refine AWp.ret ?_; (try simp only [inQ, thenQ]); refine rret 0 ?_
    refine ⟨?_, rfl⟩; simp only [pack, engA, engL]; first | (rw [shade_no (by assumption)] <;> rfl) | (rw [shade_lt (by assumption) (by assumption)]; simp only [row_snoc] <;> rfl) | (rw [shade_ge (by assumption) (by assumption)] <;> rfl)
  · skip
    (repeat refine AWp.seq ?_)
    refine AWp.skip ?_
    (try simp only [inQ, thenQ])
    -- REGION 5
    (repeat refine AWp.seq ?_); refine AWp.region ?_
    refine rn 4 ?_
    refine rn 2 ?_
    refine AL.nil ?_; simp only [thenQ, inQ]
    -- REGION 6
    (repeat refine AWp.seq ?_); refine AWp.region ?_
    refine rn 3 ?_
    refine rcall Tryz.call52 (hC := c_heap_Set G h a { (h.head a).1 with mark := c.epoch, done := false } hG ht) (kk := ?_); simp only [Av.put]
    refine rn 4 ?_
    refine AL.nil ?_; simp only [thenQ, inQ]
    (repeat refine AWp.seq ?_)
    refine AWp.block ?_
    -- REGION 8
    (repeat refine AWp.seq ?_); refine AWp.region ?_
    refine rn 4 (k := ?_) (h := by simp (maxSteps := 3000000) only [intRow, List.length_map, engA, engL, engT, reduceIte, reduceCtorEq, Nat.reduceLT, Nat.reduceLeDiff, Nat.reduceAdd, Nat.reduceSub, Nat.reduceMul, Nat.reduceEqDiff, Nat.reduceBneDiff, Nat.le_refl, Bool.false_eq_true, Int.reduceLT, Int.reduceLE, Int.reduceAdd, Int.reduceSub, Int.reduceMul, Int.reduceToNat, Int.reduceEq, Int.cast_ofNat_Int, Int.reduceNeg] <;> rfl)
    refine rn 1 (k := ?_) (h := by simp (maxSteps := 3000000) only [intRow, List.length_map, engA, engL, engT, reduceIte, reduceCtorEq, Nat.reduceLT, Nat.reduceLeDiff, Nat.reduceAdd, Nat.reduceSub, Nat.reduceMul, Nat.reduceEqDiff, Nat.reduceBneDiff, Nat.le_refl, Bool.false_eq_true, Int.reduceLT, Int.reduceLE, Int.reduceAdd, Int.reduceSub, Int.reduceMul, Int.reduceToNat, Int.reduceEq, Int.cast_ofNat_Int, Int.reduceNeg] <;> rfl)
    refine AL.nil ?_; simp only [thenQ, inQ]
    (repeat refine AWp.seq ?_)
    refine rc (fun hb => ?_) (fun hb => ?_)
    · skip
      -- REGION 9
      (repeat refine AWp.seq ?_); refine AWp.region ?_
      refine rn 3 ?_
      -- SPECIAL buildSlice T22 1 [0:t43]
      refine rbuildN ti22 ti3 ?_; simp only [Av.put]
      -- SPECIAL BUILTIN append (t42, t44) types #[22, 22]
      refine rappI (es := intRow c.work) (ys := [[.int a]]) 7 ti22 ti3 (by simp only [intRow, List.length_map, List.length_cons, List.length_nil, bigN]; simp only [decide_eq_true_eq] at hb; omega) (Nat.zero_le _) ?_
      refine rn 2 ?_
      refine AL.nil ?_; simp only [thenQ, inQ]
      refine AWp.freeze 7 rfl (by simp only [intRow, List.length_map, List.length_append, List.length_cons, List.length_nil, bigN]; simp only [decide_eq_true_eq] at hb; omega) ?_; simp only [frzT, frzB, SV.frz, frzL, Blk.frz, List.map_cons, List.map_nil, reduceIte, Nat.reduceEqDiff] 
      (repeat refine AWp.seq ?_); refine rdraws [.flo 0 0, .flo 0 1, .eff 0, .eff 1] 2 [] mixed ?_; refine ⟨trivial, ?_⟩; simp only [thenQ, inQ, tS, List.getD_cons_zero, List.getD_cons_succ, if_true]
      refine AWp.ret ?_; (try simp only [inQ, thenQ]); refine rret 0 ?_
      refine ⟨?_, rfl⟩; simp only [pack, engA, engL]; first | (rw [shade_no (by assumption)] <;> rfl) | (rw [shade_lt (by assumption) (by assumption)]; simp only [row_snoc] <;> rfl) | (rw [shade_ge (by assumption) (by assumption)] <;> rfl)
    · skip
      -- REGION 7
      (repeat refine AWp.seq ?_); refine AWp.region ?_
      refine rn 2 ?_
      refine AL.nil ?_; simp only [thenQ, inQ]
      refine AWp.freeze 7 rfl (by simp only [intRow, List.length_map, bigN]; omega) ?_; simp only [frzT, frzB, SV.frz, frzL, Blk.frz, List.map_cons, List.map_nil, reduceIte, Nat.reduceEqDiff] 
      (repeat refine AWp.seq ?_); refine rdraws [.flo 0 0, .flo 0 1, .eff 0, .eff 1] 2 [] mixed ?_; refine ⟨trivial, ?_⟩; simp only [thenQ, inQ, tS, List.getD_cons_zero, List.getD_cons_succ, if_true]
      refine AWp.ret ?_; (try simp only [inQ, thenQ]); refine rret 0 ?_
      refine ⟨?_, rfl⟩; simp only [pack, engA, engL]; first | (rw [shade_no (by assumption)] <;> rfl) | (rw [shade_lt (by assumption) (by assumption)]; simp only [row_snoc] <;> rfl) | (rw [shade_ge (by assumption) (by assumption)] <;> rfl)

end Go.Proofs
end
