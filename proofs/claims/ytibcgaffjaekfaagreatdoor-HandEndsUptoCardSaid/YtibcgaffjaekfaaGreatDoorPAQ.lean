/- Part 17 of 22 of a proof: own engine, contracts and facts. -/
import Derived.Test.YtibcgaffjaekfaaGreatDoorPAJ
import Derived.Test.YtibcgaffjaekfaaGreatDoorPAK
import Derived.Test.YtibcgaffjaekfaaGreatDoorPAL
import Derived.Test.YtibcgaffjaekfaaGreatDoorPAN
import Derived.Test.YtibcgaffjaekfaaGreatDoorPAO
import Derived.Test.YtibcgaffjaekfaaGreatDoorPAP
set_option linter.all false
section
set_option linter.unusedSimpArgs false
set_option maxRecDepth 20000
set_option maxHeartbeats 1000000
namespace Go.Proofs
open Go Av Rp
theorem c_class_Of (G : Globs) (n : Int) (hG : List.lookup 0 G = some wordsI) : ACall Tryz.prog G 96 [intv n] [] (fun r L' => r = .tup [intv (classOf n).1, intv (classOf n).2] ∧ L' = []) := by
  refine ACall.enter Tryz.func96 rfl Tryz.ntmps96 (by rw [Tryz.results96]) (Nat.le_of_ble_eq_true rfl) rfl ?_
  -- REGION 0
  (repeat refine AWp.seq ?_); refine AWp.region ?_
  refine rn 2 ?_
  refine AL.nil ?_; simp only [thenQ, inQ]
  (repeat refine AWp.seq ?_)
  refine AWp.block ?_
  -- REGION 1
  (repeat refine AWp.seq ?_); refine AWp.region ?_
  refine rn 3 ?_
  refine AL.nil ?_; simp only [thenQ, inQ]
  (repeat refine AWp.seq ?_)
  refine rc (fun hb => ?_) (fun hb => ?_)
  · skip
    -- REGION 2
    (repeat refine AWp.seq ?_); refine AWp.region ?_
    refine rn 2 ?_
    refine AL.nil ?_; simp only [thenQ, inQ]
    refine AWp.ret ?_; (try simp only [inQ, thenQ]); refine rret 0 ?_
    refine ⟨?_, rfl⟩; simp only [pack]; first | (rw [of_1 (by assumption)]; done) | (rw [of_63 (by assumption) (by assumption)]; done) | (rw [of_ok (by assumption) (by assumption)]; done)
  · skip
    -- REGION 3
    (repeat refine AWp.seq ?_); refine AWp.region ?_
    refine rn 3 ?_
    refine AL.nil ?_; simp only [thenQ, inQ]
    (repeat refine AWp.seq ?_)
    refine rc (fun hb => ?_) (fun hb => ?_)
    · skip
      -- REGION 4
      (repeat refine AWp.seq ?_); refine AWp.region ?_
      refine rn 2 ?_
      refine AL.nil ?_; simp only [thenQ, inQ]
      refine AWp.ret ?_; (try simp only [inQ, thenQ]); refine rret 0 ?_
      refine ⟨?_, rfl⟩; simp only [pack]; first | (rw [of_1 (by assumption)]; done) | (rw [of_63 (by assumption) (by assumption)]; done) | (rw [of_ok (by assumption) (by assumption)]; done)
    · skip
      (repeat refine AWp.seq ?_)
      refine AWp.skip ?_
      (try simp only [inQ, thenQ])
      -- REGION 5
      (repeat refine AWp.seq ?_); refine AWp.region ?_
      -- SPECIAL slice T130 global0 [none:none:none]
      refine AL.cons (OpTo.sliceArr (es := [[.int 2], [.int 4], [.int 8]]) rfl rfl ti130 rfl ti3 (by simp only [aev, hG, Option.map_some]; rfl) (by decide) (by simp) rfl rfl (by decide)) rfl ?_; rintro T' L' ⟨rfl, rfl⟩; simp only [Av.put]
      refine rn 2 ?_
      refine rcall Tryz.call108 (hC := c_slices_BinarySearch_int_int G _) (kk := ?_); simp only [Av.put]
      refine rn 5 ?_
      refine AL.nil ?_; simp only [thenQ, inQ]
      -- REGION 6
      (repeat refine AWp.seq ?_); refine AWp.region ?_
      refine rn 3 ?_
      refine AL.nil ?_; simp only [thenQ, inQ]
      refine AWp.ret ?_; (try simp only [inQ, thenQ]); refine rret 0 ?_
      refine ⟨?_, rfl⟩; simp only [pack]; first | (rw [of_1 (by assumption)]; done) | (rw [of_63 (by assumption) (by assumption)]; done) | (rw [of_ok (by assumption) (by assumption)]; done)

theorem c_class_Run (G : Globs) (n : Int) (hG : List.lookup 0 G = some wordsI) : ACall Tryz.prog G 95 [intv n] [] (fun r L' => r = .tup [intv (classRun n).1, intv (classRun n).2] ∧ L' = []) := by
  refine ACall.enter Tryz.func95 rfl Tryz.ntmps95 (by rw [Tryz.results95]) (Nat.le_of_ble_eq_true rfl) rfl ?_
  -- REGION 0
  (repeat refine AWp.seq ?_); refine AWp.region ?_
  refine rn 2 ?_
  refine AL.nil ?_; simp only [thenQ, inQ]
  -- REGION 1
  (repeat refine AWp.seq ?_); refine AWp.region ?_
  refine rn 1 ?_
  refine rcall Tryz.call96 (hC := c_class_Of G _ (by first | assumption | omega | simp_all)) (kk := ?_); simp only [Av.put]
  refine rn 5 ?_
  refine AL.nil ?_; simp only [thenQ, inQ]
  (repeat refine AWp.seq ?_)
  refine AWp.block ?_
  -- REGION 2
  (repeat refine AWp.seq ?_); refine AWp.region ?_
  refine rn 3 ?_
  refine AL.nil ?_; simp only [thenQ, inQ]
  (repeat refine AWp.seq ?_)
  refine rc (fun hb => ?_) (fun hb => ?_)
  · skip
    -- REGION 3
    (repeat refine AWp.seq ?_); refine AWp.region ?_
    refine rn 3 ?_
    refine AL.nil ?_; simp only [thenQ, inQ]
    refine AWp.ret ?_; (try simp only [inQ, thenQ]); refine rret 0 ?_
    refine ⟨?_, rfl⟩; simp only [pack]; first | (rw [run_e (by assumption)]; done) | (rw [run_3 (by assumption) (by assumption)]; done) | (rw [run_ok (by assumption) (by assumption)]; done)
  · skip
    -- REGION 4
    (repeat refine AWp.seq ?_); refine AWp.region ?_
    refine rn 3 ?_
    refine AL.nil ?_; simp only [thenQ, inQ]
    (repeat refine AWp.seq ?_)
    refine rc (fun hb => ?_) (fun hb => ?_)
    · skip
      -- REGION 5
      (repeat refine AWp.seq ?_); refine AWp.region ?_
      refine rn 2 ?_
      refine AL.nil ?_; simp only [thenQ, inQ]
      refine AWp.ret ?_; (try simp only [inQ, thenQ]); refine rret 0 ?_
      refine ⟨?_, rfl⟩; simp only [pack]; first | (rw [run_e (by assumption)]; done) | (rw [run_3 (by assumption) (by assumption)]; done) | (rw [run_ok (by assumption) (by assumption)]; done)
    · skip
      (repeat refine AWp.seq ?_)
      refine AWp.skip ?_
      (try simp only [inQ, thenQ])
      -- REGION 6
      (repeat refine AWp.seq ?_); refine AWp.region ?_
      refine rn 5 ?_
      refine AL.nil ?_; simp only [thenQ, inQ]
      refine AWp.ret ?_; (try simp only [inQ, thenQ]); refine rret 0 ?_
      refine ⟨?_, rfl⟩; simp only [pack]; first | (rw [run_e (by assumption)]; done) | (rw [run_3 (by assumption) (by assumption)]; done) | (rw [run_ok (by assumption) (by assumption)]; done)

theorem c_heap_fits (G : Globs) (p : Page) (n : Int) (hG : List.lookup 0 G = some wordsI) : ACall Tryz.prog G 77 [pageV p, intv n] [] (fun r L' => r = boolv (fits p n) ∧ L' = []) := by
  refine ACall.enter Tryz.func77 rfl Tryz.ntmps77 (by rw [Tryz.results77]) (Nat.le_of_ble_eq_true rfl) rfl ?_
  -- REGION 0
  (repeat refine AWp.seq ?_); refine AWp.region ?_
  refine rn 2 ?_
  refine AL.nil ?_; simp only [thenQ, inQ]
  -- REGION 1
  (repeat refine AWp.seq ?_); refine AWp.region ?_
  refine rn 3 ?_
  refine AL.nil ?_; simp only [thenQ, inQ]
  (repeat refine AWp.seq ?_)
  refine rc (fun hb => ?_) (fun hb => ?_)
  · skip
    -- REGION 2
    (repeat refine AWp.seq ?_); refine AWp.region ?_
    refine rn 1 ?_
    refine rcall Tryz.call95 (hC := c_class_Run G _ (by first | assumption | omega | simp_all)) (kk := ?_); simp only [Av.put]
    refine rn 5 ?_
    refine AL.nil ?_; simp only [thenQ, inQ]
    -- REGION 3
    (repeat refine AWp.seq ?_); refine AWp.region ?_
    refine rn 3 ?_
    refine rsp 19 (fun hb => ?_) (fun hb => ?_)
    · skip
      refine rn 6 ?_
      refine AL.nil ?_; simp only [thenQ, inQ]
      refine AWp.ret ?_; (try simp only [inQ, thenQ]); refine rret 0 ?_
      first | exact ⟨rfl, rfl⟩ | (refine ⟨?_, rfl⟩; (try simp only [pack, engA, engL]); (try simp_all [fits]) <;> first | omega | (rw [Bool.eq_iff_iff]; simp only [Bool.and_eq_true, Bool.or_eq_true, decide_eq_true_eq]; omega) | (simp only [decide_eq_decide]; omega))
    · skip
      refine rn 6 ?_
      refine AL.nil ?_; simp only [thenQ, inQ]
      refine AWp.ret ?_; (try simp only [inQ, thenQ]); refine rret 0 ?_
      first | exact ⟨rfl, rfl⟩ | (refine ⟨?_, rfl⟩; (try simp only [pack, engA, engL]); (try simp_all [fits]) <;> first | omega | (rw [Bool.eq_iff_iff]; simp only [Bool.and_eq_true, Bool.or_eq_true, decide_eq_true_eq]; omega) | (simp only [decide_eq_decide]; omega))
  · skip
    (repeat refine AWp.seq ?_)
    refine AWp.skip ?_
    (try simp only [inQ, thenQ])
    -- REGION 4
    (repeat refine AWp.seq ?_); refine AWp.region ?_
    refine rn 1 ?_
    refine rcall Tryz.call96 (hC := c_class_Of G _ (by first | assumption | omega | simp_all)) (kk := ?_); simp only [Av.put]
    refine rn 5 ?_
    refine AL.nil ?_; simp only [thenQ, inQ]
    -- REGION 5
    (repeat refine AWp.seq ?_); refine AWp.region ?_
    refine rn 3 ?_
    refine rsp 32 (fun hb => ?_) (fun hb => ?_)
    · skip
      refine rn 6 ?_
      refine AL.nil ?_; simp only [thenQ, inQ]
      refine AWp.ret ?_; (try simp only [inQ, thenQ]); refine rret 0 ?_
      first | exact ⟨rfl, rfl⟩ | (refine ⟨?_, rfl⟩; (try simp only [pack, engA, engL]); (try simp_all [fits]) <;> first | omega | (rw [Bool.eq_iff_iff]; simp only [Bool.and_eq_true, Bool.or_eq_true, decide_eq_true_eq]; omega) | (simp only [decide_eq_decide]; omega))
    · skip
      refine rn 6 ?_
      refine AL.nil ?_; simp only [thenQ, inQ]
      refine AWp.ret ?_; (try simp only [inQ, thenQ]); refine rret 0 ?_
      first | exact ⟨rfl, rfl⟩ | (refine ⟨?_, rfl⟩; (try simp only [pack, engA, engL]); (try simp_all [fits]) <;> first | omega | (rw [Bool.eq_iff_iff]; simp only [Bool.and_eq_true, Bool.or_eq_true, decide_eq_true_eq]; omega) | (simp only [decide_eq_decide]; omega))

end Go.Proofs
end

section
set_option linter.unusedSimpArgs false
set_option maxRecDepth 20000
set_option maxHeartbeats 1000000
namespace Go.Proofs
open Go Av Rp
theorem c_heap_listed_1 (G : Globs) (h : Heap) (c a : Int) (hs : h.shaped = true) (hG : List.lookup 0 G = some wordsI) : ACall Tryz.prog G 97 [intv a, .im (.pt (heapI h) 0), .im (.pt [.int c] 0)] [] (fun r L' => r = boolv (h.isFree c a) ∧ L' = []) := by
  refine ACall.enter Tryz.func97 rfl Tryz.ntmps97 (by rw [Tryz.results97]) (Nat.le_of_ble_eq_true rfl) rfl ?_
  -- REGION 0
  (repeat refine AWp.seq ?_); refine AWp.region ?_
  refine rn 1 ?_
  refine AL.nil ?_; simp only [thenQ, inQ]
  cases hr : decide (0 < room h.P a) with
  | false =>
    (repeat refine AWp.seq ?_); refine rdrawsO [.flo 0 0, .flo 0 0, .flo 0 0, .flo 0 0, .flo 0 0, .flo 0 0, .flo 0 0, .flo 0 0, .flo 0 0, .flo 0 0, .flo 0 0, .flo 0 0, .flo 0 0, .flo 0 0, .flo 0 0, .flo 0 0, .flo 0 0, .flo 0 0, .flo 0 0, .flo 0 0] 0 [(3, intv (room h.P a))] mixed ?_ (h0 := by simp only [trun, oev, lk, chkAll, chkFrom, tS, undefS, List.getD_cons_zero, List.getD_cons_succ, if_true, hr, engA, engL, engT, reduceIte, reduceCtorEq, Nat.reduceLT, Nat.reduceLeDiff, Nat.reduceAdd, Nat.reduceSub, Nat.reduceMul, Nat.reduceEqDiff, Nat.reduceBneDiff, Nat.le_refl, Bool.false_eq_true, Int.reduceLT, Int.reduceLE, Int.reduceAdd, Int.reduceSub, Int.reduceMul, Int.reduceToNat, Int.reduceEq, Int.cast_ofNat_Int, Int.reduceNeg] <;> rfl) (hc := by simp only [trun, oev, lk, chkAll, chkFrom, tS, undefS, List.getD_cons_zero, List.getD_cons_succ, if_true, hr, engA, engL, engT, reduceIte, reduceCtorEq, Nat.reduceLT, Nat.reduceLeDiff, Nat.reduceAdd, Nat.reduceSub, Nat.reduceMul, Nat.reduceEqDiff, Nat.reduceBneDiff, Nat.le_refl, Bool.false_eq_true, Int.reduceLT, Int.reduceLE, Int.reduceAdd, Int.reduceSub, Int.reduceMul, Int.reduceToNat, Int.reduceEq, Int.cast_ofNat_Int, Int.reduceNeg]); refine ⟨⟨rcko Tryz.call63 (hC := c_cells_Room G _ _ hG), trivial⟩, ?_⟩; simp only [thenQ, inQ, tS, List.getD_cons_zero, List.getD_cons_succ, if_true]
    refine AWp.ret ?_; (try simp only [inQ, thenQ]); refine rret 0 ?_
    exact ⟨by simp only [pack, Heap.isFree, hr, Bool.false_and], rfl⟩
  | true =>
    obtain ⟨h1, h2, h3, h4⟩ := cell_range hs (room_pos.1 (of_decide_eq_true hr))
    cases hq : (decide ((h.page a).kind = 1) && decide ((h.page a).arg = c)) with
    | false =>
      have hq' : decide (h.page a = ⟨1, c⟩) = false := by rw [page_eq]; exact hq
      (repeat refine AWp.seq ?_); refine rdrawsO [.flo 0 0, .flo 0 0, .flo 0 0, .flo 0 0, .flo 0 0, .flo 0 0, .flo 0 0, .flo 0 0, .flo 0 0, .flo 0 0, .flo 0 0, .flo 0 0, .flo 0 0, .flo 0 0, .flo 0 0, .flo 0 0, .flo 0 0, .flo 0 0, .flo 0 0, .flo 0 0] 0 [(3, intv (room h.P a)), (8, pageV (h.page a)), (11, boolv false)] mixed ?_ (h0 := by simp only [trun, oev, lk, chkAll, chkFrom, tS, undefS, List.getD_cons_zero, List.getD_cons_succ, if_true, hr, engA, engL, engT, reduceIte, reduceCtorEq, Nat.reduceLT, Nat.reduceLeDiff, Nat.reduceAdd, Nat.reduceSub, Nat.reduceMul, Nat.reduceEqDiff, Nat.reduceBneDiff, Nat.le_refl, Bool.false_eq_true, Int.reduceLT, Int.reduceLE, Int.reduceAdd, Int.reduceSub, Int.reduceMul, Int.reduceToNat, Int.reduceEq, Int.cast_ofNat_Int, Int.reduceNeg] <;> rfl) (hc := by simp only [trun, oev, lk, chkAll, chkFrom, tS, undefS, List.getD_cons_zero, List.getD_cons_succ, if_true, hr, engA, engL, engT, reduceIte, reduceCtorEq, Nat.reduceLT, Nat.reduceLeDiff, Nat.reduceAdd, Nat.reduceSub, Nat.reduceMul, Nat.reduceEqDiff, Nat.reduceBneDiff, Nat.le_refl, Bool.false_eq_true, Int.reduceLT, Int.reduceLE, Int.reduceAdd, Int.reduceSub, Int.reduceMul, Int.reduceToNat, Int.reduceEq, Int.cast_ofNat_Int, Int.reduceNeg]); refine ⟨⟨rcko Tryz.call63 (hC := c_cells_Room G _ _ hG), rcko Tryz.call76 (hC := c_heap_page G h _ h1 h3 h4), reqo (fun W => eqPage _ _ _ _ W) (hz := by simp only [hq, reduceIte]), trivial⟩, ?_⟩; simp only [thenQ, inQ, tS, List.getD_cons_zero, List.getD_cons_succ, if_true]
      refine AWp.ret ?_; (try simp only [inQ, thenQ]); refine rret 0 ?_
      exact ⟨by simp only [pack, Heap.isFree, hr, hq', Bool.false_and, Bool.and_false], rfl⟩
    | true =>
      have hq' : decide (h.page a = ⟨1, c⟩) = true := by rw [page_eq]; exact hq
      (repeat refine AWp.seq ?_); refine rdrawsO [.flo 0 0, .flo 0 0, .flo 0 0, .flo 0 0, .flo 0 0, .flo 0 0, .flo 0 0, .flo 0 0, .flo 0 0, .flo 0 0, .flo 0 0, .flo 0 0, .flo 0 0, .flo 0 0, .flo 0 0, .flo 0 0, .flo 0 0, .flo 0 0, .flo 0 0, .flo 0 0] 0 [(3, intv (room h.P a)), (8, pageV (h.page a)), (11, boolv true), (16, intv (h.word a))] mixed ?_ (h0 := by simp only [trun, oev, lk, chkAll, chkFrom, tS, undefS, List.getD_cons_zero, List.getD_cons_succ, if_true, hr, engA, engL, engT, reduceIte, reduceCtorEq, Nat.reduceLT, Nat.reduceLeDiff, Nat.reduceAdd, Nat.reduceSub, Nat.reduceMul, Nat.reduceEqDiff, Nat.reduceBneDiff, Nat.le_refl, Bool.false_eq_true, Int.reduceLT, Int.reduceLE, Int.reduceAdd, Int.reduceSub, Int.reduceMul, Int.reduceToNat, Int.reduceEq, Int.cast_ofNat_Int, Int.reduceNeg] <;> rfl) (hc := by simp only [trun, oev, lk, chkAll, chkFrom, tS, undefS, List.getD_cons_zero, List.getD_cons_succ, if_true, hr, engA, engL, engT, reduceIte, reduceCtorEq, Nat.reduceLT, Nat.reduceLeDiff, Nat.reduceAdd, Nat.reduceSub, Nat.reduceMul, Nat.reduceEqDiff, Nat.reduceBneDiff, Nat.le_refl, Bool.false_eq_true, Int.reduceLT, Int.reduceLE, Int.reduceAdd, Int.reduceSub, Int.reduceMul, Int.reduceToNat, Int.reduceEq, Int.cast_ofNat_Int, Int.reduceNeg]); refine ⟨⟨rcko Tryz.call63 (hC := c_cells_Room G _ _ hG), rcko Tryz.call76 (hC := c_heap_page G h _ h1 h3 h4), reqo (fun W => eqPage _ _ _ _ W) (hz := by simp only [hq, reduceIte]), rcko Tryz.call65 (hC := c_heap_word G h _ h1 h2 h4), trivial⟩, ?_⟩; simp only [thenQ, inQ, tS, List.getD_cons_zero, List.getD_cons_succ, if_true]
      refine AWp.ret ?_; (try simp only [inQ, thenQ]); refine rret 0 ?_
      exact ⟨by simp only [pack, Heap.isFree, hr, hq', Bool.true_and], rfl⟩
end Go.Proofs
end

section
set_option linter.unusedSimpArgs false
set_option maxRecDepth 20000
set_option maxHeartbeats 1000000
namespace Go.Proofs
open Go Av Rp
theorem c_heap_May_1 (G : Globs) (h : Heap) (a : Int) (h1 : 16 ≤ a) (h2 : a - 16 < h.W.length) (h3 : a / 16 - 1 < h.P.length) (h4 : a ≤ 9223372036854775807) (hG : List.lookup 0 G = some wordsI) : ACall Tryz.prog G 75 [intv a, .im (.pt (heapI h) 0)] [] (fun r L' => r = boolv (h.cellOk a) ∧ L' = []) := by
  refine ACall.enter Tryz.func75 rfl Tryz.ntmps75 (by rw [Tryz.results75]) (Nat.le_of_ble_eq_true rfl) rfl ?_
  -- REGION 0
  (repeat refine AWp.seq ?_); refine AWp.region ?_
  refine rn 1 ?_
  refine AL.nil ?_; simp only [thenQ, inQ]
  -- REGION 1
  (repeat refine AWp.seq ?_); refine AWp.region ?_
  refine rn 2 ?_
  refine rcall Tryz.call65 (hC := c_heap_word G _ _ (by first | assumption | omega | simp_all) (by first | assumption | omega | simp_all) (by first | assumption | omega | simp_all)) (kk := ?_); simp only [Av.put]
  refine rcall Tryz.call64 (hC := c_head_Unpack G _) (kk := ?_); simp only [Av.put]
  refine rn 4 ?_
  refine rn 2 ?_
  refine AL.nil ?_; simp only [thenQ, inQ]
  -- REGION 2
  (repeat refine AWp.seq ?_); refine AWp.region ?_
  refine rn 2 ?_
  refine rcall Tryz.call76 (hC := c_heap_page G _ _ (by first | assumption | omega | simp_all) (by first | assumption | omega | simp_all) (by first | assumption | omega | simp_all)) (kk := ?_); simp only [Av.put]
  refine rn 2 ?_
  refine AL.nil ?_; simp only [thenQ, inQ]
  -- REGION 3
  (repeat refine AWp.seq ?_); refine AWp.region ?_
  refine rn 2 ?_
  refine rsp 18 (fun hb => ?_) (fun hb => ?_)
  · skip
    refine rn 4 ?_
    refine rsp 22 (fun hb => ?_) (fun hb => ?_)
    · skip
      refine rn 4 ?_
      refine rn 1 ?_
      refine rsp 27 (fun hb => ?_) (fun hb => ?_)
      · skip
        refine rn 4 ?_
        refine rn 4 ?_
        refine rn 3 ?_
        refine AL.nil ?_; simp only [thenQ, inQ]
        refine AWp.ret ?_; (try simp only [inQ, thenQ]); refine rret 0 ?_
        first | exact ⟨rfl, rfl⟩ | (refine ⟨?_, rfl⟩; (try simp only [pack, engA, engL]); (try simp_all [Heap.cellOk]) <;> first | omega | (rw [Bool.eq_iff_iff]; simp only [Bool.and_eq_true, Bool.or_eq_true, decide_eq_true_eq]; omega) | (simp only [decide_eq_decide]; omega))
      · skip
        refine rn 3 ?_
        refine rsp 30 (fun hb => ?_) (fun hb => ?_)
        · skip
          refine rn 3 ?_
          refine rcallG Tryz.call77 (hC := c_heap_fits G _ _ (by first | assumption | omega | simp_all)) (kk := ?_); simp only [Av.put]
          refine rn 4 ?_
          refine AL.nil ?_; simp only [thenQ, inQ]
          refine AWp.ret ?_; (try simp only [inQ, thenQ]); refine rret 0 ?_
          first | exact ⟨rfl, rfl⟩ | (refine ⟨?_, rfl⟩; (try simp only [pack, engA, engL]); (try simp_all [Heap.cellOk]) <;> first | omega | (rw [Bool.eq_iff_iff]; simp only [Bool.and_eq_true, Bool.or_eq_true, decide_eq_true_eq]; omega) | (simp only [decide_eq_decide]; omega))
        · skip
          refine rn 4 ?_
          refine rn 4 ?_
          refine AL.nil ?_; simp only [thenQ, inQ]
          refine AWp.ret ?_; (try simp only [inQ, thenQ]); refine rret 0 ?_
          first | exact ⟨rfl, rfl⟩ | (refine ⟨?_, rfl⟩; (try simp only [pack, engA, engL]); (try simp_all [Heap.cellOk]) <;> first | omega | (rw [Bool.eq_iff_iff]; simp only [Bool.and_eq_true, Bool.or_eq_true, decide_eq_true_eq]; omega) | (simp only [decide_eq_decide]; omega))
    · skip
      refine rn 4 ?_
      refine rn 4 ?_
      refine rsp 30 (fun hb => ?_) (fun hb => ?_)
      · skip
        refine rn 3 ?_
        refine rcallG Tryz.call77 (hC := c_heap_fits G _ _ (by first | assumption | omega | simp_all)) (kk := ?_); simp only [Av.put]
        refine rn 4 ?_
        refine AL.nil ?_; simp only [thenQ, inQ]
        refine AWp.ret ?_; (try simp only [inQ, thenQ]); refine rret 0 ?_
        first | exact ⟨rfl, rfl⟩ | (refine ⟨?_, rfl⟩; (try simp only [pack, engA, engL]); (try simp_all [Heap.cellOk]) <;> first | omega | (rw [Bool.eq_iff_iff]; simp only [Bool.and_eq_true, Bool.or_eq_true, decide_eq_true_eq]; omega) | (simp only [decide_eq_decide]; omega))
      · skip
        refine rn 4 ?_
        refine rn 4 ?_
        refine AL.nil ?_; simp only [thenQ, inQ]
        refine AWp.ret ?_; (try simp only [inQ, thenQ]); refine rret 0 ?_
        first | exact ⟨rfl, rfl⟩ | (refine ⟨?_, rfl⟩; (try simp only [pack, engA, engL]); (try simp_all [Heap.cellOk]) <;> first | omega | (rw [Bool.eq_iff_iff]; simp only [Bool.and_eq_true, Bool.or_eq_true, decide_eq_true_eq]; omega) | (simp only [decide_eq_decide]; omega))
  · skip
    refine rn 4 ?_
    refine rn 4 ?_
    refine rn 4 ?_
    refine rn 4 ?_
    refine rn 4 ?_
    refine AL.nil ?_; simp only [thenQ, inQ]
    refine AWp.ret ?_; (try simp only [inQ, thenQ]); refine rret 0 ?_
    first | exact ⟨rfl, rfl⟩ | (refine ⟨?_, rfl⟩; (try simp only [pack, engA, engL]); (try simp_all [Heap.cellOk]) <;> first | omega | (rw [Bool.eq_iff_iff]; simp only [Bool.and_eq_true, Bool.or_eq_true, decide_eq_true_eq]; omega) | (simp only [decide_eq_decide]; omega))

theorem c_heap_listed (G : Globs) (h : Heap) (l : Lists) (hs : h.shaped = true) (hG : List.lookup 0 G = some wordsI) : ACall Tryz.prog G 78 [heapV h, listsV l] [] (fun r L' => r = boolv (h.listed l) ∧ L' = []) := by
  refine ACall.enter Tryz.func78 rfl Tryz.ntmps78 (by rw [Tryz.results78]) (Nat.le_of_ble_eq_true rfl) rfl ?_
  -- REGION 0
  (repeat refine AWp.seq ?_); refine AWp.region ?_
  refine rn 3 ?_
  refine AL.nil ?_; simp only [thenQ, inQ]
  -- REGION 1
  (repeat refine AWp.seq ?_); refine AWp.region ?_
  refine rn 1 ?_
  refine AL.nil ?_; simp only [thenQ, inQ]
  (repeat refine AWp.seq ?_)
  refine AWp.block ?_
  (repeat refine AWp.seq ?_)
  refine AWp.rounds 4 ?_
  refine Rounds.round ?_
  -- REGION 2
  (repeat refine AWp.seq ?_); refine AWp.region ?_
  refine rn 1 ?_
  refine AL.nil ?_; simp only [thenQ, inQ]
  (repeat refine AWp.seq ?_)
  refine rc (t := true) (fun hb => ?_) (fun hb => by cases hb)
  (repeat refine AWp.seq ?_)
  refine AWp.skip ?_
  (try simp only [inQ, thenQ])
  (repeat refine AWp.seq ?_)
  refine AWp.block ?_
  -- REGION 3
  (repeat refine AWp.seq ?_); refine AWp.region ?_
  refine rn 3 ?_
  refine AL.nil ?_; simp only [thenQ, inQ]
  refine AWp.freezeV 0 (cs := heapI h) rfl ?_; simp only [frvT, frvB, SV.frv, frvL, Blk.frv, List.map_cons, List.map_nil, reduceIte, Nat.reduceEqDiff]; refine AWp.freezeV 2 (cs := [.int 0]) rfl ?_; simp only [frvT, frvB, SV.frv, frvL, Blk.frv, List.map_cons, List.map_nil, reduceIte, Nat.reduceEqDiff]
  (repeat refine AWp.seq ?_); refine AWp.region ?_
  refine rn 2 ?_
  refine AL.nil ?_; simp only [thenQ, inQ]
  -- REGION 5
  (repeat refine AWp.seq ?_); refine AWp.region ?_
  refine rn 4 ?_
  refine rcall Tryz.call79 (hC := c_heap_every G l.a 97 [] [.pt (heapI h) 0, .pt [.int 0] 0] (h.isFree 0) Tryz.call97 (fun a _ => c_heap_listed_1 G h 0 a hs hG)) (kk := ?_); simp only [Av.put]
  refine rn 1 ?_
  refine AL.nil ?_; simp only [thenQ, inQ]
  (repeat refine AWp.seq ?_)
  refine rc (fun hb => ?_) (fun hb => ?_)
  · skip
    -- REGION 6
    (repeat refine AWp.seq ?_); refine AWp.region ?_
    refine rn 1 ?_
    refine AL.nil ?_; simp only [thenQ, inQ]
    refine AWp.ret ?_; (try simp only [inQ, thenQ]); refine rret 0 ?_
    refine ⟨?_, rfl⟩; simp only [pack]; first | (rw [listed_a (by assumption)]; done) | (rw [listed_b (by assumption)]; done) | (rw [listed_c (by assumption)]; done) | (rw [listed_all (by assumption) (by assumption) (by assumption)]; done)
  · skip
    (repeat refine AWp.seq ?_)
    refine AWp.skip ?_
    (try simp only [inQ, thenQ])
    -- REGION 7
    (repeat refine AWp.seq ?_); refine AWp.region ?_
    refine rn 2 ?_
    refine AL.nil ?_; simp only [thenQ, inQ]
    (try simp only [inQ, thenQ])
    refine Rounds.round ?_
    -- REGION 2
    (repeat refine AWp.seq ?_); refine AWp.region ?_
    refine rn 1 ?_
    refine AL.nil ?_; simp only [thenQ, inQ]
    (repeat refine AWp.seq ?_)
    refine rc (t := true) (fun hb => ?_) (fun hb => by cases hb)
    (repeat refine AWp.seq ?_)
    refine AWp.skip ?_
    (try simp only [inQ, thenQ])
    (repeat refine AWp.seq ?_)
    refine AWp.block ?_
    -- REGION 3
    (repeat refine AWp.seq ?_); refine AWp.region ?_
    refine rn 3 ?_
    refine AL.nil ?_; simp only [thenQ, inQ]
    refine AWp.freezeV 3 (cs := [.int 1]) rfl ?_; simp only [frvT, frvB, SV.frv, frvL, Blk.frv, List.map_cons, List.map_nil, reduceIte, Nat.reduceEqDiff]
    (repeat refine AWp.seq ?_); refine AWp.region ?_
    refine rn 2 ?_
    refine AL.nil ?_; simp only [thenQ, inQ]
    -- REGION 5
    (repeat refine AWp.seq ?_); refine AWp.region ?_
    refine rn 4 ?_
    refine rcall Tryz.call79 (hC := c_heap_every G l.b 97 [] [.pt (heapI h) 0, .pt [.int 1] 0] (h.isFree 1) Tryz.call97 (fun a _ => c_heap_listed_1 G h 1 a hs hG)) (kk := ?_); simp only [Av.put]
    refine rn 1 ?_
    refine AL.nil ?_; simp only [thenQ, inQ]
    (repeat refine AWp.seq ?_)
    refine rc (fun hb => ?_) (fun hb => ?_)
    · skip
      -- REGION 6
      (repeat refine AWp.seq ?_); refine AWp.region ?_
      refine rn 1 ?_
      refine AL.nil ?_; simp only [thenQ, inQ]
      refine AWp.ret ?_; (try simp only [inQ, thenQ]); refine rret 0 ?_
      refine ⟨?_, rfl⟩; simp only [pack]; first | (rw [listed_a (by assumption)]; done) | (rw [listed_b (by assumption)]; done) | (rw [listed_c (by assumption)]; done) | (rw [listed_all (by assumption) (by assumption) (by assumption)]; done)
    · skip
      (repeat refine AWp.seq ?_)
      refine AWp.skip ?_
      (try simp only [inQ, thenQ])
      -- REGION 7
      (repeat refine AWp.seq ?_); refine AWp.region ?_
      refine rn 2 ?_
      refine AL.nil ?_; simp only [thenQ, inQ]
      (try simp only [inQ, thenQ])
      refine Rounds.round ?_
      -- REGION 2
      (repeat refine AWp.seq ?_); refine AWp.region ?_
      refine rn 1 ?_
      refine AL.nil ?_; simp only [thenQ, inQ]
      (repeat refine AWp.seq ?_)
      refine rc (t := true) (fun hb => ?_) (fun hb => by cases hb)
      (repeat refine AWp.seq ?_)
      refine AWp.skip ?_
      (try simp only [inQ, thenQ])
      (repeat refine AWp.seq ?_)
      refine AWp.block ?_
      -- REGION 3
      (repeat refine AWp.seq ?_); refine AWp.region ?_
      refine rn 3 ?_
      refine AL.nil ?_; simp only [thenQ, inQ]
      refine AWp.freezeV 4 (cs := [.int 2]) rfl ?_; simp only [frvT, frvB, SV.frv, frvL, Blk.frv, List.map_cons, List.map_nil, reduceIte, Nat.reduceEqDiff]
      (repeat refine AWp.seq ?_); refine AWp.region ?_
      refine rn 2 ?_
      refine AL.nil ?_; simp only [thenQ, inQ]
      -- REGION 5
      (repeat refine AWp.seq ?_); refine AWp.region ?_
      refine rn 4 ?_
      refine rcall Tryz.call79 (hC := c_heap_every G l.c 97 [] [.pt (heapI h) 0, .pt [.int 2] 0] (h.isFree 2) Tryz.call97 (fun a _ => c_heap_listed_1 G h 2 a hs hG)) (kk := ?_); simp only [Av.put]
      refine rn 1 ?_
      refine AL.nil ?_; simp only [thenQ, inQ]
      (repeat refine AWp.seq ?_)
      refine rc (fun hb => ?_) (fun hb => ?_)
      · skip
        -- REGION 6
        (repeat refine AWp.seq ?_); refine AWp.region ?_
        refine rn 1 ?_
        refine AL.nil ?_; simp only [thenQ, inQ]
        refine AWp.ret ?_; (try simp only [inQ, thenQ]); refine rret 0 ?_
        refine ⟨?_, rfl⟩; simp only [pack]; first | (rw [listed_a (by assumption)]; done) | (rw [listed_b (by assumption)]; done) | (rw [listed_c (by assumption)]; done) | (rw [listed_all (by assumption) (by assumption) (by assumption)]; done)
      · skip
        (repeat refine AWp.seq ?_)
        refine AWp.skip ?_
        (try simp only [inQ, thenQ])
        -- REGION 7
        (repeat refine AWp.seq ?_); refine AWp.region ?_
        refine rn 2 ?_
        refine AL.nil ?_; simp only [thenQ, inQ]
        (try simp only [inQ, thenQ])
        refine Rounds.round ?_
        -- REGION 2
        (repeat refine AWp.seq ?_); refine AWp.region ?_
        refine rn 1 ?_
        refine AL.nil ?_; simp only [thenQ, inQ]
        (repeat refine AWp.seq ?_)
        refine rc (t := false) (fun hb => by cases hb) (fun hb => ?_)
        refine AWp.exit ?_
        simp only [inQ, thenQ, reduceIte, Nat.reduceEqDiff]
        -- REGION 8
        (repeat refine AWp.seq ?_); refine AWp.region ?_
        refine rn 1 ?_
        refine AL.nil ?_; simp only [thenQ, inQ]
        refine AWp.ret ?_; (try simp only [inQ, thenQ]); refine rret 0 ?_
        refine ⟨?_, rfl⟩; simp only [pack]; first | (rw [listed_a (by assumption)]; done) | (rw [listed_b (by assumption)]; done) | (rw [listed_c (by assumption)]; done) | (rw [listed_all (by assumption) (by assumption) (by assumption)]; done)

end Go.Proofs
end

section
set_option linter.unusedSimpArgs false
set_option maxRecDepth 20000
set_option maxHeartbeats 1000000
namespace Go.Proofs
open Go Av Rp
theorem c_slices_Grow_int_int (G : Globs) (n : Nat) (hn : n ≤ 274877906944) : ACall Tryz.prog G 121 [.im (.v (.slice none 0 0)), intv n] [] (fun r L' => r = .app 0 ∧ L' = [.app 1 [] 3]) := by
  refine ACall.enter Tryz.func121 rfl Tryz.ntmps121 (by rw [Tryz.results121]) (Nat.le_of_ble_eq_true rfl) rfl ?_
  -- REGION 0
  (repeat refine AWp.seq ?_); refine AWp.region ?_
  refine rn 1 ?_
  refine AL.nil ?_; simp only [thenQ, inQ]
  -- REGION 1
  (repeat refine AWp.seq ?_); refine AWp.region ?_
  refine rn 2 ?_
  refine AL.nil ?_; simp only [thenQ, inQ]
  (repeat refine AWp.seq ?_)
  refine rc (fun hb => ?_) (fun hb => ?_)
  · exact absurd (of_decide_eq_true hb) (by omega)
  have hw0 : IntKind.i64.wrap ((n : Int) - 0) = n := by rw [wrap_id _ (by omega) (by omega)]; omega
  have hw1 : IntKind.i64.wrap (0 - 0) = 0 := by decide
  (repeat refine AWp.seq ?_)
  refine AWp.skip ?_
  (try simp only [inQ, thenQ])
  -- REGION 3
  (repeat refine AWp.seq ?_); refine AWp.region ?_
  refine rn 2 ?_
  refine AL.consEq (OpTo.capNil rfl rfl ti22 rfl (by simp only [engA, engL, engT, reduceIte, reduceCtorEq, Nat.reduceLT, Nat.reduceLeDiff, Nat.reduceAdd, Nat.reduceSub, Nat.reduceMul, Nat.reduceEqDiff, Nat.reduceBneDiff, Nat.le_refl, Bool.false_eq_true, Int.reduceLT, Int.reduceLE, Int.reduceAdd, Int.reduceSub, Int.reduceMul, Int.reduceToNat, Int.reduceEq, Int.cast_ofNat_Int, Int.reduceNeg] <;> rfl)) rfl ?_
  simp only [Av.put]
  refine rn 4 (k := ?_) (h := by simp (maxSteps := 3000000) only [hw0, hw1, Int.sub_self, Int.natCast_zero, engA, engL, engT, reduceIte, reduceCtorEq, Nat.reduceLT, Nat.reduceLeDiff, Nat.reduceAdd, Nat.reduceSub, Nat.reduceMul, Nat.reduceEqDiff, Nat.reduceBneDiff, Nat.le_refl, Bool.false_eq_true, Int.reduceLT, Int.reduceLE, Int.reduceAdd, Int.reduceSub, Int.reduceMul, Int.reduceToNat, Int.reduceEq, Int.cast_ofNat_Int, Int.reduceNeg] <;> rfl)
  refine rn 1 ?_
  refine AL.nil ?_; simp only [thenQ, inQ]
  -- REGION 4
  (repeat refine AWp.seq ?_); refine AWp.region ?_
  refine rn 2 ?_
  refine AL.nil ?_; simp only [thenQ, inQ]
  (repeat refine AWp.seq ?_)
  refine rc (fun hb => ?_) (fun hb => ?_)
  · have hpos : 0 < n := by simp at hb; omega
    -- REGION 5
    (repeat refine AWp.seq ?_); refine AWp.region ?_
    refine rn 2 ?_
    refine AL.consEq (OpTo.capNil rfl rfl ti22 rfl (by simp only [engA, engL, engT, reduceIte, reduceCtorEq, Nat.reduceLT, Nat.reduceLeDiff, Nat.reduceAdd, Nat.reduceSub, Nat.reduceMul, Nat.reduceEqDiff, Nat.reduceBneDiff, Nat.le_refl, Bool.false_eq_true, Int.reduceLT, Int.reduceLE, Int.reduceAdd, Int.reduceSub, Int.reduceMul, Int.reduceToNat, Int.reduceEq, Int.cast_ofNat_Int, Int.reduceNeg] <;> rfl)) rfl ?_
    simp only [Av.put]
    refine AL.consEq (OpTo.sliceNil rfl rfl ti22 rfl ti3 (by simp only [engA, engL, engT, reduceIte, reduceCtorEq, Nat.reduceLT, Nat.reduceLeDiff, Nat.reduceAdd, Nat.reduceSub, Nat.reduceMul, Nat.reduceEqDiff, Nat.reduceBneDiff, Nat.le_refl, Bool.false_eq_true, Int.reduceLT, Int.reduceLE, Int.reduceAdd, Int.reduceSub, Int.reduceMul, Int.reduceToNat, Int.reduceEq, Int.cast_ofNat_Int, Int.reduceNeg] <;> rfl) (by simp only [bnd, engA, engL, engT, reduceIte, reduceCtorEq, Nat.reduceLT, Nat.reduceLeDiff, Nat.reduceAdd, Nat.reduceSub, Nat.reduceMul, Nat.reduceEqDiff, Nat.reduceBneDiff, Nat.le_refl, Bool.false_eq_true, Int.reduceLT, Int.reduceLE, Int.reduceAdd, Int.reduceSub, Int.reduceMul, Int.reduceToNat, Int.reduceEq, Int.cast_ofNat_Int, Int.reduceNeg]) (by simp only [bnd, engA, engL, engT, reduceIte, reduceCtorEq, Nat.reduceLT, Nat.reduceLeDiff, Nat.reduceAdd, Nat.reduceSub, Nat.reduceMul, Nat.reduceEqDiff, Nat.reduceBneDiff, Nat.le_refl, Bool.false_eq_true, Int.reduceLT, Int.reduceLE, Int.reduceAdd, Int.reduceSub, Int.reduceMul, Int.reduceToNat, Int.reduceEq, Int.cast_ofNat_Int, Int.reduceNeg])) rfl ?_
    simp only [Av.put]
    refine rn 1 ?_
    refine AL.consEq (OpTo.appendZ (n := n) rfl rfl ti22 rfl ti3 rfl rfl (by decide) (by decide) (by decide) ti3 rfl (by simp only [engA, engL, engT, reduceIte, reduceCtorEq, Nat.reduceLT, Nat.reduceLeDiff, Nat.reduceAdd, Nat.reduceSub, Nat.reduceMul, Nat.reduceEqDiff, Nat.reduceBneDiff, Nat.le_refl, Bool.false_eq_true, Int.reduceLT, Int.reduceLE, Int.reduceAdd, Int.reduceSub, Int.reduceMul, Int.reduceToNat, Int.reduceEq, Int.cast_ofNat_Int, Int.reduceNeg] <;> rfl) (by simp only [engA, engL, engT, reduceIte, reduceCtorEq, Nat.reduceLT, Nat.reduceLeDiff, Nat.reduceAdd, Nat.reduceSub, Nat.reduceMul, Nat.reduceEqDiff, Nat.reduceBneDiff, Nat.le_refl, Bool.false_eq_true, Int.reduceLT, Int.reduceLE, Int.reduceAdd, Int.reduceSub, Int.reduceMul, Int.reduceToNat, Int.reduceEq, Int.cast_ofNat_Int, Int.reduceNeg] <;> rfl) hpos hn) rfl ?_
    simp only [Av.put, List.length_nil, List.nil_append, List.map_cons, List.map_nil]
    refine rn 2 ?_
    refine rcutI (es := List.replicate n [.v (.int .i64 0)]) 0 0 ti22 ti3 (Nat.zero_le _) (Nat.zero_le _) ?_
    refine rn 1 ?_
    refine AL.nil ?_; simp only [thenQ, inQ]
    -- REGION 6
    (repeat refine AWp.seq ?_); refine AWp.region ?_
    refine rn 2 ?_
    refine AL.nil ?_; simp only [thenQ, inQ]
    refine AWp.ret ?_; (try simp only [inQ, thenQ]); refine rret 1 ?_
    exact ⟨rfl, rfl⟩
  · have hz : n = 0 := by simp at hb; omega
    (repeat refine AWp.seq ?_)
    refine AWp.skip ?_
    (try simp only [inQ, thenQ])
    (repeat refine AWp.seq ?_)
    refine AWp.newApp 1 3 0 (by simp only [engA, engL, engT, reduceIte, reduceCtorEq, Nat.reduceLT, Nat.reduceLeDiff, Nat.reduceAdd, Nat.reduceSub, Nat.reduceMul, Nat.reduceEqDiff, Nat.reduceBneDiff, Nat.le_refl, Bool.false_eq_true, Int.reduceLT, Int.reduceLE, Int.reduceAdd, Int.reduceSub, Int.reduceMul, Int.reduceToNat, Int.reduceEq, Int.cast_ofNat_Int, Int.reduceNeg] <;> rfl) ?_
    -- REGION 6
    (repeat refine AWp.seq ?_); refine AWp.region ?_
    refine rn 2 ?_
    refine AL.nil ?_; simp only [thenQ, inQ]
    refine AWp.ret ?_; (try simp only [inQ, thenQ]); refine rret 1 ?_
    exact ⟨rfl, rfl⟩
theorem c_slices_Concat_int_int (G : Globs) (ls : List (List Int)) (ht : ls.flatten.length ≤ 1000000) : ACall Tryz.prog G 112 [.im (.sl 1 (ls.map fun l => [ints l]))] [] (fun r L' => r = .im (ints ls.flatten) ∧ L' = []) := by
  refine ACall.enter Tryz.func112 rfl Tryz.ntmps112 (by rw [Tryz.results112]) (Nat.le_of_ble_eq_true rfl) rfl ?_
  refine AWp.big 0 rfl (fun hbig => ?_)
  replace hbig : ls.length ≤ 274877906944 := by simpa [bigN] using hbig
  -- REGION 0
  (repeat refine AWp.seq ?_); refine AWp.region ?_
  refine rn 1 ?_
  refine AL.nil ?_; simp only [thenQ, inQ]
  -- REGION 1
  (repeat refine AWp.seq ?_); refine AWp.region ?_
  refine rn 1 ?_
  refine AL.nil ?_; simp only [thenQ, inQ]
  -- REGION 2
  (repeat refine AWp.seq ?_); refine AWp.region ?_
  refine rn 3 (k := ?_) (h := by simp (maxSteps := 3000000) only [List.length_map, engA, engL, engT, reduceIte, reduceCtorEq, Nat.reduceLT, Nat.reduceLeDiff, Nat.reduceAdd, Nat.reduceSub, Nat.reduceMul, Nat.reduceEqDiff, Nat.reduceBneDiff, Nat.le_refl, Bool.false_eq_true, Int.reduceLT, Int.reduceLE, Int.reduceAdd, Int.reduceSub, Int.reduceMul, Int.reduceToNat, Int.reduceEq, Int.cast_ofNat_Int, Int.reduceNeg] <;> rfl)
  refine AL.nil ?_; simp only [thenQ, inQ]
  (repeat refine AWp.seq ?_)
  refine AWp.block ?_
  (repeat refine AWp.seq ?_)
  refine AWp.loopS (σ := Nat) (fun i => i ≤ ls.length) (fun i => ls.length - i) (fun i => [(11, intv i), (10, intv ls.length), (9, .im (.sl 1 (ls.map fun l => [ints l]))), (3, intv (ls.take i).flatten.length), (0, .im (.sl 1 (ls.map fun l => [ints l])))]) (fun _ => []) 0 ⟨Nat.zero_le _, ⟨rfl, rfl, rfl, rfl, rfl, trivial⟩, rfl⟩ ?_
  intro i h1
  -- REGION 3
  (repeat refine AWp.seq ?_); refine AWp.region ?_
  refine rn 1 ?_
  refine AL.nil ?_; simp only [thenQ, inQ]
  (repeat refine AWp.seq ?_)
  refine rc (fun hb => ?_) (fun hb => ?_)
  · have hlt : i < ls.length := by simp at hb; omega
    obtain ⟨x, hx⟩ : ∃ x, ls[i]? = some x := ⟨_, List.getElem?_eq_getElem hlt⟩
    have hc : (0 ≤ (i : Int) ∧ (i : Int) < (ls.length : Int)) = True := by simp; omega
    have htk : (ls.take (i + 1)).flatten.length = (ls.take i).flatten.length + x.length := by rw [List.take_add_one, hx]; simp
    have hle : (ls.take (i + 1)).flatten.length ≤ 1000000 := Nat.le_trans (flat_take ls (i + 1)) ht
    have hw : IntKind.i64.wrap ((i : Int) + 1) = ((i + 1 : Nat) : Int) := by rw [wrap_id _ (by omega) (by omega)]; omega
    have hw2 : IntKind.i64.wrap (((ls.take i).flatten.length : Int) + (x.length : Int)) = ((ls.take (i + 1)).flatten.length : Int) := by rw [wrap_id _ (by omega) (by omega), htk]; omega
    (repeat refine AWp.seq ?_)
    refine AWp.skip ?_
    (try simp only [inQ, thenQ])
    (repeat refine AWp.seq ?_)
    refine AWp.block ?_
    -- REGION 4
    (repeat refine AWp.seq ?_); refine AWp.region ?_
    refine rn 3 (k := ?_) (h := by simp (maxSteps := 3000000) only [hc, hx, Int.toNat_natCast, List.getElem?_map, List.length_map, Nat.mul_one, Nat.div_one, Nat.mod_one, engA, engL, engT, reduceIte, reduceCtorEq, Nat.reduceLT, Nat.reduceLeDiff, Nat.reduceAdd, Nat.reduceSub, Nat.reduceMul, Nat.reduceEqDiff, Nat.reduceBneDiff, Nat.le_refl, Bool.false_eq_true, Int.reduceLT, Int.reduceLE, Int.reduceAdd, Int.reduceSub, Int.reduceMul, Int.reduceToNat, Int.reduceEq, Int.cast_ofNat_Int, Int.reduceNeg] <;> rfl)
    refine AL.nil ?_; simp only [thenQ, inQ]
    -- REGION 5
    (repeat refine AWp.seq ?_); refine AWp.region ?_
    refine rn 3 ?_
    refine rn 2 (k := ?_) (h := by simp (maxSteps := 3000000) only [hw2, engA, engL, engT, reduceIte, reduceCtorEq, Nat.reduceLT, Nat.reduceLeDiff, Nat.reduceAdd, Nat.reduceSub, Nat.reduceMul, Nat.reduceEqDiff, Nat.reduceBneDiff, Nat.le_refl, Bool.false_eq_true, Int.reduceLT, Int.reduceLE, Int.reduceAdd, Int.reduceSub, Int.reduceMul, Int.reduceToNat, Int.reduceEq, Int.cast_ofNat_Int, Int.reduceNeg] <;> rfl)
    refine AL.nil ?_; simp only [thenQ, inQ]
    -- REGION 6
    (repeat refine AWp.seq ?_); refine AWp.region ?_
    refine rn 2 ?_
    refine AL.nil ?_; simp only [thenQ, inQ]
    (repeat refine AWp.seq ?_)
    refine rc (fun hb => ?_) (fun hb => ?_)
    · exact absurd (of_decide_eq_true hb) (by omega)
    · (repeat refine AWp.seq ?_)
      refine AWp.skip ?_
      (try simp only [inQ, thenQ])
      -- REGION 8
      (repeat refine AWp.seq ?_); refine AWp.region ?_
      refine rn 2 (k := ?_) (h := by simp (maxSteps := 3000000) only [hw, engA, engL, engT, reduceIte, reduceCtorEq, Nat.reduceLT, Nat.reduceLeDiff, Nat.reduceAdd, Nat.reduceSub, Nat.reduceMul, Nat.reduceEqDiff, Nat.reduceBneDiff, Nat.le_refl, Bool.false_eq_true, Int.reduceLT, Int.reduceLE, Int.reduceAdd, Int.reduceSub, Int.reduceMul, Int.reduceToNat, Int.reduceEq, Int.cast_ofNat_Int, Int.reduceNeg] <;> rfl)
      refine AL.nil ?_; simp only [thenQ, inQ]
      (try simp only [inQ, thenQ])
      exact ⟨i + 1, hlt, by omega, (by simp only [engA, engL, engT, reduceIte, reduceCtorEq, Nat.reduceLT, Nat.reduceLeDiff, Nat.reduceAdd, Nat.reduceSub, Nat.reduceMul, Nat.reduceEqDiff, Nat.reduceBneDiff, Nat.le_refl, Bool.false_eq_true, Int.reduceLT, Int.reduceLE, Int.reduceAdd, Int.reduceSub, Int.reduceMul, Int.reduceToNat, Int.reduceEq, Int.cast_ofNat_Int, Int.reduceNeg, eq_self, and_self]), by first | rfl | trivial⟩
  · have hi : i = ls.length := by simp at hb; omega
    subst hi
    refine AWp.exit ?_
    simp only [inQ, thenQ, reduceIte, Nat.reduceEqDiff]
    -- REGION 9
    (repeat refine AWp.seq ?_); refine AWp.region ?_
    refine rn 1 ?_
    refine rcallO Tryz.call121 (hC := c_slices_Grow_int_int G _ (by have := flat_take ls ls.length; omega)) (kk := ?_)
    simp only [Av.put, List.nil_append]
    refine rn 1 ?_
    refine AL.nil ?_; simp only [thenQ, inQ]
    -- REGION 10
    (repeat refine AWp.seq ?_); refine AWp.region ?_
    refine rn 3 (k := ?_) (h := by simp (maxSteps := 3000000) only [List.length_map, engA, engL, engT, reduceIte, reduceCtorEq, Nat.reduceLT, Nat.reduceLeDiff, Nat.reduceAdd, Nat.reduceSub, Nat.reduceMul, Nat.reduceEqDiff, Nat.reduceBneDiff, Nat.le_refl, Bool.false_eq_true, Int.reduceLT, Int.reduceLE, Int.reduceAdd, Int.reduceSub, Int.reduceMul, Int.reduceToNat, Int.reduceEq, Int.cast_ofNat_Int, Int.reduceNeg] <;> rfl)
    refine AL.nil ?_; simp only [thenQ, inQ]
    (repeat refine AWp.seq ?_)
    refine AWp.block ?_
    (repeat refine AWp.seq ?_)
    refine AWp.loopS (σ := Nat) (fun i => i ≤ ls.length) (fun i => ls.length - i) (fun i => [(27, intv i), (26, intv ls.length), (25, .im (.sl 1 (ls.map fun l => [ints l]))), (6, .app 0)]) (fun i => [.app 1 ((ls.take i).flatten.map fun n => [.int n]) 3]) 0 ⟨Nat.zero_le _, (by simp only [engA, engL, engT, reduceIte, reduceCtorEq, Nat.reduceLT, Nat.reduceLeDiff, Nat.reduceAdd, Nat.reduceSub, Nat.reduceMul, Nat.reduceEqDiff, Nat.reduceBneDiff, Nat.le_refl, Bool.false_eq_true, Int.reduceLT, Int.reduceLE, Int.reduceAdd, Int.reduceSub, Int.reduceMul, Int.reduceToNat, Int.reduceEq, Int.cast_ofNat_Int, Int.reduceNeg, eq_self, and_self]), rfl⟩ ?_
    intro i h1
    -- REGION 11
    (repeat refine AWp.seq ?_); refine AWp.region ?_
    refine rn 1 ?_
    refine AL.nil ?_; simp only [thenQ, inQ]
    (repeat refine AWp.seq ?_)
    refine rc (fun hb => ?_) (fun hb => ?_)
    · have hlt : i < ls.length := by simp at hb; omega
      obtain ⟨x, hx⟩ : ∃ x, ls[i]? = some x := ⟨_, List.getElem?_eq_getElem hlt⟩
      have hc : (0 ≤ (i : Int) ∧ (i : Int) < (ls.length : Int)) = True := by simp; omega
      have htk : (ls.take (i + 1)).flatten = (ls.take i).flatten ++ x := by rw [List.take_add_one, hx]; simp
      have hle : (ls.take (i + 1)).flatten.length ≤ 1000000 := Nat.le_trans (flat_take ls (i + 1)) ht
      have hw : IntKind.i64.wrap ((i : Int) + 1) = ((i + 1 : Nat) : Int) := by rw [wrap_id _ (by omega) (by omega)]; omega
      (repeat refine AWp.seq ?_)
      refine AWp.skip ?_
      (try simp only [inQ, thenQ])
      (repeat refine AWp.seq ?_)
      refine AWp.block ?_
      -- REGION 12
      (repeat refine AWp.seq ?_); refine AWp.region ?_
      refine rn 3 (k := ?_) (h := by simp (maxSteps := 3000000) only [hc, hx, Int.toNat_natCast, List.getElem?_map, List.length_map, Nat.mul_one, Nat.div_one, Nat.mod_one, engA, engL, engT, reduceIte, reduceCtorEq, Nat.reduceLT, Nat.reduceLeDiff, Nat.reduceAdd, Nat.reduceSub, Nat.reduceMul, Nat.reduceEqDiff, Nat.reduceBneDiff, Nat.le_refl, Bool.false_eq_true, Int.reduceLT, Int.reduceLE, Int.reduceAdd, Int.reduceSub, Int.reduceMul, Int.reduceToNat, Int.reduceEq, Int.cast_ofNat_Int, Int.reduceNeg] <;> rfl)
      refine AL.nil ?_; simp only [thenQ, inQ]
      -- REGION 13
      (repeat refine AWp.seq ?_); refine AWp.region ?_
      refine rn 2 ?_
      refine rappI (es := (ls.take i).flatten.map fun n => [.int n]) (ys := x.map fun n => [.int n]) 0 ti22 ti3 (by rw [htk, List.length_append] at hle; rw [List.length_map, List.length_map]; simp only [bigN]; omega) (Nat.zero_le _) ?_ (hoc := oc_intl x)
      refine rn 1 ?_
      refine AL.nil ?_; simp only [thenQ, inQ]
      -- REGION 14
      (repeat refine AWp.seq ?_); refine AWp.region ?_
      refine rn 2 (k := ?_) (h := by simp (maxSteps := 3000000) only [hw, engA, engL, engT, reduceIte, reduceCtorEq, Nat.reduceLT, Nat.reduceLeDiff, Nat.reduceAdd, Nat.reduceSub, Nat.reduceMul, Nat.reduceEqDiff, Nat.reduceBneDiff, Nat.le_refl, Bool.false_eq_true, Int.reduceLT, Int.reduceLE, Int.reduceAdd, Int.reduceSub, Int.reduceMul, Int.reduceToNat, Int.reduceEq, Int.cast_ofNat_Int, Int.reduceNeg] <;> rfl)
      refine AL.nil ?_; simp only [thenQ, inQ]
      (try simp only [inQ, thenQ])
      exact ⟨i + 1, hlt, by omega, (by simp only [engA, engL, engT, reduceIte, reduceCtorEq, Nat.reduceLT, Nat.reduceLeDiff, Nat.reduceAdd, Nat.reduceSub, Nat.reduceMul, Nat.reduceEqDiff, Nat.reduceBneDiff, Nat.le_refl, Bool.false_eq_true, Int.reduceLT, Int.reduceLE, Int.reduceAdd, Int.reduceSub, Int.reduceMul, Int.reduceToNat, Int.reduceEq, Int.cast_ofNat_Int, Int.reduceNeg, eq_self, and_self]), by rw [htk, List.map_append]⟩
    · have hi : i = ls.length := by simp at hb; omega
      subst hi
      refine AWp.exit ?_
      simp only [inQ, thenQ, reduceIte, Nat.reduceEqDiff]
      rw [List.take_length]
      refine AWp.freeze 0 rfl (by rw [List.length_map]; simp only [bigN]; omega) ?_
      simp only [frzT, frzB, SV.frz, frzL, Blk.frz, engA, engL, engT, reduceIte, reduceCtorEq, Nat.reduceLT, Nat.reduceLeDiff, Nat.reduceAdd, Nat.reduceSub, Nat.reduceMul, Nat.reduceEqDiff, Nat.reduceBneDiff, Nat.le_refl, Bool.false_eq_true, Int.reduceLT, Int.reduceLE, Int.reduceAdd, Int.reduceSub, Int.reduceMul, Int.reduceToNat, Int.reduceEq, Int.cast_ofNat_Int, Int.reduceNeg, List.map_cons, List.map_nil]
      -- REGION 15
      (repeat refine AWp.seq ?_); refine AWp.region ?_
      refine rn 2 ?_
      refine AL.nil ?_; simp only [thenQ, inQ]
      refine AWp.ret ?_; (try simp only [inQ, thenQ]); refine rret 0 ?_
      exact ⟨rfl, rfl⟩
end Go.Proofs
end

section
set_option linter.unusedSimpArgs false
set_option maxRecDepth 20000
set_option maxHeartbeats 1000000
namespace Go.Proofs
open Go Av Rp
theorem c_lists_All (G : Globs) (l : List Lists) (ht : (allLists l).length ≤ 1000000) : ACall Tryz.prog G 101 [.im (listss l)] [] (fun r L' => r = .app 0 ∧ L' = [.app 1 ((allLists l).map fun n => [.int n]) 3]) := by
  refine ACall.enter Tryz.func101 rfl Tryz.ntmps101 (by rw [Tryz.results101]) (Nat.le_of_ble_eq_true rfl) rfl ?_
  refine AWp.big 0 rfl (fun hbig => ?_)
  replace hbig : l.length ≤ 274877906944 := by simpa [bigN] using hbig
  -- REGION 0
  (repeat refine AWp.seq ?_); refine AWp.region ?_
  refine rn 1 ?_
  refine AL.nil ?_; simp only [thenQ, inQ]
  -- REGION 1
  (repeat refine AWp.seq ?_); refine AWp.region ?_
  refine rn 1 ?_
  refine AL.nil ?_; simp only [thenQ, inQ]
  -- REGION 2
  (repeat refine AWp.seq ?_); refine AWp.region ?_
  refine rn 3 ?_
  refine AL.nil ?_; simp only [thenQ, inQ]
  (repeat refine AWp.seq ?_)
  refine AWp.newApp 1 3 3 (by simp only [engA, engL, engT, reduceIte, reduceCtorEq, Nat.reduceLT, Nat.reduceLeDiff, Nat.reduceAdd, Nat.reduceSub, Nat.reduceMul, Nat.reduceEqDiff, Nat.reduceBneDiff, Nat.le_refl, Bool.false_eq_true, Int.reduceLT, Int.reduceLE, Int.reduceAdd, Int.reduceSub, Int.reduceMul, Int.reduceToNat, Int.reduceEq, Int.cast_ofNat_Int, Int.reduceNeg] <;> rfl) ?_
  simp only [engA, engL, engT, reduceIte, reduceCtorEq, Nat.reduceLT, Nat.reduceLeDiff, Nat.reduceAdd, Nat.reduceSub, Nat.reduceMul, Nat.reduceEqDiff, Nat.reduceBneDiff, Nat.le_refl, Bool.false_eq_true, Int.reduceLT, Int.reduceLE, Int.reduceAdd, Int.reduceSub, Int.reduceMul, Int.reduceToNat, Int.reduceEq, Int.cast_ofNat_Int, Int.reduceNeg]
  refine AWp.block ?_
  (repeat refine AWp.seq ?_)
  refine AWp.loopC (σ := Nat) (fun i => i ≤ l.length) (fun i => l.length - i) (fun i => [(8, intv i), (7, intv l.length), (6, .im (listss l)), (3, .app 0)]) (fun i => [.app 1 ((allLists (l.take i)).map fun n => [.int n]) 3]) 0 1 (Nat.zero_le _) (Nat.zero_le _) (fun _ => rfl) (fun _ => rfl) ⟨Nat.zero_le _, ⟨rfl, rfl, rfl, rfl, trivial⟩, rfl⟩ ?_
  intro i h1
  -- REGION 3
  (repeat refine AWp.seq ?_); refine AWp.region ?_
  refine rn 1 ?_
  refine AL.nil ?_; simp only [thenQ, inQ]
  (repeat refine AWp.seq ?_)
  refine rc (fun hb => ?_) (fun hb => ?_)
  · have hlt : i < l.length := by simp at hb; omega
    obtain ⟨x, hx⟩ : ∃ x, l[i]? = some x := ⟨_, List.getElem?_eq_getElem hlt⟩
    have hc : (0 ≤ (i : Int) ∧ (i : Int) < (l.length : Int)) = True := by simp; omega
    have htk : allLists (l.take (i + 1)) = allLists (l.take i) ++ [x.a, x.b, x.c].flatten := by rw [List.take_add_one, hx]; simp [allLists, Lists.all]
    have hle : (allLists (l.take (i + 1))).length ≤ 1000000 := Nat.le_trans (allLists_take l (i + 1)) ht
    have hle2 : [x.a, x.b, x.c].flatten.length ≤ 1000000 := by rw [htk, List.length_append] at hle; omega
    have hw : IntKind.i64.wrap ((i : Int) + 1) = ((i + 1 : Nat) : Int) := by rw [wrap_id _ (by omega) (by omega)]; omega
    (repeat refine AWp.seq ?_)
    refine AWp.skip ?_
    (try simp only [inQ, thenQ])
    (repeat refine AWp.seq ?_)
    refine AWp.block ?_
    -- REGION 4
    (repeat refine AWp.seq ?_); refine AWp.region ?_
    refine rn 4 (k := ?_) (h := by simp (maxSteps := 3000000) only [hc, hx, Int.toNat_natCast, List.getElem?_map, Nat.mul_div_cancel _ (show 0 < 3 by decide), Nat.mul_mod_left, engA, engL, engT, reduceIte, reduceCtorEq, Nat.reduceLT, Nat.reduceLeDiff, Nat.reduceAdd, Nat.reduceSub, Nat.reduceMul, Nat.reduceEqDiff, Nat.reduceBneDiff, Nat.le_refl, Bool.false_eq_true, Int.reduceLT, Int.reduceLE, Int.reduceAdd, Int.reduceSub, Int.reduceMul, Int.reduceToNat, Int.reduceEq, Int.cast_ofNat_Int, Int.reduceNeg] <;> rfl)
    refine AL.nil ?_; simp only [thenQ, inQ]
    refine AWp.freezeV 1 (cs := listsI x) rfl ?_; simp only [frvT, frvB, SV.frv, frvL, Blk.frv, List.map_cons, List.map_nil, reduceIte, Nat.reduceEqDiff]
    -- REGION 5
    (repeat refine AWp.seq ?_); refine AWp.region ?_
    refine rn 1 ?_
    refine AL.consEq (OpTo.sliceArr (es := [[ints x.a], [ints x.b], [ints x.c]]) rfl rfl ti25 rfl ti22 (by simp only [engA, engL, engT, reduceIte, reduceCtorEq, Nat.reduceLT, Nat.reduceLeDiff, Nat.reduceAdd, Nat.reduceSub, Nat.reduceMul, Nat.reduceEqDiff, Nat.reduceBneDiff, Nat.le_refl, Bool.false_eq_true, Int.reduceLT, Int.reduceLE, Int.reduceAdd, Int.reduceSub, Int.reduceMul, Int.reduceToNat, Int.reduceEq, Int.cast_ofNat_Int, Int.reduceNeg] <;> rfl) (by decide) (by simp) rfl rfl (by decide)) rfl ?_
    simp only [Av.put]
    refine rcall Tryz.call112 (hC := c_slices_Concat_int_int G [x.a, x.b, x.c] hle2) (kk := ?_); simp only [Av.put]
    refine rappI (es := (allLists (l.take i)).map fun n => [.int n]) (ys := ([x.a, x.b, x.c].flatten).map fun n => [.int n]) 0 ti22 ti3 (by rw [htk, List.length_append] at hle; rw [List.length_map, List.length_map]; simp only [bigN]; omega) (Nat.zero_le _) ?_ (hoc := oc_intl _)
    refine rn 1 ?_
    refine AL.nil ?_; simp only [thenQ, inQ]
    -- REGION 6
    (repeat refine AWp.seq ?_); refine AWp.region ?_
    refine rn 2 (k := ?_) (h := by simp (maxSteps := 3000000) only [hw, engA, engL, engT, reduceIte, reduceCtorEq, Nat.reduceLT, Nat.reduceLeDiff, Nat.reduceAdd, Nat.reduceSub, Nat.reduceMul, Nat.reduceEqDiff, Nat.reduceBneDiff, Nat.le_refl, Bool.false_eq_true, Int.reduceLT, Int.reduceLE, Int.reduceAdd, Int.reduceSub, Int.reduceMul, Int.reduceToNat, Int.reduceEq, Int.cast_ofNat_Int, Int.reduceNeg] <;> rfl)
    refine AL.nil ?_; simp only [thenQ, inQ]
    (try simp only [inQ, thenQ])
    exact ⟨i + 1, hlt, by omega, (by simp only [engA, engL, engT, reduceIte, reduceCtorEq, Nat.reduceLT, Nat.reduceLeDiff, Nat.reduceAdd, Nat.reduceSub, Nat.reduceMul, Nat.reduceEqDiff, Nat.reduceBneDiff, Nat.le_refl, Bool.false_eq_true, Int.reduceLT, Int.reduceLE, Int.reduceAdd, Int.reduceSub, Int.reduceMul, Int.reduceToNat, Int.reduceEq, Int.cast_ofNat_Int, Int.reduceNeg, eq_self, and_self]), by rw [htk, List.map_append]; rfl, rfl⟩
  · have hi : i = l.length := by simp at hb; omega
    subst hi
    refine AWp.exit ?_
    simp only [inQ, thenQ, reduceIte, Nat.reduceEqDiff]
    rw [List.take_length]
    -- REGION 7
    (repeat refine AWp.seq ?_); refine AWp.region ?_
    refine rn 2 ?_
    refine AL.nil ?_; simp only [thenQ, inQ]
    refine AWp.ret ?_; (try simp only [inQ, thenQ]); refine rret 1 ?_
    exact ⟨rfl, rfl⟩
end Go.Proofs
end

section
set_option linter.unusedSimpArgs false
set_option maxRecDepth 20000
set_option maxHeartbeats 1000000
namespace Go.Proofs
open Go Av Rp
theorem c_lists_Apart (G : Globs) (l : List Lists) (ht : (allLists l).length ≤ 1000000) : ACall Tryz.prog G 81 [.im (listss l)] [] (fun r L' => r = boolv (apart l) ∧ L' = []) := by
  refine ACall.enter Tryz.func81 rfl Tryz.ntmps81 (by rw [Tryz.results81]) (Nat.le_of_ble_eq_true rfl) rfl ?_
  -- REGION 0
  (repeat refine AWp.seq ?_); refine AWp.region ?_
  refine rn 1 ?_
  refine AL.nil ?_; simp only [thenQ, inQ]
  -- REGION 1
  (repeat refine AWp.seq ?_); refine AWp.region ?_
  refine rn 1 ?_
  refine rcallO Tryz.call101 (hC := c_lists_All G _ ht) (kk := ?_)
  simp only [Av.put, List.nil_append]
  refine rn 1 ?_
  refine AL.nil ?_; simp only [thenQ, inQ]
  -- REGION 2
  (repeat refine AWp.seq ?_); refine AWp.region ?_
  refine rn 3 (k := ?_) (h := by simp (maxSteps := 3000000) only [List.length_map, engA, engL, engT, reduceIte, reduceCtorEq, Nat.reduceLT, Nat.reduceLeDiff, Nat.reduceAdd, Nat.reduceSub, Nat.reduceMul, Nat.reduceEqDiff, Nat.reduceBneDiff, Nat.le_refl, Bool.false_eq_true, Int.reduceLT, Int.reduceLE, Int.reduceAdd, Int.reduceSub, Int.reduceMul, Int.reduceToNat, Int.reduceEq, Int.cast_ofNat_Int, Int.reduceNeg] <;> rfl)
  refine AL.nil ?_; simp only [thenQ, inQ]
  -- REGION 3
  (repeat refine AWp.seq ?_); refine AWp.region ?_
  refine rn 1 ?_
  refine rcallL Tryz.call102 (hK := Nat.zero_le _) (hF := Nat.zero_le _) (hnm := rfl) (hC := c_slices_Sort G [.app 1 (intRow (allLists l)) 3] 0 (allLists l) rfl rfl ht) (kk := ?_)
  simp only [Av.put, engA, engL, engT, reduceIte, reduceCtorEq, Nat.reduceLT, Nat.reduceLeDiff, Nat.reduceAdd, Nat.reduceSub, Nat.reduceMul, Nat.reduceEqDiff, Nat.reduceBneDiff, Nat.le_refl, Bool.false_eq_true, Int.reduceLT, Int.reduceLE, Int.reduceAdd, Int.reduceSub, Int.reduceMul, Int.reduceToNat, Int.reduceEq, Int.cast_ofNat_Int, Int.reduceNeg]
  refine AL.nil ?_; simp only [thenQ, inQ]
  -- REGION 4
  (repeat refine AWp.seq ?_); refine AWp.region ?_
  refine rn 1 ?_
  refine rcallL Tryz.call103 (hK := Nat.zero_le _) (hF := Nat.zero_le _) (hnm := rfl) (hC := c_slices_Compact G [.app 1 (intRow _) 3] 0 _ rfl rfl (by rw [(List.mergeSort_perm _ _).length_eq]; exact ht)) (kk := ?_)
  simp only [Av.put, engA, engL, engT, reduceIte, reduceCtorEq, Nat.reduceLT, Nat.reduceLeDiff, Nat.reduceAdd, Nat.reduceSub, Nat.reduceMul, Nat.reduceEqDiff, Nat.reduceBneDiff, Nat.le_refl, Bool.false_eq_true, Int.reduceLT, Int.reduceLE, Int.reduceAdd, Int.reduceSub, Int.reduceMul, Int.reduceToNat, Int.reduceEq, Int.cast_ofNat_Int, Int.reduceNeg]
  refine rn 3 (k := ?_) (h := by simp (maxSteps := 3000000) only [intRow, List.length_map, engA, engL, engT, reduceIte, reduceCtorEq, Nat.reduceLT, Nat.reduceLeDiff, Nat.reduceAdd, Nat.reduceSub, Nat.reduceMul, Nat.reduceEqDiff, Nat.reduceBneDiff, Nat.le_refl, Bool.false_eq_true, Int.reduceLT, Int.reduceLE, Int.reduceAdd, Int.reduceSub, Int.reduceMul, Int.reduceToNat, Int.reduceEq, Int.cast_ofNat_Int, Int.reduceNeg] <;> rfl)
  refine rn 1 ?_
  refine AL.nil ?_; simp only [thenQ, inQ]
  refine AWp.ret ?_; (try simp only [inQ, thenQ]); refine rret 0 ?_
  refine ⟨?_, rfl⟩
  simp only [pack, apart]
  rw [← apart_len]
  have e : ∀ a b : Nat, decide ((a : Int) = (b : Int)) = decide (a = b) := fun a b => by rw [decide_eq_decide]; omega
  rw [e]
end Go.Proofs
end
