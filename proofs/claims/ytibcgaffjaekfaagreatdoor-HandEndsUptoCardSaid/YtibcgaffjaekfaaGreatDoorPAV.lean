/- HandStays: for every heap, collector and thread of bulk at most 1048576 (each value and letter counted) the law function returns true and its arguments read as before; class.words is laid by the program's text (tied). -/
import Derived.Test.YtibcgaffjaekfaaGreatDoorCards
import Derived.Test.YtibcgaffjaekfaaGreatDoorTie
import Derived.WalkKit
import Derived.ProofKit
import Derived.OpenShut
import Derived.Test.YtibcgaffjaekfaaGreatDoorPAJ
import Derived.Test.YtibcgaffjaekfaaGreatDoorPAL
import Derived.Test.YtibcgaffjaekfaaGreatDoorPAM
import Derived.Test.YtibcgaffjaekfaaGreatDoorPAT
import Derived.Test.YtibcgaffjaekfaaGreatDoorPAU
set_option linter.all false
section
set_option linter.unusedSimpArgs false
set_option maxRecDepth 20000
set_option maxHeartbeats 1000000
namespace Go.Proofs
open Go Av Rp
theorem aw_vc : Vw (SV.agg [SV.im (IV.v (Value.int IntKind.i64 1)), SV.im (IV.v (Value.int IntKind.i64 1)), SV.im (IV.v (Value.bool false)), SV.im (IV.v (Value.slice none 0 0)), SV.im (IV.v (Value.bool false)), SV.im (IV.v (Value.int IntKind.i64 0)), SV.im (IV.v (Value.int IntKind.i64 0)), SV.im (IV.v (Value.int IntKind.i64 0)), SV.im (IV.v (Value.int IntKind.i64 0)), SV.im (IV.v (Value.bool false))]) (colV col1) := Vw.agg ⟨Vw.rfl', Vw.rfl', Vw.rfl', Vw_nil_ints, Vw.rfl', Vw.rfl', Vw.rfl', Vw.rfl', Vw.rfl', Vw.rfl', trivial⟩
theorem aw_vt : Vw (SV.agg [SV.im (IV.v (Value.bool true)), SV.im (IV.v (Value.int IntKind.i64 0)), SV.im (IV.v (Value.int IntKind.i64 0)), SV.im (IV.v (Value.int IntKind.i64 0)), SV.im (IV.v (Value.int IntKind.i64 0)), SV.im (IV.v (Value.slice none 0 0)), SV.im (IV.v (Value.slice none 0 0)), SV.im (IV.v (Value.slice none 0 0)), SV.im (IV.v (Value.int IntKind.i64 0)), SV.im (IV.v (Value.int IntKind.i64 0)), SV.im (IV.v (Value.int IntKind.i64 0)), SV.im (IV.v (Value.slice none 0 0)), SV.im (IV.v (Value.int IntKind.i64 0)), SV.im (IV.v (Value.int IntKind.i64 0)), SV.im (IV.v (Value.int IntKind.i64 0))]) (threadV thr1) := Vw.agg ⟨Vw.rfl', Vw.rfl', Vw.rfl', Vw.rfl', Vw.rfl', Vw_nil_ints, Vw_nil_ints, Vw_nil_ints, Vw.rfl', Vw.rfl', Vw.rfl', Vw_nil_ops, Vw.rfl', Vw.rfl', Vw.rfl', trivial⟩
theorem aw_Asked (G : Globs) : ACall Tryz.prog G 8 [SV.agg [SV.im (IV.v (Value.int IntKind.i64 1)), SV.im (IV.v (Value.int IntKind.i64 1)), SV.im (IV.v (Value.bool false)), SV.im (IV.v (Value.slice none 0 0)), SV.im (IV.v (Value.bool false)), SV.im (IV.v (Value.int IntKind.i64 0)), SV.im (IV.v (Value.int IntKind.i64 0)), SV.im (IV.v (Value.int IntKind.i64 0)), SV.im (IV.v (Value.int IntKind.i64 0)), SV.im (IV.v (Value.bool false))], SV.agg [SV.im (IV.v (Value.bool true)), SV.im (IV.v (Value.int IntKind.i64 0)), SV.im (IV.v (Value.int IntKind.i64 0)), SV.im (IV.v (Value.int IntKind.i64 0)), SV.im (IV.v (Value.int IntKind.i64 0)), SV.im (IV.v (Value.slice none 0 0)), SV.im (IV.v (Value.slice none 0 0)), SV.im (IV.v (Value.slice none 0 0)), SV.im (IV.v (Value.int IntKind.i64 0)), SV.im (IV.v (Value.int IntKind.i64 0)), SV.im (IV.v (Value.int IntKind.i64 0)), SV.im (IV.v (Value.slice none 0 0)), SV.im (IV.v (Value.int IntKind.i64 0)), SV.im (IV.v (Value.int IntKind.i64 0)), SV.im (IV.v (Value.int IntKind.i64 0))]] [] (fun r L' => r = boolv true ∧ L' = []) := by
  have h := c_hand_Asked G col1 thr1
  rw [asked1] at h
  exact ACall.argsL h rfl ⟨aw_vc, aw_vt, trivial⟩
theorem aw_Answer (G : Globs) (hG : List.lookup 0 G = some wordsI) : ACall Tryz.prog G 10 [heapV (heap0 1), SV.agg [SV.im (IV.v (Value.int IntKind.i64 1)), SV.im (IV.v (Value.int IntKind.i64 1)), SV.im (IV.v (Value.bool false)), SV.im (IV.v (Value.slice none 0 0)), SV.im (IV.v (Value.bool false)), SV.im (IV.v (Value.int IntKind.i64 0)), SV.im (IV.v (Value.int IntKind.i64 0)), SV.im (IV.v (Value.int IntKind.i64 0)), SV.im (IV.v (Value.int IntKind.i64 0)), SV.im (IV.v (Value.bool false))], SV.agg [SV.im (IV.v (Value.bool true)), SV.im (IV.v (Value.int IntKind.i64 0)), SV.im (IV.v (Value.int IntKind.i64 0)), SV.im (IV.v (Value.int IntKind.i64 0)), SV.im (IV.v (Value.int IntKind.i64 0)), SV.im (IV.v (Value.slice none 0 0)), SV.im (IV.v (Value.slice none 0 0)), SV.im (IV.v (Value.slice none 0 0)), SV.im (IV.v (Value.int IntKind.i64 0)), SV.im (IV.v (Value.int IntKind.i64 0)), SV.im (IV.v (Value.int IntKind.i64 0)), SV.im (IV.v (Value.slice none 0 0)), SV.im (IV.v (Value.int IntKind.i64 0)), SV.im (IV.v (Value.int IntKind.i64 0)), SV.im (IV.v (Value.int IntKind.i64 0))]] [] (fun r L' => r = .tup [heapV (heap0 1), colV col1, threadV { thr1 with epoch := 1, stage := 1 }] ∧ L' = []) := by
  have h := c_hand_Answer G (heap0 1) col1 thr1 hG (by decide) (by decide)
  rw [answer1] at h
  exact ACall.argsL h rfl ⟨Vw.rfl', aw_vc, aw_vt, trivial⟩
theorem aw_All1 (G : Globs) : ACall Tryz.prog G 9 [SV.agg [SV.im (IV.v (Value.int IntKind.i64 1)), SV.im (IV.v (Value.int IntKind.i64 1)), SV.im (IV.v (Value.bool false)), SV.im (IV.v (Value.slice none 0 0)), SV.im (IV.v (Value.bool false)), SV.im (IV.v (Value.int IntKind.i64 0)), SV.im (IV.v (Value.int IntKind.i64 0)), SV.im (IV.v (Value.int IntKind.i64 0)), SV.im (IV.v (Value.int IntKind.i64 0)), SV.im (IV.v (Value.bool false))], .im (threads [{ thr1 with epoch := 1, stage := 1 }])] [] (fun r L' => r = boolv true ∧ L' = []) := by
  have h := c_hand_All G col1 [{ thr1 with epoch := 1, stage := 1 }]
  rw [allAns1] at h
  exact ACall.argsL h rfl ⟨aw_vc, Vw.rfl', trivial⟩
theorem aw_All2 (G : Globs) : ACall Tryz.prog G 9 [SV.agg [SV.im (IV.v (Value.int IntKind.i64 1)), SV.im (IV.v (Value.int IntKind.i64 1)), SV.im (IV.v (Value.bool false)), SV.im (IV.v (Value.slice none 0 0)), SV.im (IV.v (Value.bool false)), SV.im (IV.v (Value.int IntKind.i64 0)), SV.im (IV.v (Value.int IntKind.i64 0)), SV.im (IV.v (Value.int IntKind.i64 0)), SV.im (IV.v (Value.int IntKind.i64 0)), SV.im (IV.v (Value.bool false))], .im (threads [{ thr1 with epoch := 1, stage := 1 }, thr1])] [] (fun r L' => r = boolv false ∧ L' = []) := by
  have h := c_hand_All G col1 [{ thr1 with epoch := 1, stage := 1 }, thr1]
  rw [allAns2] at h
  exact ACall.argsL h rfl ⟨aw_vc, Vw.rfl', trivial⟩
theorem c_ragpickerlaw15_awake (G : Globs) (hG : List.lookup 0 G = some wordsI) : ACall Tryz.prog G 6 [] [] (fun r L' => r = boolv true ∧ L' = []) := by
  refine ACall.enter Tryz.func6 rfl Tryz.ntmps6 (by rw [Tryz.results6]) (Nat.le_of_ble_eq_true rfl) rfl ?_
  -- REGION 0
  (repeat refine AWp.seq ?_); refine AWp.region ?_
  refine rn 1 ?_
  refine AL.nil ?_; simp only [thenQ, inQ]
  -- REGION 1
  (repeat refine AWp.seq ?_); refine AWp.region ?_
  refine rcall Tryz.call23 (hC := c_heap_New G 1 (by decide)) (kk := ?_); simp only [Av.put]
  refine rn 4 ?_
  refine rn 2 ?_
  refine AL.nil ?_; simp only [thenQ, inQ]
  -- REGION 2
  (repeat refine AWp.seq ?_); refine AWp.region ?_
  refine rn 3 ?_
  refine AL.nil ?_; simp only [thenQ, inQ]
  -- REGION 3
  (repeat refine AWp.seq ?_); refine AWp.region ?_
  refine rn 3 ?_
  refine AL.nil ?_; simp only [thenQ, inQ]
  -- REGION 4
  (repeat refine AWp.seq ?_); refine AWp.region ?_
  refine rn 2 ?_
  refine rcall Tryz.call8 (hC := aw_Asked G) (kk := ?_); simp only [Av.put]
  refine rn 1 ?_
  refine AL.nil ?_; simp only [thenQ, inQ]
  -- REGION 5
  (repeat refine AWp.seq ?_); refine AWp.region ?_
  refine rn 3 ?_
  refine rcall Tryz.call10 (hC := aw_Answer G hG) (kk := ?_); simp only [Av.put]
  refine rn 4 ?_
  refine rn 4 ?_
  refine rn 2 ?_
  refine AL.nil ?_; simp only [thenQ, inQ]
  -- REGION 6
  (repeat refine AWp.seq ?_); refine AWp.region ?_
  refine rn 4 ?_
  refine rn 4 ?_
  refine rn 4 ?_
  refine rn 4 ?_
  refine rn 2 ?_
  refine rbuildNG ti48 ti34 ?_; simp only [Av.put]
  refine rcallG Tryz.call9 (hC := aw_All1 G) (kk := ?_); simp only [Av.put]
  refine rn 4 ?_
  refine rn 1 ?_
  refine AL.viewK 50 rfl aw_vt ?_
  refine rbuildNG ti48 ti34 ?_; simp only [Av.put]
  refine rcallG Tryz.call9 (hC := aw_All2 G) (kk := ?_); simp only [Av.put]
  refine rn 3 ?_
  refine AL.nil ?_; simp only [thenQ, inQ]
  refine AWp.ret ?_; (try simp only [inQ, thenQ]); refine rret 0 ?_
  exact ⟨rfl, rfl⟩
end Go.Proofs
end

section
set_option linter.unusedSimpArgs false
set_option maxRecDepth 20000
set_option maxHeartbeats 1000000
namespace Go.Proofs
open Go Av Rp
theorem c_ragpickerlaw15_HandStays (G : Globs) (h : Heap) (c : Col) (t : Thread) (hG : List.lookup 0 G = some wordsI) : ACall Tryz.prog G 3 [heapV h, colV c, threadV t] [] (fun r L' => r = boolv true ∧ L' = []) := by
  refine ACall.enter Tryz.func3 rfl Tryz.ntmps3 (by rw [Tryz.results3]) (Nat.le_of_ble_eq_true rfl) rfl ?_
  -- REGION 0
  (repeat refine AWp.seq ?_); refine AWp.region ?_
  refine rn 4 ?_
  refine AL.nil ?_; simp only [thenQ, inQ]
  -- REGION 1
  (repeat refine AWp.seq ?_); refine AWp.region ?_
  refine rcall Tryz.call6 (hC := c_ragpickerlaw15_awake G (by first | assumption | omega | simp_all)) (kk := ?_); simp only [Av.put]
  refine rn 1 ?_
  refine AL.nil ?_; simp only [thenQ, inQ]
  -- REGION 2
  (repeat refine AWp.seq ?_); refine AWp.region ?_
  refine rn 3 ?_
  refine rcall Tryz.call7 (hC := c_ragpickerlaw15_few G _ _ _) (kk := ?_); simp only [Av.put]
  refine rn 1 ?_
  refine AL.nil ?_; simp only [thenQ, inQ]
  -- REGION 3
  (repeat refine AWp.seq ?_); refine AWp.region ?_
  refine rn 3 ?_
  refine rsp 20 (fun hb => ?_) (fun hb => ?_)
  · skip
    refine rn 3 ?_
    refine AL.nil ?_; simp only [thenQ, inQ]
    (repeat refine AWp.seq ?_)
    refine rc (t := true) (fun hb => ?_) (fun hb => by cases hb)
    -- REGION 4
    (repeat refine AWp.seq ?_); refine AWp.region ?_
    refine rn 2 ?_
    refine AL.nil ?_; simp only [thenQ, inQ]
    refine AWp.ret ?_; (try simp only [inQ, thenQ]); refine rret 0 ?_
    refine ⟨?_, rfl⟩; simp only [pack]; first | rfl | exact (st_1 (by assumption) (by assumption)).elim | exact (st_2 (by assumption) (by assumption)).elim | exact (st_3 (by assumption) (by assumption)).elim | exact (st_4 (by assumption) (by assumption)).elim | (have h0 := st_0 (h := h) (c := c) (t := t) (by assumption); simp_all; done) | done
  · skip
    refine rn 3 ?_
    refine AL.nil ?_; simp only [thenQ, inQ]
    (repeat refine AWp.seq ?_)
    refine rc (fun hb => ?_) (fun hb => ?_)
    · skip
      -- REGION 4
      (repeat refine AWp.seq ?_); refine AWp.region ?_
      refine rn 2 ?_
      refine AL.nil ?_; simp only [thenQ, inQ]
      refine AWp.ret ?_; (try simp only [inQ, thenQ]); refine rret 0 ?_
      refine ⟨?_, rfl⟩; simp only [pack]; first | rfl | exact (st_1 (by assumption) (by assumption)).elim | exact (st_2 (by assumption) (by assumption)).elim | exact (st_3 (by assumption) (by assumption)).elim | exact (st_4 (by assumption) (by assumption)).elim | (have h0 := st_0 (h := h) (c := c) (t := t) (by assumption); simp_all; done) | done
    · skip
      (repeat refine AWp.seq ?_)
      refine AWp.skip ?_
      (try simp only [inQ, thenQ])
      have hfew := few_F (h := h) (c := c) (t := t) (by simpa using hb)
      (repeat refine AWp.seq ?_); refine AWp.region ?_
      refine rn 2 ?_
      refine rcall Tryz.call8 (hC := c_hand_Asked G _ _) (kk := ?_); simp only [Av.put]
      refine rn 1 ?_
      refine AL.nil ?_; simp only [thenQ, inQ]
      -- REGION 6
      (repeat refine AWp.seq ?_); refine AWp.region ?_
      refine rn 2 ?_
      refine rsp 29 (fun ha => ?_) (fun ha => ?_)
      · skip
        refine rn 4 ?_
        refine rsp 33 (fun hb => ?_) (fun hb => ?_)
        · skip
          refine rn 4 ?_
          refine rn 4 ?_
          refine rn 4 ?_
          refine rn 4 ?_
          refine AL.nil ?_; simp only [thenQ, inQ]
          (repeat refine AWp.seq ?_)
          refine rc (t := true) (fun hb => ?_) (fun hb => by cases hb)
          -- REGION 7
          (repeat refine AWp.seq ?_); refine AWp.region ?_
          refine rn 1 ?_
          refine AL.nil ?_; simp only [thenQ, inQ]
          refine AWp.ret ?_; (try simp only [inQ, thenQ]); refine rret 0 ?_
          refine ⟨?_, rfl⟩; simp only [pack]; first | rfl | exact (st_1 (by assumption) (by assumption)).elim | exact (st_2 (by assumption) (by assumption)).elim | exact (st_3 (by assumption) (by assumption)).elim | exact (st_4 (by assumption) (by assumption)).elim | (have h0 := st_0 (h := h) (c := c) (t := t) (by assumption); simp_all; done) | done
        · skip
          refine rn 4 ?_
          refine rn 1 ?_
          refine rsp 38 (fun hb => ?_) (fun hb => ?_)
          · skip
            refine rn 4 ?_
            refine rn 4 ?_
            refine rn 3 ?_
            refine AL.nil ?_; simp only [thenQ, inQ]
            (repeat refine AWp.seq ?_)
            refine rc (t := true) (fun hb => ?_) (fun hb => by cases hb)
            -- REGION 7
            (repeat refine AWp.seq ?_); refine AWp.region ?_
            refine rn 1 ?_
            refine AL.nil ?_; simp only [thenQ, inQ]
            refine AWp.ret ?_; (try simp only [inQ, thenQ]); refine rret 0 ?_
            refine ⟨?_, rfl⟩; simp only [pack]; first | rfl | exact (st_1 (by assumption) (by assumption)).elim | exact (st_2 (by assumption) (by assumption)).elim | exact (st_3 (by assumption) (by assumption)).elim | exact (st_4 (by assumption) (by assumption)).elim | (have h0 := st_0 (h := h) (c := c) (t := t) (by assumption); simp_all; done) | done
          · skip
            refine rn 4 ?_
            refine rn 1 ?_
            refine rsp 43 (fun hb => ?_) (fun hb => ?_)
            · skip
              refine rn 4 ?_
              refine rn 2 ?_
              refine AL.nil ?_; simp only [thenQ, inQ]
              (repeat refine AWp.seq ?_)
              refine rc (t := true) (fun hb => ?_) (fun hb => by cases hb)
              -- REGION 7
              (repeat refine AWp.seq ?_); refine AWp.region ?_
              refine rn 1 ?_
              refine AL.nil ?_; simp only [thenQ, inQ]
              refine AWp.ret ?_; (try simp only [inQ, thenQ]); refine rret 0 ?_
              refine ⟨?_, rfl⟩; simp only [pack]; first | rfl | exact (st_1 (by assumption) (by assumption)).elim | exact (st_2 (by assumption) (by assumption)).elim | exact (st_3 (by assumption) (by assumption)).elim | exact (st_4 (by assumption) (by assumption)).elim | (have h0 := st_0 (h := h) (c := c) (t := t) (by assumption); simp_all; done) | done
            · skip
              refine rn 2 ?_
              -- SPECIAL buildSlice T48 1 [0:t45] guard
              refine rbuildNG ti48 ti34 ?_; simp only [Av.put]
              refine rcallG Tryz.call9 (hC := c_hand_All G c [t]) (kk := ?_); simp only [Av.put]
              refine rn 2 ?_
              refine AL.nil ?_; simp only [thenQ, inQ]
              (repeat refine AWp.seq ?_)
              refine rc (fun hb => ?_) (fun hb => ?_)
              · skip
                -- REGION 7
                (repeat refine AWp.seq ?_); refine AWp.region ?_
                refine rn 1 ?_
                refine AL.nil ?_; simp only [thenQ, inQ]
                refine AWp.ret ?_; (try simp only [inQ, thenQ]); refine rret 0 ?_
                refine ⟨?_, rfl⟩; simp only [pack]; first | rfl | exact (st_1 (by assumption) (by assumption)).elim | exact (st_2 (by assumption) (by assumption)).elim | exact (st_3 (by assumption) (by assumption)).elim | exact (st_4 (by assumption) (by assumption)).elim | (have h0 := st_0 (h := h) (c := c) (t := t) (by assumption); simp_all; done) | done
              · skip
                (repeat refine AWp.seq ?_)
                refine AWp.skip ?_
                (try simp only [inQ, thenQ])
                -- REGION 8
                (repeat refine AWp.seq ?_); refine AWp.region ?_
                refine rn 3 ?_
                refine rcall Tryz.call10 (hC := c_hand_Answer G h c t hG hfew.1 hfew.2) (kk := ?_); simp only [Av.put]
                refine rn 4 ?_
                refine rn 4 ?_
                refine rn 2 ?_
                refine AL.nil ?_; simp only [thenQ, inQ]
                -- REGION 9
                (repeat refine AWp.seq ?_); refine AWp.region ?_
                refine rn 4 (k := ?_) (h := by simp (maxSteps := 3000000) only [ha, engA, engL, engT, reduceIte, reduceCtorEq, Nat.reduceLT, Nat.reduceLeDiff, Nat.reduceAdd, Nat.reduceSub, Nat.reduceMul, Nat.reduceEqDiff, Nat.reduceBneDiff, Nat.le_refl, Bool.false_eq_true, Int.reduceLT, Int.reduceLE, Int.reduceAdd, Int.reduceSub, Int.reduceMul, Int.reduceToNat, Int.reduceEq, Int.cast_ofNat_Int, Int.reduceNeg] <;> rfl)
                refine rn 4 (k := ?_) (h := by simp (maxSteps := 3000000) only [ha, engA, engL, engT, reduceIte, reduceCtorEq, Nat.reduceLT, Nat.reduceLeDiff, Nat.reduceAdd, Nat.reduceSub, Nat.reduceMul, Nat.reduceEqDiff, Nat.reduceBneDiff, Nat.le_refl, Bool.false_eq_true, Int.reduceLT, Int.reduceLE, Int.reduceAdd, Int.reduceSub, Int.reduceMul, Int.reduceToNat, Int.reduceEq, Int.cast_ofNat_Int, Int.reduceNeg] <;> rfl)
                refine rn 4 (k := ?_) (h := by simp (maxSteps := 3000000) only [ha, engA, engL, engT, reduceIte, reduceCtorEq, Nat.reduceLT, Nat.reduceLeDiff, Nat.reduceAdd, Nat.reduceSub, Nat.reduceMul, Nat.reduceEqDiff, Nat.reduceBneDiff, Nat.le_refl, Bool.false_eq_true, Int.reduceLT, Int.reduceLE, Int.reduceAdd, Int.reduceSub, Int.reduceMul, Int.reduceToNat, Int.reduceEq, Int.cast_ofNat_Int, Int.reduceNeg] <;> rfl)
                refine rn 4 (k := ?_) (h := by simp (maxSteps := 3000000) only [ha, engA, engL, engT, reduceIte, reduceCtorEq, Nat.reduceLT, Nat.reduceLeDiff, Nat.reduceAdd, Nat.reduceSub, Nat.reduceMul, Nat.reduceEqDiff, Nat.reduceBneDiff, Nat.le_refl, Bool.false_eq_true, Int.reduceLT, Int.reduceLE, Int.reduceAdd, Int.reduceSub, Int.reduceMul, Int.reduceToNat, Int.reduceEq, Int.cast_ofNat_Int, Int.reduceNeg] <;> rfl)
                refine rn 1 (k := ?_) (h := by simp (maxSteps := 3000000) only [ha, engA, engL, engT, reduceIte, reduceCtorEq, Nat.reduceLT, Nat.reduceLeDiff, Nat.reduceAdd, Nat.reduceSub, Nat.reduceMul, Nat.reduceEqDiff, Nat.reduceBneDiff, Nat.le_refl, Bool.false_eq_true, Int.reduceLT, Int.reduceLE, Int.reduceAdd, Int.reduceSub, Int.reduceMul, Int.reduceToNat, Int.reduceEq, Int.cast_ofNat_Int, Int.reduceNeg] <;> rfl)
                refine AL.nil ?_; simp only [thenQ, inQ]
                refine AWp.ret ?_; (try simp only [inQ, thenQ]); refine rret 0 ?_
                refine ⟨?_, rfl⟩; simp only [pack]; first | rfl | exact (st_1 (by assumption) (by assumption)).elim | exact (st_2 (by assumption) (by assumption)).elim | exact (st_3 (by assumption) (by assumption)).elim | exact (st_4 (by assumption) (by assumption)).elim | (have h0 := st_0 (h := h) (c := c) (t := t) (by assumption); simp_all; done) | done
      · skip
        refine rn 4 (k := ?_) (h := by simp (maxSteps := 3000000) only [ha, engA, engL, engT, reduceIte, reduceCtorEq, Nat.reduceLT, Nat.reduceLeDiff, Nat.reduceAdd, Nat.reduceSub, Nat.reduceMul, Nat.reduceEqDiff, Nat.reduceBneDiff, Nat.le_refl, Bool.false_eq_true, Int.reduceLT, Int.reduceLE, Int.reduceAdd, Int.reduceSub, Int.reduceMul, Int.reduceToNat, Int.reduceEq, Int.cast_ofNat_Int, Int.reduceNeg] <;> rfl)
        refine rn 4 (k := ?_) (h := by simp (maxSteps := 3000000) only [ha, engA, engL, engT, reduceIte, reduceCtorEq, Nat.reduceLT, Nat.reduceLeDiff, Nat.reduceAdd, Nat.reduceSub, Nat.reduceMul, Nat.reduceEqDiff, Nat.reduceBneDiff, Nat.le_refl, Bool.false_eq_true, Int.reduceLT, Int.reduceLE, Int.reduceAdd, Int.reduceSub, Int.reduceMul, Int.reduceToNat, Int.reduceEq, Int.cast_ofNat_Int, Int.reduceNeg] <;> rfl)
        refine rn 4 (k := ?_) (h := by simp (maxSteps := 3000000) only [ha, engA, engL, engT, reduceIte, reduceCtorEq, Nat.reduceLT, Nat.reduceLeDiff, Nat.reduceAdd, Nat.reduceSub, Nat.reduceMul, Nat.reduceEqDiff, Nat.reduceBneDiff, Nat.le_refl, Bool.false_eq_true, Int.reduceLT, Int.reduceLE, Int.reduceAdd, Int.reduceSub, Int.reduceMul, Int.reduceToNat, Int.reduceEq, Int.cast_ofNat_Int, Int.reduceNeg] <;> rfl)
        refine rn 4 (k := ?_) (h := by simp (maxSteps := 3000000) only [ha, engA, engL, engT, reduceIte, reduceCtorEq, Nat.reduceLT, Nat.reduceLeDiff, Nat.reduceAdd, Nat.reduceSub, Nat.reduceMul, Nat.reduceEqDiff, Nat.reduceBneDiff, Nat.le_refl, Bool.false_eq_true, Int.reduceLT, Int.reduceLE, Int.reduceAdd, Int.reduceSub, Int.reduceMul, Int.reduceToNat, Int.reduceEq, Int.cast_ofNat_Int, Int.reduceNeg] <;> rfl)
        refine rn 4 (k := ?_) (h := by simp (maxSteps := 3000000) only [ha, engA, engL, engT, reduceIte, reduceCtorEq, Nat.reduceLT, Nat.reduceLeDiff, Nat.reduceAdd, Nat.reduceSub, Nat.reduceMul, Nat.reduceEqDiff, Nat.reduceBneDiff, Nat.le_refl, Bool.false_eq_true, Int.reduceLT, Int.reduceLE, Int.reduceAdd, Int.reduceSub, Int.reduceMul, Int.reduceToNat, Int.reduceEq, Int.cast_ofNat_Int, Int.reduceNeg] <;> rfl)
        refine AL.nil ?_; simp only [thenQ, inQ]
        (repeat refine AWp.seq ?_)
        refine rc (t := false) (fun hb => by cases hb) (fun hb => ?_)
        (repeat refine AWp.seq ?_)
        refine AWp.skip ?_
        (try simp only [inQ, thenQ])
        -- REGION 8
        (repeat refine AWp.seq ?_); refine AWp.region ?_
        refine rn 3 ?_
        refine rcall Tryz.call10 (hC := c_hand_Answer G h c t hG hfew.1 hfew.2) (kk := ?_); simp only [Av.put]
        refine rn 4 ?_
        refine rn 4 ?_
        refine rn 2 ?_
        refine AL.nil ?_; simp only [thenQ, inQ]
        -- REGION 9
        (repeat refine AWp.seq ?_); refine AWp.region ?_
        refine rn 4 (k := ?_) (h := by simp (maxSteps := 3000000) only [ha, engA, engL, engT, reduceIte, reduceCtorEq, Nat.reduceLT, Nat.reduceLeDiff, Nat.reduceAdd, Nat.reduceSub, Nat.reduceMul, Nat.reduceEqDiff, Nat.reduceBneDiff, Nat.le_refl, Bool.false_eq_true, Int.reduceLT, Int.reduceLE, Int.reduceAdd, Int.reduceSub, Int.reduceMul, Int.reduceToNat, Int.reduceEq, Int.cast_ofNat_Int, Int.reduceNeg] <;> rfl)
        refine rcallG Tryz.call11 (hC := c_ragpickerref07_Same G _ _) (kk := ?_); simp only [Av.put]
        refine rn 1 (k := ?_) (h := by simp (maxSteps := 3000000) only [ha, engA, engL, engT, reduceIte, reduceCtorEq, Nat.reduceLT, Nat.reduceLeDiff, Nat.reduceAdd, Nat.reduceSub, Nat.reduceMul, Nat.reduceEqDiff, Nat.reduceBneDiff, Nat.le_refl, Bool.false_eq_true, Int.reduceLT, Int.reduceLE, Int.reduceAdd, Int.reduceSub, Int.reduceMul, Int.reduceToNat, Int.reduceEq, Int.cast_ofNat_Int, Int.reduceNeg] <;> rfl)
        refine rsp 63 (fun hb => ?_) (fun hb => ?_)
        · skip
          refine rn 2 (k := ?_) (h := by simp (maxSteps := 3000000) only [ha, engA, engL, engT, reduceIte, reduceCtorEq, Nat.reduceLT, Nat.reduceLeDiff, Nat.reduceAdd, Nat.reduceSub, Nat.reduceMul, Nat.reduceEqDiff, Nat.reduceBneDiff, Nat.le_refl, Bool.false_eq_true, Int.reduceLT, Int.reduceLE, Int.reduceAdd, Int.reduceSub, Int.reduceMul, Int.reduceToNat, Int.reduceEq, Int.cast_ofNat_Int, Int.reduceNeg] <;> rfl)
          refine rcallG Tryz.call12 (hC := c_ragpickerref11_Same G _ _) (kk := ?_); simp only [Av.put]
          refine rn 2 (k := ?_) (h := by simp (maxSteps := 3000000) only [ha, engA, engL, engT, reduceIte, reduceCtorEq, Nat.reduceLT, Nat.reduceLeDiff, Nat.reduceAdd, Nat.reduceSub, Nat.reduceMul, Nat.reduceEqDiff, Nat.reduceBneDiff, Nat.le_refl, Bool.false_eq_true, Int.reduceLT, Int.reduceLE, Int.reduceAdd, Int.reduceSub, Int.reduceMul, Int.reduceToNat, Int.reduceEq, Int.cast_ofNat_Int, Int.reduceNeg] <;> rfl)
          refine rsp 68 (fun hb => ?_) (fun hb => ?_)
          · skip
            refine rn 2 (k := ?_) (h := by simp (maxSteps := 3000000) only [ha, engA, engL, engT, reduceIte, reduceCtorEq, Nat.reduceLT, Nat.reduceLeDiff, Nat.reduceAdd, Nat.reduceSub, Nat.reduceMul, Nat.reduceEqDiff, Nat.reduceBneDiff, Nat.le_refl, Bool.false_eq_true, Int.reduceLT, Int.reduceLE, Int.reduceAdd, Int.reduceSub, Int.reduceMul, Int.reduceToNat, Int.reduceEq, Int.cast_ofNat_Int, Int.reduceNeg] <;> rfl)
            refine rcallG Tryz.call13 (hC := c_ragpickerref12_Same G _ _) (kk := ?_); simp only [Av.put]
            refine rn 3 (k := ?_) (h := by simp (maxSteps := 3000000) only [ha, engA, engL, engT, reduceIte, reduceCtorEq, Nat.reduceLT, Nat.reduceLeDiff, Nat.reduceAdd, Nat.reduceSub, Nat.reduceMul, Nat.reduceEqDiff, Nat.reduceBneDiff, Nat.le_refl, Bool.false_eq_true, Int.reduceLT, Int.reduceLE, Int.reduceAdd, Int.reduceSub, Int.reduceMul, Int.reduceToNat, Int.reduceEq, Int.cast_ofNat_Int, Int.reduceNeg] <;> rfl)
            refine AL.nil ?_; simp only [thenQ, inQ]
            refine AWp.ret ?_; (try simp only [inQ, thenQ]); refine rret 0 ?_
            refine ⟨?_, rfl⟩; simp only [pack]; first | rfl | exact (st_1 (by assumption) (by assumption)).elim | exact (st_2 (by assumption) (by assumption)).elim | exact (st_3 (by assumption) (by assumption)).elim | exact (st_4 (by assumption) (by assumption)).elim | (have h0 := st_0 (h := h) (c := c) (t := t) (by assumption); simp_all; done) | done
          · skip
            refine rn 4 (k := ?_) (h := by simp (maxSteps := 3000000) only [ha, engA, engL, engT, reduceIte, reduceCtorEq, Nat.reduceLT, Nat.reduceLeDiff, Nat.reduceAdd, Nat.reduceSub, Nat.reduceMul, Nat.reduceEqDiff, Nat.reduceBneDiff, Nat.le_refl, Bool.false_eq_true, Int.reduceLT, Int.reduceLE, Int.reduceAdd, Int.reduceSub, Int.reduceMul, Int.reduceToNat, Int.reduceEq, Int.cast_ofNat_Int, Int.reduceNeg] <;> rfl)
            refine rn 2 (k := ?_) (h := by simp (maxSteps := 3000000) only [ha, engA, engL, engT, reduceIte, reduceCtorEq, Nat.reduceLT, Nat.reduceLeDiff, Nat.reduceAdd, Nat.reduceSub, Nat.reduceMul, Nat.reduceEqDiff, Nat.reduceBneDiff, Nat.le_refl, Bool.false_eq_true, Int.reduceLT, Int.reduceLE, Int.reduceAdd, Int.reduceSub, Int.reduceMul, Int.reduceToNat, Int.reduceEq, Int.cast_ofNat_Int, Int.reduceNeg] <;> rfl)
            refine AL.nil ?_; simp only [thenQ, inQ]
            refine AWp.ret ?_; (try simp only [inQ, thenQ]); refine rret 0 ?_
            refine ⟨?_, rfl⟩; simp only [pack]; first | rfl | exact (st_1 (by assumption) (by assumption)).elim | exact (st_2 (by assumption) (by assumption)).elim | exact (st_3 (by assumption) (by assumption)).elim | exact (st_4 (by assumption) (by assumption)).elim | (have h0 := st_0 (h := h) (c := c) (t := t) (by assumption); simp_all; done) | done
        · skip
          refine rn 4 (k := ?_) (h := by simp (maxSteps := 3000000) only [ha, engA, engL, engT, reduceIte, reduceCtorEq, Nat.reduceLT, Nat.reduceLeDiff, Nat.reduceAdd, Nat.reduceSub, Nat.reduceMul, Nat.reduceEqDiff, Nat.reduceBneDiff, Nat.le_refl, Bool.false_eq_true, Int.reduceLT, Int.reduceLE, Int.reduceAdd, Int.reduceSub, Int.reduceMul, Int.reduceToNat, Int.reduceEq, Int.cast_ofNat_Int, Int.reduceNeg] <;> rfl)
          refine rn 4 (k := ?_) (h := by simp (maxSteps := 3000000) only [ha, engA, engL, engT, reduceIte, reduceCtorEq, Nat.reduceLT, Nat.reduceLeDiff, Nat.reduceAdd, Nat.reduceSub, Nat.reduceMul, Nat.reduceEqDiff, Nat.reduceBneDiff, Nat.le_refl, Bool.false_eq_true, Int.reduceLT, Int.reduceLE, Int.reduceAdd, Int.reduceSub, Int.reduceMul, Int.reduceToNat, Int.reduceEq, Int.cast_ofNat_Int, Int.reduceNeg] <;> rfl)
          refine rn 3 (k := ?_) (h := by simp (maxSteps := 3000000) only [ha, engA, engL, engT, reduceIte, reduceCtorEq, Nat.reduceLT, Nat.reduceLeDiff, Nat.reduceAdd, Nat.reduceSub, Nat.reduceMul, Nat.reduceEqDiff, Nat.reduceBneDiff, Nat.le_refl, Bool.false_eq_true, Int.reduceLT, Int.reduceLE, Int.reduceAdd, Int.reduceSub, Int.reduceMul, Int.reduceToNat, Int.reduceEq, Int.cast_ofNat_Int, Int.reduceNeg] <;> rfl)
          refine AL.nil ?_; simp only [thenQ, inQ]
          refine AWp.ret ?_; (try simp only [inQ, thenQ]); refine rret 0 ?_
          refine ⟨?_, rfl⟩; simp only [pack]; first | rfl | exact (st_1 (by assumption) (by assumption)).elim | exact (st_2 (by assumption) (by assumption)).elim | exact (st_3 (by assumption) (by assumption)).elim | exact (st_4 (by assumption) (by assumption)).elim | (have h0 := st_0 (h := h) (c := c) (t := t) (by assumption); simp_all; done) | done

end Go.Proofs
end

section
/-
  HandStays: for every heap, collector and thread of bulk at most 1048576 the law's function returns true and leaves its arguments as they were.
-/
set_option linter.all false
namespace Go.Proofs.YtibcgaffjaekfaaGreatDoor.handStays
open Go Av Rp Go.ChangeShapes Go.WideShapes Go.RowKit Go.Proofs

theorem own : ownKnob Tryz.prog.godebug = none := by kernel_rfl
/-- A WORLD FOR THE WITNESS -/
noncomputable def laidWorld (os : Os) : World :=
  { World.holding Tryz.prog os ⟨#[], #[], []⟩ with heap := (World.holding Tryz.prog os ⟨#[], #[], []⟩).heap.modify 0 fun
      | .cells _ t frozen => .cells #[.int .i64 2, .int .i64 4, .int .i64 8] t frozen
      | o => o }
def z : Value := .int .i64 0
def nl : Value := .slice none 0 0
def a0 : Value := .agg #[nl, nl, nl, nl, nl, nl]
def a1 : Value := .agg #[z, z, .bool false, nl, .bool false, z, z, z, z, .bool false]
def a2 : Value := .agg #[.bool false, z, z, z, z, nl, nl, nl, z, z, z, nl, z, z, z]
theorem laid_met (os : Os) : laidMet Tryz.prog Rows.handStaysUptoRow.laid ((laidWorld os).forCall (fun _ _ => 0) ⟨#[], #[a0, a1, a2], []⟩).memory :=
  laidMet_of_run' 8 (by kernel_rfl) (by kernel_rfl)
def li {H : Type} : DataW H := .lit (.int .i64 0)
def lb {H : Type} : DataW H := .lit (.bool false)
theorem reads (os : Os) {H : Type} (enc : TypeId × Value → H) : ∃ places, DataW.whole enc Tryz.prog ((laidWorld os).forCall (fun _ _ => 0) ⟨#[], #[a0, a1, a2], []⟩).memory Tryz.f3.params.toList Rows.handStaysSpec.vars false #[a0, a1, a2].toList 8 =
    some ([.agg [.nil, .nil, .agg [.nil, .nil, .nil], .nil], .agg [li, li, lb, .nil, lb, li, li, li, li, lb], .agg [lb, .agg [li, li, li, li], .agg [.nil, .nil, .nil], li, li, li, .nil, li, li, li]], [], places) :=
  ⟨[], by kernel_rfl⟩

set_option maxRecDepth 100000 in
theorem liftedUpto (os : Os) (started : os.Started) (H : Type) (enc : TypeId × Value → H) (F : Stop.Interp) :
    ReturnsInHanded {} Tryz.checked os 3 .any ((Rows.OpenSpec.upto Rows.handStaysSpec).preRow enc Tryz.prog Tryz.f3 Rows.handStaysUptoRow.domain false Rows.handStaysUptoRow.laid) (((Rows.OpenSpec.upto Rows.handStaysSpec).at F).post enc Tryz.prog Tryz.f3 false true false false) := by
  obtain ⟨places, hx⟩ := reads os enc
  refine returnsInHanded_of_row (C := Tryz.checked) (s := Rows.OpenSpec.upto Rows.handStaysSpec) own started (by kernel_rfl) Tryz.func3
    (witness_row_at (enc := enc) (C := Tryz.checked) false (laidWorld os) #[a0, a1, a2] rfl (by kernel_rfl) (by kernel_rfl) (by kernel_rfl)
      (OpenSpec.preRow_of_cond 8 hx (by kernel_rfl) (fun k hk => by cases hk; kernel_rfl) (by kernel_rfl) (laid_met os))) ?_
  intro W base args ds gs before hval hW _ hcond _ hL _ _
  exact row3 (s := Rows.handStaysSpec) Tryz.params3 rfl (fun _ _ _ => rfl) rfl hval hW (hcond _ rfl) hL fun h c t _ _ _ => c_ragpickerlaw15_HandStays _ h c t rfl
end Go.Proofs.YtibcgaffjaekfaaGreatDoor.handStays
end

section
/-
  HandStays: the row's statement and the card.
-/
set_option linter.all false
namespace Go.Proofs.YtibcgaffjaekfaaGreatDoor.handStays
open Go Av Rp Go.ChangeShapes Go.WideShapes Go.RowKit Go.Proofs
theorem saidUpto : Rows.HandStaysUptoSaid :=
  OpenClaim.holds_of_cond 3 Tryz.f3 rfl rfl rfl rfl rfl rfl rfl ⟨rfl, rfl, rfl, rfl, rfl⟩ rfl rfl rfl rfl rfl (by kernel_rfl) Tryz.func3 (by kernel_rfl)
    (of_decide_eq_true (by kernel_rfl)) (by unfold Func.isWrapper; first | (rw [if_pos (by decide +kernel)]; kernel_rfl) | (rw [if_neg (by decide +kernel)]; exact ⟨rfl, rfl⟩))
    (fun os started H enc _ F => by rw [OpenClaim.pre_eq_preRow]; exact liftedUpto os started H enc F)
theorem plain (f : FuncId) (fn : Func) (hf : Tryz.pinned.checked.prog.funcNamed "ragpicker/ragpickerlaw15.HandStays" = some f) (hfn : Tryz.pinned.checked.prog.funcs[f]? = some fn) :
    false = Tryz.pinned.checked.prog.looks [] ∧ ∀ (j : Nat) t, fn.params[j]? = some t → Tryz.pinned.checked.prog.wantsStandIn t = false := by
  obtain rfl : f = 3 := Option.some.inj ((show Tryz.prog.funcNamed "ragpicker/ragpickerlaw15.HandStays" = some 3 by kernel_rfl).symm.trans hf) |>.symm
  obtain rfl : fn = Tryz.f3 := (Option.some.inj (Tryz.func3.symm.trans hfn)).symm
  refine ⟨by kernel_rfl, fun j t ht => ?_⟩
  rw [Tryz.params3] at ht
  match j, ht with
  | 0, ht => cases ht; exact (show Tryz.prog.wantsStandIn 28 = false by kernel_rfl)
  | 1, ht => cases ht; exact (show Tryz.prog.wantsStandIn 30 = false by kernel_rfl)
  | 2, ht => cases ht; exact (show Tryz.prog.wantsStandIn 34 = false by kernel_rfl)
  | k + 3, ht => simp at ht
end Go.Proofs.YtibcgaffjaekfaaGreatDoor.handStays
namespace Go.Proofs.YtibcgaffjaekfaaGreatDoor
theorem handStays_card : Rows.HandStaysUptoCardSaid :=
  Claim7.holds_tied_plain_at .later [] _ _ _ _ handStays.saidUpto (fun _ h => by cases h) (by kernel_rfl) (fun _ h => by cases h) handStaysUpto_row_tie rfl ⟨rfl, rfl⟩ (by kernel_rfl) rfl handStays.plain (by kernel_rfl)
#print axioms handStays_card
end Go.Proofs.YtibcgaffjaekfaaGreatDoor
end
