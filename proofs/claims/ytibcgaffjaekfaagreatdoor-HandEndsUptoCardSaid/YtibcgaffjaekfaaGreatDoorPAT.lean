/- Part 20 of 22 of a proof: own engine, contracts and facts. -/
import Derived.Test.YtibcgaffjaekfaaGreatDoorPAI
import Derived.Test.YtibcgaffjaekfaaGreatDoorPAJ
import Derived.Test.YtibcgaffjaekfaaGreatDoorPAS
set_option linter.all false
section
set_option linter.unusedSimpArgs false
namespace Go.Proofs
open Go Av Rp
theorem c_regs_in (G : Globs) (n lo hi : Int) : ACall Tryz.prog G 35 [intv n, intv lo, intv hi] [] (fun r L' => r = boolv (inL n lo hi) ∧ L' = []) := by
  refine ACall.enter Tryz.func35 rfl Tryz.ntmps35 (by rw [Tryz.results35]) (Nat.le_of_ble_eq_true rfl) rfl ?_
  (repeat refine AWp.seq ?_); refine AWp.region ?_
  refine rn 1 ?_
  refine AL.nil ?_; simp only [thenQ, inQ]
  (repeat refine AWp.seq ?_); refine AWp.region ?_
  refine rn 4 ?_
  refine AL.split 10 (by simp only [engA, engL, engT, reduceIte, reduceCtorEq, Nat.reduceLT, Nat.reduceLeDiff, Nat.reduceAdd, Nat.reduceSub, Nat.reduceMul, Nat.reduceEqDiff, Nat.reduceBneDiff, Nat.le_refl, Bool.false_eq_true, Int.reduceLT, Int.reduceLE, Int.reduceAdd, Int.reduceSub, Int.reduceMul, Int.reduceToNat, Int.reduceEq, Int.cast_ofNat_Int, Int.reduceNeg]; rfl) (fun hb => ?_) (fun hb => ?_)
  · skip
    refine rn 5 ?_
    refine AL.nil ?_; simp only [thenQ, inQ]
    refine AWp.ret ?_; (try simp only [inQ, thenQ]); refine rret 0 ?_
    first | exact ⟨rfl, rfl⟩ | (refine ⟨?_, rfl⟩; (try simp only [pack, engA, engL]); (try simp_all [inL]) <;> omega)
  · skip
    refine rn 5 ?_
    refine AL.nil ?_; simp only [thenQ, inQ]
    refine AWp.ret ?_; (try simp only [inQ, thenQ]); refine rret 0 ?_
    first | exact ⟨rfl, rfl⟩ | (refine ⟨?_, rfl⟩; (try simp only [pack, engA, engL]); (try simp_all [inL]) <;> omega)

theorem c_regs_May (G : Globs) (t : Thread) : ACall Tryz.prog G 16 [threadV t] [] (fun r L' => r = boolv t.may ∧ L' = []) := by
  refine ACall.enter Tryz.func16 rfl Tryz.ntmps16 (by rw [Tryz.results16]) (Nat.le_of_ble_eq_true rfl) rfl ?_
  (repeat refine AWp.seq ?_); refine AWp.region ?_
  refine rn 2 ?_
  refine AL.nil ?_; simp only [thenQ, inQ]
  (repeat refine AWp.seq ?_); refine AWp.region ?_
  refine rn 2 ?_
  refine rcall Tryz.call35 (hC := c_regs_in G _ _ _) (kk := ?_); simp only [Av.put]
  refine rn 2 ?_
  refine AL.split 7 (by simp only [engA, engL, engT, reduceIte, reduceCtorEq, Nat.reduceLT, Nat.reduceLeDiff, Nat.reduceAdd, Nat.reduceSub, Nat.reduceMul, Nat.reduceEqDiff, Nat.reduceBneDiff, Nat.le_refl, Bool.false_eq_true, Int.reduceLT, Int.reduceLE, Int.reduceAdd, Int.reduceSub, Int.reduceMul, Int.reduceToNat, Int.reduceEq, Int.cast_ofNat_Int, Int.reduceNeg]; rfl) (fun hb => ?_) (fun hb => ?_)
  · skip
    refine rn 11 ?_
    refine AL.nil ?_; simp only [thenQ, inQ]
    (repeat refine AWp.seq ?_)
    refine AWp.cond (t := true) (by simp only [engA, engL, engT, reduceIte, reduceCtorEq, Nat.reduceLT, Nat.reduceLeDiff, Nat.reduceAdd, Nat.reduceSub, Nat.reduceMul, Nat.reduceEqDiff, Nat.reduceBneDiff, Nat.le_refl, Bool.false_eq_true, Int.reduceLT, Int.reduceLE, Int.reduceAdd, Int.reduceSub, Int.reduceMul, Int.reduceToNat, Int.reduceEq, Int.cast_ofNat_Int, Int.reduceNeg]) (fun hb => ?_) (fun hb => by cases hb)
    (repeat refine AWp.seq ?_); refine AWp.region ?_
    refine rn 1 ?_
    refine AL.nil ?_; simp only [thenQ, inQ]
    refine AWp.ret ?_; (try simp only [inQ, thenQ]); refine rret 0 ?_
    first | exact ⟨rfl, rfl⟩ | (refine ⟨?_, rfl⟩; (try simp only [pack, engA, engL]); (try simp_all [Thread.may]) <;> omega)
  · skip
    refine rn 2 ?_
    refine rcallG Tryz.call35 (hC := c_regs_in G _ _ _) (kk := ?_); simp only [Av.put]
    refine rn 3 ?_
    refine AL.split 13 (by simp only [engA, engL, engT, reduceIte, reduceCtorEq, Nat.reduceLT, Nat.reduceLeDiff, Nat.reduceAdd, Nat.reduceSub, Nat.reduceMul, Nat.reduceEqDiff, Nat.reduceBneDiff, Nat.le_refl, Bool.false_eq_true, Int.reduceLT, Int.reduceLE, Int.reduceAdd, Int.reduceSub, Int.reduceMul, Int.reduceToNat, Int.reduceEq, Int.cast_ofNat_Int, Int.reduceNeg]; rfl) (fun hb => ?_) (fun hb => ?_)
    · skip
      refine rn 5 ?_
      refine AL.nil ?_; simp only [thenQ, inQ]
      (repeat refine AWp.seq ?_)
      refine AWp.cond (t := true) (by simp only [engA, engL, engT, reduceIte, reduceCtorEq, Nat.reduceLT, Nat.reduceLeDiff, Nat.reduceAdd, Nat.reduceSub, Nat.reduceMul, Nat.reduceEqDiff, Nat.reduceBneDiff, Nat.le_refl, Bool.false_eq_true, Int.reduceLT, Int.reduceLE, Int.reduceAdd, Int.reduceSub, Int.reduceMul, Int.reduceToNat, Int.reduceEq, Int.cast_ofNat_Int, Int.reduceNeg]) (fun hb => ?_) (fun hb => by cases hb)
      (repeat refine AWp.seq ?_); refine AWp.region ?_
      refine rn 1 ?_
      refine AL.nil ?_; simp only [thenQ, inQ]
      refine AWp.ret ?_; (try simp only [inQ, thenQ]); refine rret 0 ?_
      first | exact ⟨rfl, rfl⟩ | (refine ⟨?_, rfl⟩; (try simp only [pack, engA, engL]); (try simp_all [Thread.may]) <;> omega)
    · skip
      refine rn 2 ?_
      refine rcallG Tryz.call35 (hC := c_regs_in G _ _ _) (kk := ?_); simp only [Av.put]
      refine rn 2 ?_
      refine AL.nil ?_; simp only [thenQ, inQ]
      (repeat refine AWp.seq ?_)
      refine AWp.cond (by simp only [engA, engL, engT, reduceIte, reduceCtorEq, Nat.reduceLT, Nat.reduceLeDiff, Nat.reduceAdd, Nat.reduceSub, Nat.reduceMul, Nat.reduceEqDiff, Nat.reduceBneDiff, Nat.le_refl, Bool.false_eq_true, Int.reduceLT, Int.reduceLE, Int.reduceAdd, Int.reduceSub, Int.reduceMul, Int.reduceToNat, Int.reduceEq, Int.cast_ofNat_Int, Int.reduceNeg]; rfl) (fun hb => ?_) (fun hb => ?_)
      · skip
        (repeat refine AWp.seq ?_); refine AWp.region ?_
        refine rn 1 ?_
        refine AL.nil ?_; simp only [thenQ, inQ]
        refine AWp.ret ?_; (try simp only [inQ, thenQ]); refine rret 0 ?_
        first | exact ⟨rfl, rfl⟩ | (refine ⟨?_, rfl⟩; (try simp only [pack, engA, engL]); (try simp_all [Thread.may]) <;> omega)
      · skip
        (repeat refine AWp.seq ?_)
        refine AWp.skip ?_
        simp only [inQ, thenQ]
        (repeat refine AWp.seq ?_); refine AWp.region ?_
        refine rn 5 ?_
        refine AL.split 23 (by simp only [engA, engL, engT, reduceIte, reduceCtorEq, Nat.reduceLT, Nat.reduceLeDiff, Nat.reduceAdd, Nat.reduceSub, Nat.reduceMul, Nat.reduceEqDiff, Nat.reduceBneDiff, Nat.le_refl, Bool.false_eq_true, Int.reduceLT, Int.reduceLE, Int.reduceAdd, Int.reduceSub, Int.reduceMul, Int.reduceToNat, Int.reduceEq, Int.cast_ofNat_Int, Int.reduceNeg]; rfl) (fun hb => ?_) (fun hb => ?_)
        · skip
          refine rn 4 ?_
          refine AL.split 27 (by simp only [engA, engL, engT, reduceIte, reduceCtorEq, Nat.reduceLT, Nat.reduceLeDiff, Nat.reduceAdd, Nat.reduceSub, Nat.reduceMul, Nat.reduceEqDiff, Nat.reduceBneDiff, Nat.le_refl, Bool.false_eq_true, Int.reduceLT, Int.reduceLE, Int.reduceAdd, Int.reduceSub, Int.reduceMul, Int.reduceToNat, Int.reduceEq, Int.cast_ofNat_Int, Int.reduceNeg]; rfl) (fun hb => ?_) (fun hb => ?_)
          · skip
            refine rn 7 ?_
            refine AL.nil ?_; simp only [thenQ, inQ]
            refine AWp.ret ?_; (try simp only [inQ, thenQ]); refine rret 0 ?_
            first | exact ⟨rfl, rfl⟩ | (refine ⟨?_, rfl⟩; (try simp only [pack, engA, engL]); (try simp_all [Thread.may]) <;> omega)
          · skip
            refine rn 7 ?_
            refine AL.nil ?_; simp only [thenQ, inQ]
            refine AWp.ret ?_; (try simp only [inQ, thenQ]); refine rret 0 ?_
            first | exact ⟨rfl, rfl⟩ | (refine ⟨?_, rfl⟩; (try simp only [pack, engA, engL]); (try simp_all [Thread.may]) <;> omega)
        · skip
          refine rn 11 ?_
          refine AL.nil ?_; simp only [thenQ, inQ]
          refine AWp.ret ?_; (try simp only [inQ, thenQ]); refine rret 0 ?_
          first | exact ⟨rfl, rfl⟩ | (refine ⟨?_, rfl⟩; (try simp only [pack, engA, engL]); (try simp_all [Thread.may]) <;> omega)

theorem c_hand_wants (G : Globs) (p : Int) : ACall Tryz.prog G 39 [intv p] [] (fun r L' => r = intv (wants p) ∧ L' = []) := by
  refine ACall.enter Tryz.func39 rfl Tryz.ntmps39 (by rw [Tryz.results39]) (Nat.le_of_ble_eq_true rfl) rfl ?_
  (repeat refine AWp.seq ?_); refine AWp.region ?_
  refine rn 1 ?_
  refine AL.nil ?_; simp only [thenQ, inQ]
  (repeat refine AWp.seq ?_); refine AWp.region ?_
  refine rn 1 ?_
  refine AL.nil ?_; simp only [thenQ, inQ]
  (repeat refine AWp.seq ?_)
  refine AWp.block ?_
  (repeat refine AWp.seq ?_); refine AWp.region ?_
  refine rn 2 ?_
  refine AL.nil ?_; simp only [thenQ, inQ]
  (repeat refine AWp.seq ?_)
  refine AWp.cond (by simp only [engA, engL, engT, reduceIte, reduceCtorEq, Nat.reduceLT, Nat.reduceLeDiff, Nat.reduceAdd, Nat.reduceSub, Nat.reduceMul, Nat.reduceEqDiff, Nat.reduceBneDiff, Nat.le_refl, Bool.false_eq_true, Int.reduceLT, Int.reduceLE, Int.reduceAdd, Int.reduceSub, Int.reduceMul, Int.reduceToNat, Int.reduceEq, Int.cast_ofNat_Int, Int.reduceNeg]; rfl) (fun hb => ?_) (fun hb => ?_)
  · skip
    (repeat refine AWp.seq ?_); refine AWp.region ?_
    refine rn 1 ?_
    refine AL.nil ?_; simp only [thenQ, inQ]
    refine AWp.ret ?_; (try simp only [inQ, thenQ]); refine rret 0 ?_
    first | exact ⟨rfl, rfl⟩ | (refine ⟨?_, rfl⟩; (try simp only [pack, engA, engL]); (try simp_all [wants]) <;> omega)
  · skip
    (repeat refine AWp.seq ?_); refine AWp.region ?_
    refine rn 2 ?_
    refine AL.nil ?_; simp only [thenQ, inQ]
    (repeat refine AWp.seq ?_)
    refine AWp.cond (by simp only [engA, engL, engT, reduceIte, reduceCtorEq, Nat.reduceLT, Nat.reduceLeDiff, Nat.reduceAdd, Nat.reduceSub, Nat.reduceMul, Nat.reduceEqDiff, Nat.reduceBneDiff, Nat.le_refl, Bool.false_eq_true, Int.reduceLT, Int.reduceLE, Int.reduceAdd, Int.reduceSub, Int.reduceMul, Int.reduceToNat, Int.reduceEq, Int.cast_ofNat_Int, Int.reduceNeg]; rfl) (fun hb => ?_) (fun hb => ?_)
    · skip
      (repeat refine AWp.seq ?_); refine AWp.region ?_
      refine rn 1 ?_
      refine AL.nil ?_; simp only [thenQ, inQ]
      refine AWp.ret ?_; (try simp only [inQ, thenQ]); refine rret 0 ?_
      first | exact ⟨rfl, rfl⟩ | (refine ⟨?_, rfl⟩; (try simp only [pack, engA, engL]); (try simp_all [wants]) <;> omega)
    · skip
      (repeat refine AWp.seq ?_); refine AWp.region ?_
      refine rn 2 ?_
      refine AL.nil ?_; simp only [thenQ, inQ]
      (repeat refine AWp.seq ?_)
      refine AWp.cond (by simp only [engA, engL, engT, reduceIte, reduceCtorEq, Nat.reduceLT, Nat.reduceLeDiff, Nat.reduceAdd, Nat.reduceSub, Nat.reduceMul, Nat.reduceEqDiff, Nat.reduceBneDiff, Nat.le_refl, Bool.false_eq_true, Int.reduceLT, Int.reduceLE, Int.reduceAdd, Int.reduceSub, Int.reduceMul, Int.reduceToNat, Int.reduceEq, Int.cast_ofNat_Int, Int.reduceNeg]; rfl) (fun hb => ?_) (fun hb => ?_)
      · skip
        (repeat refine AWp.seq ?_); refine AWp.region ?_
        refine rn 1 ?_
        refine AL.nil ?_; simp only [thenQ, inQ]
        refine AWp.ret ?_; (try simp only [inQ, thenQ]); refine rret 0 ?_
        first | exact ⟨rfl, rfl⟩ | (refine ⟨?_, rfl⟩; (try simp only [pack, engA, engL]); (try simp_all [wants]) <;> omega)
      · skip
        (repeat refine AWp.seq ?_)
        refine AWp.skip ?_
        simp only [inQ, thenQ]
        (repeat refine AWp.seq ?_); refine AWp.region ?_
        refine rn 1 ?_
        refine AL.nil ?_; simp only [thenQ, inQ]
        refine AWp.ret ?_; (try simp only [inQ, thenQ]); refine rret 0 ?_
        first | exact ⟨rfl, rfl⟩ | (refine ⟨?_, rfl⟩; (try simp only [pack, engA, engL]); (try simp_all [wants]) <;> omega)

theorem c_hand_answered (G : Globs) (c : Col) (t : Thread) : ACall Tryz.prog G 26 [colV c, threadV t] [] (fun r L' => r = boolv (answered c t) ∧ L' = []) := by
  refine ACall.enter Tryz.func26 rfl Tryz.ntmps26 (by rw [Tryz.results26]) (Nat.le_of_ble_eq_true rfl) rfl ?_
  (repeat refine AWp.seq ?_); refine AWp.region ?_
  refine rn 3 ?_
  refine AL.nil ?_; simp only [thenQ, inQ]
  (repeat refine AWp.seq ?_); refine AWp.region ?_
  refine rn 2 ?_
  refine rcall Tryz.call39 (hC := c_hand_wants G _) (kk := ?_); simp only [Av.put]
  refine rn 1 ?_
  refine AL.nil ?_; simp only [thenQ, inQ]
  (repeat refine AWp.seq ?_); refine AWp.region ?_
  refine rn 1 ?_
  refine AL.nil ?_; simp only [thenQ, inQ]
  (repeat refine AWp.seq ?_)
  refine AWp.block ?_
  (repeat refine AWp.seq ?_); refine AWp.region ?_
  refine rn 2 ?_
  refine AL.nil ?_; simp only [thenQ, inQ]
  (repeat refine AWp.seq ?_)
  refine AWp.cond (by simp only [engA, engL, engT, reduceIte, reduceCtorEq, Nat.reduceLT, Nat.reduceLeDiff, Nat.reduceAdd, Nat.reduceSub, Nat.reduceMul, Nat.reduceEqDiff, Nat.reduceBneDiff, Nat.le_refl, Bool.false_eq_true, Int.reduceLT, Int.reduceLE, Int.reduceAdd, Int.reduceSub, Int.reduceMul, Int.reduceToNat, Int.reduceEq, Int.cast_ofNat_Int, Int.reduceNeg]; rfl) (fun hb => ?_) (fun hb => ?_)
  · skip
    (repeat refine AWp.seq ?_); refine AWp.region ?_
    refine rn 1 ?_
    refine AL.nil ?_; simp only [thenQ, inQ]
    refine AWp.ret ?_; (try simp only [inQ, thenQ]); refine rret 0 ?_
    first | exact ⟨rfl, rfl⟩ | (refine ⟨?_, rfl⟩; (try simp only [pack, engA, engL]); (try simp_all [answered]) <;> omega)
  · skip
    (repeat refine AWp.seq ?_); refine AWp.region ?_
    refine rn 2 ?_
    refine AL.nil ?_; simp only [thenQ, inQ]
    (repeat refine AWp.seq ?_)
    refine AWp.cond (by simp only [engA, engL, engT, reduceIte, reduceCtorEq, Nat.reduceLT, Nat.reduceLeDiff, Nat.reduceAdd, Nat.reduceSub, Nat.reduceMul, Nat.reduceEqDiff, Nat.reduceBneDiff, Nat.le_refl, Bool.false_eq_true, Int.reduceLT, Int.reduceLE, Int.reduceAdd, Int.reduceSub, Int.reduceMul, Int.reduceToNat, Int.reduceEq, Int.cast_ofNat_Int, Int.reduceNeg]; rfl) (fun hb => ?_) (fun hb => ?_)
    · skip
      (repeat refine AWp.seq ?_); refine AWp.region ?_
      refine rn 6 ?_
      refine AL.nil ?_; simp only [thenQ, inQ]
      refine AWp.ret ?_; (try simp only [inQ, thenQ]); refine rret 0 ?_
      first | exact ⟨rfl, rfl⟩ | (refine ⟨?_, rfl⟩; (try simp only [pack, engA, engL]); (try simp_all [answered]) <;> omega)
    · skip
      (repeat refine AWp.seq ?_); refine AWp.region ?_
      refine rn 2 ?_
      refine AL.nil ?_; simp only [thenQ, inQ]
      (repeat refine AWp.seq ?_)
      refine AWp.cond (by simp only [engA, engL, engT, reduceIte, reduceCtorEq, Nat.reduceLT, Nat.reduceLeDiff, Nat.reduceAdd, Nat.reduceSub, Nat.reduceMul, Nat.reduceEqDiff, Nat.reduceBneDiff, Nat.le_refl, Bool.false_eq_true, Int.reduceLT, Int.reduceLE, Int.reduceAdd, Int.reduceSub, Int.reduceMul, Int.reduceToNat, Int.reduceEq, Int.cast_ofNat_Int, Int.reduceNeg]; rfl) (fun hb => ?_) (fun hb => ?_)
      · skip
        (repeat refine AWp.seq ?_); refine AWp.region ?_
        refine rn 6 ?_
        refine AL.split 37 (by simp only [engA, engL, engT, reduceIte, reduceCtorEq, Nat.reduceLT, Nat.reduceLeDiff, Nat.reduceAdd, Nat.reduceSub, Nat.reduceMul, Nat.reduceEqDiff, Nat.reduceBneDiff, Nat.le_refl, Bool.false_eq_true, Int.reduceLT, Int.reduceLE, Int.reduceAdd, Int.reduceSub, Int.reduceMul, Int.reduceToNat, Int.reduceEq, Int.cast_ofNat_Int, Int.reduceNeg]; rfl) (fun hb => ?_) (fun hb => ?_)
        · skip
          refine rn 6 ?_
          refine AL.nil ?_; simp only [thenQ, inQ]
          refine AWp.ret ?_; (try simp only [inQ, thenQ]); refine rret 0 ?_
          first | exact ⟨rfl, rfl⟩ | (refine ⟨?_, rfl⟩; (try simp only [pack, engA, engL]); (try simp_all [answered]) <;> omega)
        · skip
          refine rn 6 ?_
          refine AL.nil ?_; simp only [thenQ, inQ]
          refine AWp.ret ?_; (try simp only [inQ, thenQ]); refine rret 0 ?_
          first | exact ⟨rfl, rfl⟩ | (refine ⟨?_, rfl⟩; (try simp only [pack, engA, engL]); (try simp_all [answered]) <;> omega)
      · skip
        (repeat refine AWp.seq ?_); refine AWp.region ?_
        refine rn 6 ?_
        refine AL.split 15 (by simp only [engA, engL, engT, reduceIte, reduceCtorEq, Nat.reduceLT, Nat.reduceLeDiff, Nat.reduceAdd, Nat.reduceSub, Nat.reduceMul, Nat.reduceEqDiff, Nat.reduceBneDiff, Nat.le_refl, Bool.false_eq_true, Int.reduceLT, Int.reduceLE, Int.reduceAdd, Int.reduceSub, Int.reduceMul, Int.reduceToNat, Int.reduceEq, Int.cast_ofNat_Int, Int.reduceNeg]; rfl) (fun hb => ?_) (fun hb => ?_)
        · skip
          refine rn 6 ?_
          refine AL.nil ?_; simp only [thenQ, inQ]
          refine AWp.ret ?_; (try simp only [inQ, thenQ]); refine rret 0 ?_
          first | exact ⟨rfl, rfl⟩ | (refine ⟨?_, rfl⟩; (try simp only [pack, engA, engL]); (try simp_all [answered]) <;> omega)
        · skip
          refine rn 6 ?_
          refine AL.nil ?_; simp only [thenQ, inQ]
          refine AWp.ret ?_; (try simp only [inQ, thenQ]); refine rret 0 ?_
          first | exact ⟨rfl, rfl⟩ | (refine ⟨?_, rfl⟩; (try simp only [pack, engA, engL]); (try simp_all [answered]) <;> omega)

theorem c_hand_Asked (G : Globs) (c : Col) (t : Thread) : ACall Tryz.prog G 8 [colV c, threadV t] [] (fun r L' => r = boolv (asked c t) ∧ L' = []) := by
  refine ACall.enter Tryz.func8 rfl Tryz.ntmps8 (by rw [Tryz.results8]) (Nat.le_of_ble_eq_true rfl) rfl ?_
  (repeat refine AWp.seq ?_); refine AWp.region ?_
  refine rn 3 ?_
  refine AL.nil ?_; simp only [thenQ, inQ]
  (repeat refine AWp.seq ?_); refine AWp.region ?_
  refine rn 3 ?_
  refine AL.split 7 (by simp only [engA, engL, engT, reduceIte, reduceCtorEq, Nat.reduceLT, Nat.reduceLeDiff, Nat.reduceAdd, Nat.reduceSub, Nat.reduceMul, Nat.reduceEqDiff, Nat.reduceBneDiff, Nat.le_refl, Bool.false_eq_true, Int.reduceLT, Int.reduceLE, Int.reduceAdd, Int.reduceSub, Int.reduceMul, Int.reduceToNat, Int.reduceEq, Int.cast_ofNat_Int, Int.reduceNeg]; rfl) (fun hb => ?_) (fun hb => ?_)
  · skip
    refine rn 1 ?_
    refine rcallG Tryz.call16 (hC := c_regs_May G _) (kk := ?_); simp only [Av.put]
    refine rn 2 ?_
    refine AL.split 11 (by simp only [engA, engL, engT, reduceIte, reduceCtorEq, Nat.reduceLT, Nat.reduceLeDiff, Nat.reduceAdd, Nat.reduceSub, Nat.reduceMul, Nat.reduceEqDiff, Nat.reduceBneDiff, Nat.le_refl, Bool.false_eq_true, Int.reduceLT, Int.reduceLE, Int.reduceAdd, Int.reduceSub, Int.reduceMul, Int.reduceToNat, Int.reduceEq, Int.cast_ofNat_Int, Int.reduceNeg]; rfl) (fun hb => ?_) (fun hb => ?_)
    · skip
      refine rn 5 ?_
      refine AL.split 16 (by simp only [engA, engL, engT, reduceIte, reduceCtorEq, Nat.reduceLT, Nat.reduceLeDiff, Nat.reduceAdd, Nat.reduceSub, Nat.reduceMul, Nat.reduceEqDiff, Nat.reduceBneDiff, Nat.le_refl, Bool.false_eq_true, Int.reduceLT, Int.reduceLE, Int.reduceAdd, Int.reduceSub, Int.reduceMul, Int.reduceToNat, Int.reduceEq, Int.cast_ofNat_Int, Int.reduceNeg]; rfl) (fun hb => ?_) (fun hb => ?_)
      · skip
        refine rn 2 ?_
        refine rcallG Tryz.call26 (hC := c_hand_answered G _ _) (kk := ?_); simp only [Av.put]
        refine rn 3 ?_
        refine AL.nil ?_; simp only [thenQ, inQ]
        refine AWp.ret ?_; (try simp only [inQ, thenQ]); refine rret 0 ?_
        first | exact ⟨rfl, rfl⟩ | (refine ⟨?_, rfl⟩; (try simp only [pack, engA, engL]); (try simp_all [asked]) <;> omega)
      · skip
        refine rn 6 ?_
        refine AL.nil ?_; simp only [thenQ, inQ]
        refine AWp.ret ?_; (try simp only [inQ, thenQ]); refine rret 0 ?_
        first | exact ⟨rfl, rfl⟩ | (refine ⟨?_, rfl⟩; (try simp only [pack, engA, engL]); (try simp_all [asked]) <;> omega)
    · skip
      refine rn 11 ?_
      refine AL.nil ?_; simp only [thenQ, inQ]
      refine AWp.ret ?_; (try simp only [inQ, thenQ]); refine rret 0 ?_
      first | exact ⟨rfl, rfl⟩ | (refine ⟨?_, rfl⟩; (try simp only [pack, engA, engL]); (try simp_all [asked]) <;> omega)
  · skip
    refine rn 15 ?_
    refine AL.nil ?_; simp only [thenQ, inQ]
    refine AWp.ret ?_; (try simp only [inQ, thenQ]); refine rret 0 ?_
    first | exact ⟨rfl, rfl⟩ | (refine ⟨?_, rfl⟩; (try simp only [pack, engA, engL]); (try simp_all [asked]) <;> omega)

end Go.Proofs
end

section
set_option linter.unusedSimpArgs false
set_option maxRecDepth 20000
set_option maxHeartbeats 1000000
namespace Go.Proofs
open Go Av Rp
theorem c_hand_Answer (G : Globs) (h : Heap) (c : Col) (t : Thread) (hG : List.lookup 0 G = some wordsI) (ht : h.F.all.length ≤ 1000000) (hw : c.work.length ≤ 1000000) : ACall Tryz.prog G 10 [heapV h, colV c, threadV t] [] (fun r L' => r = .tup [heapV (answer h c t).1, colV (answer h c t).2.1, threadV (answer h c t).2.2] ∧ L' = []) := by
  refine ACall.enter Tryz.func10 rfl Tryz.ntmps10 (by rw [Tryz.results10]) (Nat.le_of_ble_eq_true rfl) rfl ?_
  -- REGION 0
  (repeat refine AWp.seq ?_); refine AWp.region ?_
  refine rn 4 ?_
  refine rn 2 ?_
  refine AL.nil ?_; simp only [thenQ, inQ]
  -- REGION 1
  (repeat refine AWp.seq ?_); refine AWp.region ?_
  refine rn 2 ?_
  refine rcall Tryz.call8 (hC := c_hand_Asked G _ _) (kk := ?_); simp only [Av.put]
  refine rn 1 ?_
  refine AL.nil ?_; simp only [thenQ, inQ]
  -- REGION 2
  (repeat refine AWp.seq ?_); refine AWp.region ?_
  refine rn 3 ?_
  refine rcall Tryz.call29 (hC := c_hand_own G h c t) (kk := ?_); simp only [Av.put]
  refine rn 4 ?_
  refine rn 3 ?_
  refine AL.nil ?_; simp only [thenQ, inQ]
  (repeat refine AWp.seq ?_)
  refine AWp.block ?_
  -- REGION 7
  (repeat refine AWp.seq ?_); refine AWp.region ?_
  refine rn 3 ?_
  refine AL.nil ?_; simp only [thenQ, inQ]
  (repeat refine AWp.seq ?_)
  refine rc (fun hb => ?_) (fun hb => ?_)
  · skip
    (repeat refine AWp.seq ?_)
    refine AWp.skip ?_
    (try simp only [inQ, thenQ])
    -- DRAWS region 12: 
    (repeat refine AWp.seq ?_); refine rdraws [.flo 0 0, .flo 0 1, .flo 0 2, .eff 0, .eff 1, .eff 2] 3 [] mixed ?_; refine ⟨trivial, ?_⟩; simp only [thenQ, inQ, tS, List.getD_cons_zero, List.getD_cons_succ, if_true]
    refine AWp.ret ?_; (try simp only [inQ, thenQ]); refine rret 0 ?_
    refine ⟨?_, rfl⟩; simp only [pack, engA, engL]; first | (rw [ans_no (by assumption)] <;> rfl) | (rw [ans_ep (by assumption) (by assumption)] <;> rfl) | (rw [ans_se (by assumption) (by assumption) (by assumption)] <;> rfl) | (rw [ans_4 (by assumption) (by assumption) (by assumption) (by assumption)] <;> rfl) | (rw [ans_5 (by assumption) (by assumption) (by assumption) (by assumption)] <;> rfl)
  · skip
    -- REGION 8
    (repeat refine AWp.seq ?_); refine AWp.region ?_
    refine rn 4 ?_
    refine rn 2 ?_
    refine AL.nil ?_; simp only [thenQ, inQ]
    (repeat refine AWp.seq ?_)
    refine rc (fun hb => ?_) (fun hb => ?_)
    · skip
      -- REGION 9
      (repeat refine AWp.seq ?_); refine AWp.region ?_
      refine rn 4 ?_
      refine rn 4 ?_
      refine AL.nil ?_; simp only [thenQ, inQ]
      -- DRAWS region 12: 
      (repeat refine AWp.seq ?_); refine rdraws [.flo 0 0, .flo 0 1, .flo 0 2, .eff 0, .eff 1, .eff 2] 3 [] mixed ?_; refine ⟨trivial, ?_⟩; simp only [thenQ, inQ, tS, List.getD_cons_zero, List.getD_cons_succ, if_true]
      refine AWp.ret ?_; (try simp only [inQ, thenQ]); refine rret 0 ?_
      refine ⟨?_, rfl⟩; simp only [pack, engA, engL]; first | (rw [ans_no (by assumption)] <;> rfl) | (rw [ans_ep (by assumption) (by assumption)] <;> rfl) | (rw [ans_se (by assumption) (by assumption) (by assumption)] <;> rfl) | (rw [ans_4 (by assumption) (by assumption) (by assumption) (by assumption)] <;> rfl) | (rw [ans_5 (by assumption) (by assumption) (by assumption) (by assumption)] <;> rfl)
    · skip
      -- REGION 10
      (repeat refine AWp.seq ?_); refine AWp.region ?_
      refine rn 4 ?_
      refine AL.nil ?_; simp only [thenQ, inQ]
      (repeat refine AWp.seq ?_)
      refine rc (fun hb => ?_) (fun hb => ?_)
      · skip
        -- REGION 11
        (repeat refine AWp.seq ?_); refine AWp.region ?_
        refine rn 2 ?_
        refine AL.nil ?_; simp only [thenQ, inQ]
        -- DRAWS region 12: 
        (repeat refine AWp.seq ?_); refine rdraws [.flo 0 0, .flo 0 1, .flo 0 2, .eff 0, .eff 1, .eff 2] 3 [] mixed ?_; refine ⟨trivial, ?_⟩; simp only [thenQ, inQ, tS, List.getD_cons_zero, List.getD_cons_succ, if_true]
        refine AWp.ret ?_; (try simp only [inQ, thenQ]); refine rret 0 ?_
        refine ⟨?_, rfl⟩; simp only [pack, engA, engL]; first | (rw [ans_no (by assumption)] <;> rfl) | (rw [ans_ep (by assumption) (by assumption)] <;> rfl) | (rw [ans_se (by assumption) (by assumption) (by assumption)] <;> rfl) | (rw [ans_4 (by assumption) (by assumption) (by assumption) (by assumption)] <;> rfl) | (rw [ans_5 (by assumption) (by assumption) (by assumption) (by assumption)] <;> rfl)
      · skip
        have hr := asked_root (by assumption); have hc : (0 ≤ t.root ∧ t.root < 4) = True := (by simp; omega); have hr1 : IntKind.i64.wrap (t.root + 1) = t.root + 1 := wrap_id _ (by omega) (by omega)
        (repeat refine AWp.seq ?_); refine rdraws [.flo 0 0, .flo 0 0, .flo 0 0, .flo 0 0, .flo 0 0, .flo 0 0, .flo 0 0, .flo 0 0, .flo 0 0, .flo 0 0, .flo 0 1, .eff 0, .eff 1] 2 [(7, .tup [heapV (shade h c (t.reg t.root)).1, colV (shade h c (t.reg t.root)).2])] mixed ?_ (h0 := by simp only [trun, oev, lk, chkAll, chkFrom, tS, undefS, List.getD_cons_zero, List.getD_cons_succ, if_true, hc, reg_get hr, Nat.mul_one, engA, engL, engT, reduceIte, reduceCtorEq, Nat.reduceLT, Nat.reduceLeDiff, Nat.reduceAdd, Nat.reduceSub, Nat.reduceMul, Nat.reduceEqDiff, Nat.reduceBneDiff, Nat.le_refl, Bool.false_eq_true, Int.reduceLT, Int.reduceLE, Int.reduceAdd, Int.reduceSub, Int.reduceMul, Int.reduceToNat, Int.reduceEq, Int.cast_ofNat_Int, Int.reduceNeg] <;> rfl) (hc := by simp only [trun, oev, lk, chkAll, chkFrom, tS, undefS, List.getD_cons_zero, List.getD_cons_succ, if_true, hc, reg_get hr, Nat.mul_one, engA, engL, engT, reduceIte, reduceCtorEq, Nat.reduceLT, Nat.reduceLeDiff, Nat.reduceAdd, Nat.reduceSub, Nat.reduceMul, Nat.reduceEqDiff, Nat.reduceBneDiff, Nat.le_refl, Bool.false_eq_true, Int.reduceLT, Int.reduceLE, Int.reduceAdd, Int.reduceSub, Int.reduceMul, Int.reduceToNat, Int.reduceEq, Int.cast_ofNat_Int, Int.reduceNeg]); refine ⟨⟨rck Tryz.call30 (hC := c_shade_Shade G h c (t.reg t.root) hG ht hw), trivial⟩, ?_⟩; simp only [thenQ, inQ, tS, List.getD_cons_zero, List.getD_cons_succ, if_true]
        -- REGION 4
        (repeat refine AWp.seq ?_); refine AWp.region ?_
        refine rn 4 (k := ?_) (h := by simp (maxSteps := 3000000) only [hr1, engA, engL, engT, reduceIte, reduceCtorEq, Nat.reduceLT, Nat.reduceLeDiff, Nat.reduceAdd, Nat.reduceSub, Nat.reduceMul, Nat.reduceEqDiff, Nat.reduceBneDiff, Nat.le_refl, Bool.false_eq_true, Int.reduceLT, Int.reduceLE, Int.reduceAdd, Int.reduceSub, Int.reduceMul, Int.reduceToNat, Int.reduceEq, Int.cast_ofNat_Int, Int.reduceNeg] <;> rfl)
        refine rn 1 (k := ?_) (h := by simp (maxSteps := 3000000) only [hr1, engA, engL, engT, reduceIte, reduceCtorEq, Nat.reduceLT, Nat.reduceLeDiff, Nat.reduceAdd, Nat.reduceSub, Nat.reduceMul, Nat.reduceEqDiff, Nat.reduceBneDiff, Nat.le_refl, Bool.false_eq_true, Int.reduceLT, Int.reduceLE, Int.reduceAdd, Int.reduceSub, Int.reduceMul, Int.reduceToNat, Int.reduceEq, Int.cast_ofNat_Int, Int.reduceNeg] <;> rfl)
        refine AL.nil ?_; simp only [thenQ, inQ]
        -- REGION 5
        (repeat refine AWp.seq ?_); refine AWp.region ?_
        refine rn 3 (k := ?_) (h := by simp (maxSteps := 3000000) only [hr1, engA, engL, engT, reduceIte, reduceCtorEq, Nat.reduceLT, Nat.reduceLeDiff, Nat.reduceAdd, Nat.reduceSub, Nat.reduceMul, Nat.reduceEqDiff, Nat.reduceBneDiff, Nat.le_refl, Bool.false_eq_true, Int.reduceLT, Int.reduceLE, Int.reduceAdd, Int.reduceSub, Int.reduceMul, Int.reduceToNat, Int.reduceEq, Int.cast_ofNat_Int, Int.reduceNeg] <;> rfl)
        refine AL.nil ?_; simp only [thenQ, inQ]
        (repeat refine AWp.seq ?_)
        refine rc (fun hb => ?_) (fun hb => ?_)
        · skip
          -- REGION 6
          (repeat refine AWp.seq ?_); refine AWp.region ?_
          refine rn 4 ?_
          refine AL.nil ?_; simp only [thenQ, inQ]
          -- DRAWS region 12: 
          (repeat refine AWp.seq ?_); refine rdraws [.flo 0 0, .flo 0 1, .flo 0 2, .eff 0, .eff 1, .eff 2] 3 [] mixed ?_; refine ⟨trivial, ?_⟩; simp only [thenQ, inQ, tS, List.getD_cons_zero, List.getD_cons_succ, if_true]
          refine AWp.ret ?_; (try simp only [inQ, thenQ]); refine rret 0 ?_
          refine ⟨?_, rfl⟩; simp only [pack, engA, engL]; first | (rw [ans_no (by assumption)] <;> rfl) | (rw [ans_ep (by assumption) (by assumption)] <;> rfl) | (rw [ans_se (by assumption) (by assumption) (by assumption)] <;> rfl) | (rw [ans_4 (by assumption) (by assumption) (by assumption) (by assumption)] <;> rfl) | (rw [ans_5 (by assumption) (by assumption) (by assumption) (by assumption)] <;> rfl)
        · skip
          (repeat refine AWp.seq ?_)
          refine AWp.skip ?_
          (try simp only [inQ, thenQ])
          -- DRAWS region 12: 
          (repeat refine AWp.seq ?_); refine rdraws [.flo 0 0, .flo 0 1, .flo 0 2, .eff 0, .eff 1, .eff 2] 3 [] mixed ?_; refine ⟨trivial, ?_⟩; simp only [thenQ, inQ, tS, List.getD_cons_zero, List.getD_cons_succ, if_true]
          refine AWp.ret ?_; (try simp only [inQ, thenQ]); refine rret 0 ?_
          refine ⟨?_, rfl⟩; simp only [pack, engA, engL]; first | (rw [ans_no (by assumption)] <;> rfl) | (rw [ans_ep (by assumption) (by assumption)] <;> rfl) | (rw [ans_se (by assumption) (by assumption) (by assumption)] <;> rfl) | (rw [ans_4 (by assumption) (by assumption) (by assumption) (by assumption)] <;> rfl) | (rw [ans_5 (by assumption) (by assumption) (by assumption) (by assumption)] <;> rfl)

end Go.Proofs
end

section
set_option linter.unusedSimpArgs false
set_option maxRecDepth 20000
set_option maxHeartbeats 1000000
namespace Go.Proofs
open Go Av Rp
theorem c_hand_All_1 (G : Globs) (c : Col) (t : Thread) : ACall Tryz.prog G 28 [threadV t, .im (.pt (colI c) 0)] [] (fun r L' => r = boolv (t.live && !answered c t) ∧ L' = []) := by
  refine ACall.enter Tryz.func28 rfl Tryz.ntmps28 (by rw [Tryz.results28]) (Nat.le_of_ble_eq_true rfl) rfl ?_
  -- REGION 0
  (repeat refine AWp.seq ?_); refine AWp.region ?_
  refine rn 2 ?_
  refine AL.nil ?_; simp only [thenQ, inQ]
  -- REGION 1
  (repeat refine AWp.seq ?_); refine AWp.region ?_
  refine rn 3 ?_
  refine rsp 6 (fun hb => ?_) (fun hb => ?_)
  · skip
    refine rn 2 ?_
    refine rcallG Tryz.call26 (hC := c_hand_answered G _ _) (kk := ?_); simp only [Av.put]
    refine rn 3 ?_
    refine AL.nil ?_; simp only [thenQ, inQ]
    refine AWp.ret ?_; (try simp only [inQ, thenQ]); refine rret 0 ?_
    refine ⟨?_, rfl⟩; simp only [pack]; first | (rw [all1_t (by assumption)]; done) | (rw [all1_f (by assumption)]; done)
  · skip
    refine rn 4 ?_
    refine rn 2 ?_
    refine AL.nil ?_; simp only [thenQ, inQ]
    refine AWp.ret ?_; (try simp only [inQ, thenQ]); refine rret 0 ?_
    refine ⟨?_, rfl⟩; simp only [pack]; first | (rw [all1_t (by assumption)]; done) | (rw [all1_f (by assumption)]; done)

theorem c_slices_IndexFunc_api_Thread_api_Thread (G : Globs) (l : List Thread) (k : FuncId) (fs caps : List IV) (p : Thread → Bool) (hrun : ∀ (vs : Array Value) (W : World), (callFunc k vs).run Tryz.prog W = .ok (.enter k vs) W) (hp : ∀ a, a ∈ l → ACall Tryz.prog G k (fs.map .im ++ [threadV a] ++ caps.map .im) [] (fun r L' => r = boolv (p a) ∧ L' = [])) : ACall Tryz.prog G 40 [.im (threads l), .im (.fn k fs caps)] [] (fun r L' => r = intv (idxOf p l) ∧ L' = []) := by
  refine ACall.enter Tryz.func40 rfl Tryz.ntmps40 (by rw [Tryz.results40]) (Nat.le_of_ble_eq_true rfl) rfl ?_
  refine AWp.big 0 rfl (fun hbig => ?_); replace hbig : l.length ≤ 274877906944 := by simpa [bigN] using hbig
  (repeat refine AWp.seq ?_); refine AWp.region ?_
  refine rn 1 ?_
  refine AL.nil ?_; simp only [thenQ, inQ]
  -- REGION 1
  (repeat refine AWp.seq ?_); refine AWp.region ?_
  refine rn 3 ?_
  refine AL.nil ?_; simp only [thenQ, inQ]
  (repeat refine AWp.seq ?_)
  refine AWp.block ?_
  (repeat refine AWp.seq ?_)
  refine AWp.loopS (σ := Nat) (fun i => i ≤ l.length ∧ idxGo p (l.drop i) i = idxOf p l) (fun i => l.length - i) (fun i => [(8, intv i), (7, intv l.length), (6, .im (threads l)), (1, .im (.fn k fs caps)), (0, .im (threads l))]) (fun _ => []) 0 ⟨⟨Nat.zero_le _, rfl⟩, (by simp only [engA, engL, engT, reduceIte, reduceCtorEq, Nat.reduceLT, Nat.reduceLeDiff, Nat.reduceAdd, Nat.reduceSub, Nat.reduceMul, Nat.reduceEqDiff, Nat.reduceBneDiff, Nat.le_refl, Bool.false_eq_true, Int.reduceLT, Int.reduceLE, Int.reduceAdd, Int.reduceSub, Int.reduceMul, Int.reduceToNat, Int.reduceEq, Int.cast_ofNat_Int, Int.reduceNeg, eq_self, and_self]), rfl⟩ ?_
  rintro i ⟨h1, h2⟩
  -- REGION 2
  (repeat refine AWp.seq ?_); refine AWp.region ?_
  refine rn 1 ?_
  refine AL.nil ?_; simp only [thenQ, inQ]
  (repeat refine AWp.seq ?_)
  refine rc (fun hb => ?_) (fun hb => ?_)
  · skip
    (repeat refine AWp.seq ?_)
    refine AWp.skip ?_
    (try simp only [inQ, thenQ])
    (repeat refine AWp.seq ?_)
    refine AWp.block ?_
    have hlt : i < l.length := (by simp at hb; omega); obtain ⟨x, hx⟩ : ∃ x, l[i]? = some x := ⟨_, List.getElem?_eq_getElem hlt⟩; have hc : (0 ≤ (i : Int) ∧ (i : Int) < (l.length : Int)) = True := (by simp; omega); have hw : IntKind.i64.wrap ((i : Int) + 1) = ((i + 1 : Nat) : Int) := (by rw [wrap_id _ (by omega) (by omega)]; omega)
    (repeat refine AWp.seq ?_); refine AWp.region ?_
    refine rn 2 ?_
    refine AL.nil ?_; simp only [thenQ, inQ]
    -- REGION 4
    (repeat refine AWp.seq ?_); refine AWp.region ?_
    refine rn 4 (k := ?_) (h := by simp (maxSteps := 3000000) only [hc, hx, Int.toNat_natCast, List.getElem?_map, Nat.mul_div_cancel _ (show 0 < 15 by decide), Nat.mul_mod_left, engA, engL, engT, reduceIte, reduceCtorEq, Nat.reduceLT, Nat.reduceLeDiff, Nat.reduceAdd, Nat.reduceSub, Nat.reduceMul, Nat.reduceEqDiff, Nat.reduceBneDiff, Nat.le_refl, Bool.false_eq_true, Int.reduceLT, Int.reduceLE, Int.reduceAdd, Int.reduceSub, Int.reduceMul, Int.reduceToNat, Int.reduceEq, Int.cast_ofNat_Int, Int.reduceNeg] <;> rfl)
    refine rn 1 (k := ?_) (h := by simp (maxSteps := 3000000) only [hc, hx, Int.toNat_natCast, List.getElem?_map, Nat.mul_div_cancel _ (show 0 < 15 by decide), Nat.mul_mod_left, engA, engL, engT, reduceIte, reduceCtorEq, Nat.reduceLT, Nat.reduceLeDiff, Nat.reduceAdd, Nat.reduceSub, Nat.reduceMul, Nat.reduceEqDiff, Nat.reduceBneDiff, Nat.le_refl, Bool.false_eq_true, Int.reduceLT, Int.reduceLE, Int.reduceAdd, Int.reduceSub, Int.reduceMul, Int.reduceToNat, Int.reduceEq, Int.cast_ofNat_Int, Int.reduceNeg] <;> rfl)
    -- SPECIAL CALL t11 (t15)
    refine rcall hrun (hC := hp _ (List.mem_of_getElem? hx)) (kk := ?_) (h1 := clL_call fs caps rfl); simp only [Av.put]
    refine AL.nil ?_; simp only [thenQ, inQ]
    (repeat refine AWp.seq ?_)
    refine rc (fun hb => ?_) (fun hb => ?_)
    · skip
      -- REGION 5
      (repeat refine AWp.seq ?_); refine AWp.region ?_
      refine rn 2 ?_
      refine AL.nil ?_; simp only [thenQ, inQ]
      refine AWp.ret ?_; (try simp only [inQ, thenQ]); refine rret 0 ?_
      first | (rw [idx_hit h2 hx (by simpa using hb)]; exact ⟨rfl, rfl⟩) | (rw [idx_end h2 (by simp_all)]; exact ⟨rfl, rfl⟩)
    · skip
      (repeat refine AWp.seq ?_)
      refine AWp.skip ?_
      (try simp only [inQ, thenQ])
      -- REGION 6
      (repeat refine AWp.seq ?_); refine AWp.region ?_
      refine rn 2 (k := ?_) (h := by simp (maxSteps := 3000000) only [hw, engA, engL, engT, reduceIte, reduceCtorEq, Nat.reduceLT, Nat.reduceLeDiff, Nat.reduceAdd, Nat.reduceSub, Nat.reduceMul, Nat.reduceEqDiff, Nat.reduceBneDiff, Nat.le_refl, Bool.false_eq_true, Int.reduceLT, Int.reduceLE, Int.reduceAdd, Int.reduceSub, Int.reduceMul, Int.reduceToNat, Int.reduceEq, Int.cast_ofNat_Int, Int.reduceNeg] <;> rfl)
      refine AL.nil ?_; simp only [thenQ, inQ]
      (try simp only [inQ, thenQ])
      exact ⟨i + 1, ⟨hlt, idx_step h2 hx (by simpa using hb)⟩, by omega, (by simp only [engA, engL, engT, reduceIte, reduceCtorEq, Nat.reduceLT, Nat.reduceLeDiff, Nat.reduceAdd, Nat.reduceSub, Nat.reduceMul, Nat.reduceEqDiff, Nat.reduceBneDiff, Nat.le_refl, Bool.false_eq_true, Int.reduceLT, Int.reduceLE, Int.reduceAdd, Int.reduceSub, Int.reduceMul, Int.reduceToNat, Int.reduceEq, Int.cast_ofNat_Int, Int.reduceNeg, eq_self, and_self]), by first | rfl | trivial⟩
  · skip
    refine AWp.exit ?_
    simp only [inQ, thenQ, reduceIte, Nat.reduceEqDiff]
    -- REGION 7
    (repeat refine AWp.seq ?_); refine AWp.region ?_
    refine rn 1 ?_
    refine AL.nil ?_; simp only [thenQ, inQ]
    refine AWp.ret ?_; (try simp only [inQ, thenQ]); refine rret 0 ?_
    first | (rw [idx_hit h2 hx (by simpa using hb)]; exact ⟨rfl, rfl⟩) | (rw [idx_end h2 (by simp_all)]; exact ⟨rfl, rfl⟩)

theorem c_slices_ContainsFunc_api_Thread_api_Thread (G : Globs) (l : List Thread) (k : FuncId) (fs caps : List IV) (p : Thread → Bool) (hrun : ∀ (vs : Array Value) (W : World), (callFunc k vs).run Tryz.prog W = .ok (.enter k vs) W) (hp : ∀ a, a ∈ l → ACall Tryz.prog G k (fs.map .im ++ [threadV a] ++ caps.map .im) [] (fun r L' => r = boolv (p a) ∧ L' = [])) : ACall Tryz.prog G 27 [.im (threads l), .im (.fn k fs caps)] [] (fun r L' => r = boolv (l.any p) ∧ L' = []) := by
  refine ACall.enter Tryz.func27 rfl Tryz.ntmps27 (by rw [Tryz.results27]) (Nat.le_of_ble_eq_true rfl) rfl ?_
  -- REGION 0
  (repeat refine AWp.seq ?_); refine AWp.region ?_
  refine rn 1 ?_
  refine AL.nil ?_; simp only [thenQ, inQ]
  -- REGION 1
  (repeat refine AWp.seq ?_); refine AWp.region ?_
  refine rn 2 ?_
  refine rcall Tryz.call40 (hC := c_slices_IndexFunc_api_Thread_api_Thread G l k fs caps p hrun hp) (kk := ?_); simp only [Av.put]
  refine rn 2 ?_
  refine AL.nil ?_; simp only [thenQ, inQ]
  refine AWp.ret ?_; (try simp only [inQ, thenQ]); refine rret 0 ?_
  refine ⟨?_, rfl⟩; rw [← idxGo_any p l 0]; rfl

theorem c_hand_All (G : Globs) (c : Col) (l : List Thread) : ACall Tryz.prog G 9 [colV c, .im (threads l)] [] (fun r L' => r = boolv (allAns c l) ∧ L' = []) := by
  refine ACall.enter Tryz.func9 rfl Tryz.ntmps9 (by rw [Tryz.results9]) (Nat.le_of_ble_eq_true rfl) rfl ?_
  -- REGION 0
  (repeat refine AWp.seq ?_); refine AWp.region ?_
  refine rn 2 ?_
  refine AL.nil ?_; simp only [thenQ, inQ]
  refine AWp.freezeV 0 (cs := colI c) rfl ?_; simp only [frvT, frvB, SV.frv, frvL, Blk.frv, List.map_cons, List.map_nil, reduceIte, Nat.reduceEqDiff]
  (repeat refine AWp.seq ?_); refine AWp.region ?_
  refine rn 2 ?_
  refine rcall Tryz.call27 (hC := c_slices_ContainsFunc_api_Thread_api_Thread G l 28 [] [.pt (colI c) 0] (fun t => and t.live (!answered c t)) Tryz.call28 (fun t _ => c_hand_All_1 G c t)) (kk := ?_); simp only [Av.put]
  refine rn 2 ?_
  refine AL.nil ?_; simp only [thenQ, inQ]
  refine AWp.ret ?_; (try simp only [inQ, thenQ]); refine rret 0 ?_
  refine ⟨?_, rfl⟩; simp only [pack]; rw [allAns_any]

theorem c_hand_Begin_1 (G : Globs) (t : Thread) : ACall Tryz.prog G 41 [threadV t] [] (fun r L' => r = boolv t.live ∧ L' = []) := by
  refine ACall.enter Tryz.func41 rfl Tryz.ntmps41 (by rw [Tryz.results41]) (Nat.le_of_ble_eq_true rfl) rfl ?_
  -- REGION 0
  (repeat refine AWp.seq ?_); refine AWp.region ?_
  refine rn 2 ?_
  refine AL.nil ?_; simp only [thenQ, inQ]
  -- REGION 1
  (repeat refine AWp.seq ?_); refine AWp.region ?_
  refine rn 3 ?_
  refine AL.nil ?_; simp only [thenQ, inQ]
  refine AWp.ret ?_; (try simp only [inQ, thenQ]); refine rret 0 ?_
  exact ⟨rfl, rfl⟩

end Go.Proofs
end

section
set_option linter.unusedSimpArgs false
set_option maxRecDepth 20000
set_option maxHeartbeats 1000000
namespace Go.Proofs
open Go Av Rp
theorem c_ragpickerref01_Ints (G : Globs) (a b : List Int) : ACall Tryz.prog G 31 [.im (ints a), .im (ints b)] [] (fun r L' => r = boolv (decide (a = b)) ∧ L' = []) := by
  refine ACall.enter Tryz.func31 rfl Tryz.ntmps31 (by rw [Tryz.results31]) (Nat.le_of_ble_eq_true rfl) rfl ?_
  refine AWp.big 0 rfl (fun hbig => ?_); replace hbig : a.length ≤ 274877906944 := by simpa [bigN] using hbig
  (repeat refine AWp.seq ?_); refine AWp.region ?_
  refine rn 1 ?_
  refine AL.nil ?_; simp only [thenQ, inQ]
  -- REGION 1
  (repeat refine AWp.seq ?_); refine AWp.region ?_
  refine rn 4 ?_
  refine rn 1 ?_
  refine AL.nil ?_; simp only [thenQ, inQ]
  (repeat refine AWp.seq ?_)
  refine rc (fun hb => ?_) (fun hb => ?_)
  · skip
    -- REGION 2
    (repeat refine AWp.seq ?_); refine AWp.region ?_
    refine rn 1 ?_
    refine AL.nil ?_; simp only [thenQ, inQ]
    refine AWp.ret ?_; (try simp only [inQ, thenQ]); refine rret 0 ?_
    refine ⟨?_, rfl⟩; simp only [pack]; first | (rw [eql_len (by assumption)]; done) | (rw [eql_ne h2 hx hy (by simpa using hb)]; done) | (rw [eql_end h2 (by simp at hb; omega) (by simp at hb; omega)]; done)
  · skip
    (repeat refine AWp.seq ?_)
    refine AWp.skip ?_
    (try simp only [inQ, thenQ])
    have hl := eql_len' (a := a) (b := b) (by assumption)
    (repeat refine AWp.seq ?_); refine AWp.region ?_
    refine rn 1 ?_
    refine AL.nil ?_; simp only [thenQ, inQ]
    (repeat refine AWp.seq ?_)
    refine AWp.block ?_
    (repeat refine AWp.seq ?_)
    refine AWp.loopS (σ := Nat) (fun i => i ≤ a.length ∧ decide (a = b) = decide (a.drop i = b.drop i)) (fun i => a.length - i) (fun i => [(5, intv i), (0, .im (ints a)), (1, .im (ints b))]) (fun _ => []) 0 ⟨⟨Nat.zero_le _, rfl⟩, (by simp only [engA, engL, engT, reduceIte, reduceCtorEq, Nat.reduceLT, Nat.reduceLeDiff, Nat.reduceAdd, Nat.reduceSub, Nat.reduceMul, Nat.reduceEqDiff, Nat.reduceBneDiff, Nat.le_refl, Bool.false_eq_true, Int.reduceLT, Int.reduceLE, Int.reduceAdd, Int.reduceSub, Int.reduceMul, Int.reduceToNat, Int.reduceEq, Int.cast_ofNat_Int, Int.reduceNeg, eq_self, and_self]), rfl⟩ ?_
    rintro i ⟨h1, h2⟩
    -- REGION 4
    (repeat refine AWp.seq ?_); refine AWp.region ?_
    refine rn 4 ?_
    refine AL.nil ?_; simp only [thenQ, inQ]
    (repeat refine AWp.seq ?_)
    refine rc (fun hb => ?_) (fun hb => ?_)
    · skip
      (repeat refine AWp.seq ?_)
      refine AWp.skip ?_
      (try simp only [inQ, thenQ])
      (repeat refine AWp.seq ?_)
      refine AWp.block ?_
      have hlt : i < a.length := (by simp at hb; omega); obtain ⟨x, hx⟩ : ∃ x, a[i]? = some x := ⟨_, List.getElem?_eq_getElem hlt⟩; obtain ⟨y, hy⟩ : ∃ y, b[i]? = some y := ⟨_, List.getElem?_eq_getElem (by omega)⟩; have hc : (0 ≤ (i : Int) ∧ (i : Int) < (a.length : Int)) = True := (by simp; omega); have hc2 : (0 ≤ (i : Int) ∧ (i : Int) < (b.length : Int)) = True := (by simp; omega); have hw : IntKind.i64.wrap ((i : Int) + 1) = ((i + 1 : Nat) : Int) := (by rw [wrap_id _ (by omega) (by omega)]; omega) 
      (repeat refine AWp.seq ?_); refine rdraws [.flo 0 0, .flo 0 0, .flo 0 0, .flo 0 0, .flo 0 0, .flo 0 0, .flo 0 0, .flo 0 0, .flo 0 0] 0 [] mixed ?_ (h0 := by simp only [trun, oev, lk, chkAll, chkFrom, tS, undefS, List.getD_cons_zero, List.getD_cons_succ, if_true, hc, hc2, hx, hy, Int.toNat_natCast, List.getElem?_map, Nat.mul_one, Nat.div_one, Nat.mod_one, engA, engL, engT, reduceIte, reduceCtorEq, Nat.reduceLT, Nat.reduceLeDiff, Nat.reduceAdd, Nat.reduceSub, Nat.reduceMul, Nat.reduceEqDiff, Nat.reduceBneDiff, Nat.le_refl, Bool.false_eq_true, Int.reduceLT, Int.reduceLE, Int.reduceAdd, Int.reduceSub, Int.reduceMul, Int.reduceToNat, Int.reduceEq, Int.cast_ofNat_Int, Int.reduceNeg] <;> rfl) (hc := by simp only [trun, oev, lk, chkAll, chkFrom, tS, undefS, List.getD_cons_zero, List.getD_cons_succ, if_true, hc, hc2, hx, hy, Int.toNat_natCast, List.getElem?_map, Nat.mul_one, Nat.div_one, Nat.mod_one, engA, engL, engT, reduceIte, reduceCtorEq, Nat.reduceLT, Nat.reduceLeDiff, Nat.reduceAdd, Nat.reduceSub, Nat.reduceMul, Nat.reduceEqDiff, Nat.reduceBneDiff, Nat.le_refl, Bool.false_eq_true, Int.reduceLT, Int.reduceLE, Int.reduceAdd, Int.reduceSub, Int.reduceMul, Int.reduceToNat, Int.reduceEq, Int.cast_ofNat_Int, Int.reduceNeg]); refine ⟨trivial, ?_⟩; simp only [thenQ, inQ, tS, List.getD_cons_zero, List.getD_cons_succ, if_true]
      (repeat refine AWp.seq ?_)
      refine rc (fun hb => ?_) (fun hb => ?_)
      · skip
        -- REGION 7
        (repeat refine AWp.seq ?_); refine AWp.region ?_
        refine rn 1 ?_
        refine AL.nil ?_; simp only [thenQ, inQ]
        refine AWp.ret ?_; (try simp only [inQ, thenQ]); refine rret 0 ?_
        refine ⟨?_, rfl⟩; simp only [pack]; first | (rw [eql_len (by assumption)]; done) | (rw [eql_ne h2 hx hy (by simpa using hb)]; done) | (rw [eql_end h2 (by simp at hb; omega) (by simp at hb; omega)]; done)
      · skip
        (repeat refine AWp.seq ?_)
        refine AWp.skip ?_
        (try simp only [inQ, thenQ])
        -- REGION 5
        (repeat refine AWp.seq ?_); refine AWp.region ?_
        refine rn 3 (k := ?_) (h := by simp (maxSteps := 3000000) only [hw, engA, engL, engT, reduceIte, reduceCtorEq, Nat.reduceLT, Nat.reduceLeDiff, Nat.reduceAdd, Nat.reduceSub, Nat.reduceMul, Nat.reduceEqDiff, Nat.reduceBneDiff, Nat.le_refl, Bool.false_eq_true, Int.reduceLT, Int.reduceLE, Int.reduceAdd, Int.reduceSub, Int.reduceMul, Int.reduceToNat, Int.reduceEq, Int.cast_ofNat_Int, Int.reduceNeg] <;> rfl)
        refine AL.nil ?_; simp only [thenQ, inQ]
        (try simp only [inQ, thenQ])
        exact ⟨i + 1, ⟨hlt, eql_step h2 hx hy (by simpa using hb)⟩, by omega, (by simp only [engA, engL, engT, reduceIte, reduceCtorEq, Nat.reduceLT, Nat.reduceLeDiff, Nat.reduceAdd, Nat.reduceSub, Nat.reduceMul, Nat.reduceEqDiff, Nat.reduceBneDiff, Nat.le_refl, Bool.false_eq_true, Int.reduceLT, Int.reduceLE, Int.reduceAdd, Int.reduceSub, Int.reduceMul, Int.reduceToNat, Int.reduceEq, Int.cast_ofNat_Int, Int.reduceNeg, eq_self, and_self]), by first | rfl | trivial⟩
    · skip
      refine AWp.exit ?_
      simp only [inQ, thenQ, reduceIte, Nat.reduceEqDiff]
      -- REGION 8
      (repeat refine AWp.seq ?_); refine AWp.region ?_
      refine rn 1 ?_
      refine AL.nil ?_; simp only [thenQ, inQ]
      refine AWp.ret ?_; (try simp only [inQ, thenQ]); refine rret 0 ?_
      refine ⟨?_, rfl⟩; simp only [pack]; first | (rw [eql_len (by assumption)]; done) | (rw [eql_ne h2 hx hy (by simpa using hb)]; done) | (rw [eql_end h2 (by simp at hb; omega) (by simp at hb; omega)]; done)

theorem c_ragpickerref04_Same (G : Globs) (a b : List Page) : ACall Tryz.prog G 32 [.im (pages a), .im (pages b)] [] (fun r L' => r = boolv (decide (a = b)) ∧ L' = []) := by
  refine ACall.enter Tryz.func32 rfl Tryz.ntmps32 (by rw [Tryz.results32]) (Nat.le_of_ble_eq_true rfl) rfl ?_
  refine AWp.big 0 rfl (fun hbig => ?_); replace hbig : a.length ≤ 274877906944 := by simpa [bigN] using hbig
  (repeat refine AWp.seq ?_); refine AWp.region ?_
  refine rn 1 ?_
  refine AL.nil ?_; simp only [thenQ, inQ]
  -- REGION 1
  (repeat refine AWp.seq ?_); refine AWp.region ?_
  refine rn 4 ?_
  refine rn 1 ?_
  refine AL.nil ?_; simp only [thenQ, inQ]
  (repeat refine AWp.seq ?_)
  refine rc (fun hb => ?_) (fun hb => ?_)
  · skip
    -- REGION 2
    (repeat refine AWp.seq ?_); refine AWp.region ?_
    refine rn 1 ?_
    refine AL.nil ?_; simp only [thenQ, inQ]
    refine AWp.ret ?_; (try simp only [inQ, thenQ]); refine rret 0 ?_
    refine ⟨?_, rfl⟩; simp only [pack]; first | (rw [eql_len (by assumption)]; done) | (rw [eql_ne h2 hx hy (by simpa using hb)]; done) | (rw [eql_end h2 (by simp at hb; omega) (by simp at hb; omega)]; done)
  · skip
    (repeat refine AWp.seq ?_)
    refine AWp.skip ?_
    (try simp only [inQ, thenQ])
    have hl := eql_len' (a := a) (b := b) (by assumption)
    (repeat refine AWp.seq ?_); refine AWp.region ?_
    refine rn 1 ?_
    refine AL.nil ?_; simp only [thenQ, inQ]
    (repeat refine AWp.seq ?_)
    refine AWp.block ?_
    (repeat refine AWp.seq ?_)
    refine AWp.loopS (σ := Nat) (fun i => i ≤ a.length ∧ decide (a = b) = decide (a.drop i = b.drop i)) (fun i => a.length - i) (fun i => [(5, intv i), (0, .im (pages a)), (1, .im (pages b))]) (fun _ => []) 0 ⟨⟨Nat.zero_le _, rfl⟩, (by simp only [engA, engL, engT, reduceIte, reduceCtorEq, Nat.reduceLT, Nat.reduceLeDiff, Nat.reduceAdd, Nat.reduceSub, Nat.reduceMul, Nat.reduceEqDiff, Nat.reduceBneDiff, Nat.le_refl, Bool.false_eq_true, Int.reduceLT, Int.reduceLE, Int.reduceAdd, Int.reduceSub, Int.reduceMul, Int.reduceToNat, Int.reduceEq, Int.cast_ofNat_Int, Int.reduceNeg, eq_self, and_self]), rfl⟩ ?_
    rintro i ⟨h1, h2⟩
    -- REGION 4
    (repeat refine AWp.seq ?_); refine AWp.region ?_
    refine rn 4 ?_
    refine AL.nil ?_; simp only [thenQ, inQ]
    (repeat refine AWp.seq ?_)
    refine rc (fun hb => ?_) (fun hb => ?_)
    · skip
      (repeat refine AWp.seq ?_)
      refine AWp.skip ?_
      (try simp only [inQ, thenQ])
      (repeat refine AWp.seq ?_)
      refine AWp.block ?_
      have hlt : i < a.length := (by simp at hb; omega); obtain ⟨x, hx⟩ : ∃ x, a[i]? = some x := ⟨_, List.getElem?_eq_getElem hlt⟩; obtain ⟨y, hy⟩ : ∃ y, b[i]? = some y := ⟨_, List.getElem?_eq_getElem (by omega)⟩; have hc : (0 ≤ (i : Int) ∧ (i : Int) < (a.length : Int)) = True := (by simp; omega); have hc2 : (0 ≤ (i : Int) ∧ (i : Int) < (b.length : Int)) = True := (by simp; omega); have hw : IntKind.i64.wrap ((i : Int) + 1) = ((i + 1 : Nat) : Int) := (by rw [wrap_id _ (by omega) (by omega)]; omega) 
      (repeat refine AWp.seq ?_); refine rdrawsO [.flo 0 0, .flo 0 0, .flo 0 0, .flo 0 0, .flo 0 0, .flo 0 0, .flo 0 0, .flo 0 0, .flo 0 0] 0 [(8, boolv (!decide (x = y)))] mixed ?_ (h0 := by simp only [trun, oev, lk, chkAll, chkFrom, tS, undefS, List.getD_cons_zero, List.getD_cons_succ, if_true, hc, hc2, hx, hy, Int.toNat_natCast, List.getElem?_map, Nat.mul_div_cancel _ Nat.zero_lt_two, Nat.mul_mod_left, engA, engL, engT, reduceIte, reduceCtorEq, Nat.reduceLT, Nat.reduceLeDiff, Nat.reduceAdd, Nat.reduceSub, Nat.reduceMul, Nat.reduceEqDiff, Nat.reduceBneDiff, Nat.le_refl, Bool.false_eq_true, Int.reduceLT, Int.reduceLE, Int.reduceAdd, Int.reduceSub, Int.reduceMul, Int.reduceToNat, Int.reduceEq, Int.cast_ofNat_Int, Int.reduceNeg] <;> rfl) (hc := by simp only [trun, oev, lk, chkAll, chkFrom, tS, undefS, List.getD_cons_zero, List.getD_cons_succ, if_true, hc, hc2, hx, hy, Int.toNat_natCast, List.getElem?_map, Nat.mul_div_cancel _ Nat.zero_lt_two, Nat.mul_mod_left, engA, engL, engT, reduceIte, reduceCtorEq, Nat.reduceLT, Nat.reduceLeDiff, Nat.reduceAdd, Nat.reduceSub, Nat.reduceMul, Nat.reduceEqDiff, Nat.reduceBneDiff, Nat.le_refl, Bool.false_eq_true, Int.reduceLT, Int.reduceLE, Int.reduceAdd, Int.reduceSub, Int.reduceMul, Int.reduceToNat, Int.reduceEq, Int.cast_ofNat_Int, Int.reduceNeg]); refine ⟨⟨reqo (fun W => eqPage _ _ _ _ W) (hz := by rw [if_neg (by decide), page_ne]), trivial⟩, ?_⟩; simp only [thenQ, inQ, tS, List.getD_cons_zero, List.getD_cons_succ, if_true]
      (repeat refine AWp.seq ?_)
      refine rc (fun hb => ?_) (fun hb => ?_)
      · skip
        -- REGION 7
        (repeat refine AWp.seq ?_); refine AWp.region ?_
        refine rn 1 ?_
        refine AL.nil ?_; simp only [thenQ, inQ]
        refine AWp.ret ?_; (try simp only [inQ, thenQ]); refine rret 0 ?_
        refine ⟨?_, rfl⟩; simp only [pack]; first | (rw [eql_len (by assumption)]; done) | (rw [eql_ne h2 hx hy (by simpa using hb)]; done) | (rw [eql_end h2 (by simp at hb; omega) (by simp at hb; omega)]; done)
      · skip
        (repeat refine AWp.seq ?_)
        refine AWp.skip ?_
        (try simp only [inQ, thenQ])
        -- REGION 5
        (repeat refine AWp.seq ?_); refine AWp.region ?_
        refine rn 3 (k := ?_) (h := by simp (maxSteps := 3000000) only [hw, engA, engL, engT, reduceIte, reduceCtorEq, Nat.reduceLT, Nat.reduceLeDiff, Nat.reduceAdd, Nat.reduceSub, Nat.reduceMul, Nat.reduceEqDiff, Nat.reduceBneDiff, Nat.le_refl, Bool.false_eq_true, Int.reduceLT, Int.reduceLE, Int.reduceAdd, Int.reduceSub, Int.reduceMul, Int.reduceToNat, Int.reduceEq, Int.cast_ofNat_Int, Int.reduceNeg] <;> rfl)
        refine AL.nil ?_; simp only [thenQ, inQ]
        (try simp only [inQ, thenQ])
        exact ⟨i + 1, ⟨hlt, eql_step h2 hx hy (by simpa using hb)⟩, by omega, (by simp only [engA, engL, engT, reduceIte, reduceCtorEq, Nat.reduceLT, Nat.reduceLeDiff, Nat.reduceAdd, Nat.reduceSub, Nat.reduceMul, Nat.reduceEqDiff, Nat.reduceBneDiff, Nat.le_refl, Bool.false_eq_true, Int.reduceLT, Int.reduceLE, Int.reduceAdd, Int.reduceSub, Int.reduceMul, Int.reduceToNat, Int.reduceEq, Int.cast_ofNat_Int, Int.reduceNeg, eq_self, and_self]), by first | rfl | trivial⟩
    · skip
      refine AWp.exit ?_
      simp only [inQ, thenQ, reduceIte, Nat.reduceEqDiff]
      -- REGION 8
      (repeat refine AWp.seq ?_); refine AWp.region ?_
      refine rn 1 ?_
      refine AL.nil ?_; simp only [thenQ, inQ]
      refine AWp.ret ?_; (try simp only [inQ, thenQ]); refine rret 0 ?_
      refine ⟨?_, rfl⟩; simp only [pack]; first | (rw [eql_len (by assumption)]; done) | (rw [eql_ne h2 hx hy (by simpa using hb)]; done) | (rw [eql_end h2 (by simp at hb; omega) (by simp at hb; omega)]; done)

end Go.Proofs
end
