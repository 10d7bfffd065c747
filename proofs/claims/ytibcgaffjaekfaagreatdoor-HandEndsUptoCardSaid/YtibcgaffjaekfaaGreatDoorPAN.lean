/- Part 14 of 22 of a proof: own engine, contracts and facts. -/
import Derived.Test.YtibcgaffjaekfaaGreatDoorPAJ
import Derived.Test.YtibcgaffjaekfaaGreatDoorPAK
import Derived.Test.YtibcgaffjaekfaaGreatDoorPAL
import Derived.Test.YtibcgaffjaekfaaGreatDoorPAM
set_option linter.all false
section
set_option linter.unusedSimpArgs false
set_option maxRecDepth 20000
set_option maxHeartbeats 1000000
namespace Go.Proofs
open Go Av Rp
theorem c_pages_May (G : Globs) (l : List Page) : ACall Tryz.prog G 94 [.im (pages l)] [] (fun r L' => r = boolv (pagesMay l) ∧ L' = []) := by
  refine ACall.enter Tryz.func94 rfl Tryz.ntmps94 (by rw [Tryz.results94]) (Nat.le_of_ble_eq_true rfl) rfl ?_
  refine AWp.big 0 rfl (fun hbig => ?_); replace hbig : l.length ≤ 274877906944 := by simpa [bigN] using hbig
  (repeat refine AWp.seq ?_); refine AWp.region ?_
  refine rn 1 ?_
  refine AL.nil ?_; simp only [thenQ, inQ]
  -- REGION 1
  (repeat refine AWp.seq ?_); refine AWp.region ?_
  refine rn 1 ?_
  refine AL.nil ?_; simp only [thenQ, inQ]
  -- REGION 2
  (repeat refine AWp.seq ?_); refine AWp.region ?_
  refine rn 3 ?_
  refine AL.nil ?_; simp only [thenQ, inQ]
  (repeat refine AWp.seq ?_)
  refine AWp.block ?_
  (repeat refine AWp.seq ?_)
  refine AWp.loopC (σ := Nat × Int) (fun s => s.1 ≤ l.length ∧ pagesGo s.2 (l.drop s.1) = pagesGo 0 l ∧ 0 ≤ s.2 ∧ s.2 ≤ 3) (fun s => l.length - s.1) (fun s => [(8, intv s.1), (3, intv s.2), (6, .im (pages l)), (7, intv l.length), (0, .im (pages l))]) (fun _ => []) (0, 0) 0 (Nat.le_refl _) (Nat.le_refl _) (fun _ => rfl) (fun _ => rfl) ⟨⟨Nat.zero_le _, rfl, Int.le_refl _, by decide⟩, (by simp only [engA, engL, engT, reduceIte, reduceCtorEq, Nat.reduceLT, Nat.reduceLeDiff, Nat.reduceAdd, Nat.reduceSub, Nat.reduceMul, Nat.reduceEqDiff, Nat.reduceBneDiff, Nat.le_refl, Bool.false_eq_true, Int.reduceLT, Int.reduceLE, Int.reduceAdd, Int.reduceSub, Int.reduceMul, Int.reduceToNat, Int.reduceEq, Int.cast_ofNat_Int, Int.reduceNeg, eq_self, and_self]), rfl⟩ ?_
  rintro ⟨i, r⟩ ⟨h1, h2, h3, h4⟩
  simp only at h1 h2 h3 h4 ⊢
  -- REGION 3
  (repeat refine AWp.seq ?_); refine AWp.region ?_
  refine rn 1 ?_
  refine AL.nil ?_; simp only [thenQ, inQ]
  (repeat refine AWp.seq ?_)
  refine rc (fun hb => ?_) (fun hb => ?_)
  · skip
    (repeat refine AWp.seq ?_)
    refine AWp.skip ?_
    (try simp only [inQ, thenQ])
    (repeat refine AWp.seq ?_)
    refine AWp.block ?_
    have hlt : i < l.length := (by simp at hb; omega); obtain ⟨p, hx⟩ : ∃ p, l[i]? = some p := ⟨_, List.getElem?_eq_getElem hlt⟩; have hc : (0 ≤ (i : Int) ∧ (i : Int) < (l.length : Int)) = True := (by simp; omega); have hw : IntKind.i64.wrap ((i : Int) + 1) = ((i + 1 : Nat) : Int) := (by rw [wrap_id _ (by omega) (by omega)]; omega)
    (repeat refine AWp.seq ?_); refine AWp.region ?_
    refine rn 4 (k := ?_) (h := by simp (maxSteps := 3000000) only [hc, hx, Int.toNat_natCast, List.getElem?_map, List.length_map, Nat.mul_div_cancel _ Nat.zero_lt_two, Nat.mul_mod_left, engA, engL, engT, reduceIte, reduceCtorEq, Nat.reduceLT, Nat.reduceLeDiff, Nat.reduceAdd, Nat.reduceSub, Nat.reduceMul, Nat.reduceEqDiff, Nat.reduceBneDiff, Nat.le_refl, Bool.false_eq_true, Int.reduceLT, Int.reduceLE, Int.reduceAdd, Int.reduceSub, Int.reduceMul, Int.reduceToNat, Int.reduceEq, Int.cast_ofNat_Int, Int.reduceNeg] <;> rfl)
    refine AL.nil ?_; simp only [thenQ, inQ]
    -- REGION 5
    (repeat refine AWp.seq ?_); refine AWp.region ?_
    refine rn 2 ?_
    refine AL.nil ?_; simp only [thenQ, inQ]
    (repeat refine AWp.seq ?_)
    refine AWp.block ?_
    -- REGION 7
    (repeat refine AWp.seq ?_); refine AWp.region ?_
    refine rn 2 ?_
    refine AL.nil ?_; simp only [thenQ, inQ]
    (repeat refine AWp.seq ?_)
    refine rc (fun hb => ?_) (fun hb => ?_)
    · skip
      -- REGION 8
      (repeat refine AWp.seq ?_); refine AWp.region ?_
      refine rn 3 ?_
      refine rsp 18 (fun hb => ?_) (fun hb => ?_)
      · skip
        refine rn 4 ?_
        refine AL.nil ?_; simp only [thenQ, inQ]
        (repeat refine AWp.seq ?_)
        refine rc (t := true) (fun hb => ?_) (fun hb => by cases hb)
        -- REGION 9
        (repeat refine AWp.seq ?_); refine AWp.region ?_
        refine rn 1 ?_
        refine AL.nil ?_; simp only [thenQ, inQ]
        refine AWp.ret ?_; (try simp only [inQ, thenQ]); refine rret 0 ?_
        refine ⟨?_, rfl⟩; simp only [pack]; first | (rw [pm_none h2 hx]; simp_all [pageStep, inL] <;> omega) | (rw [pm_end h2 (by simp_all)]; simp_all; done)
      · skip
        refine rn 4 ?_
        refine AL.nil ?_; simp only [thenQ, inQ]
        (repeat refine AWp.seq ?_)
        refine rc (fun hb => ?_) (fun hb => ?_)
        · skip
          -- REGION 9
          (repeat refine AWp.seq ?_); refine AWp.region ?_
          refine rn 1 ?_
          refine AL.nil ?_; simp only [thenQ, inQ]
          refine AWp.ret ?_; (try simp only [inQ, thenQ]); refine rret 0 ?_
          refine ⟨?_, rfl⟩; simp only [pack]; first | (rw [pm_none h2 hx]; simp_all [pageStep, inL] <;> omega) | (rw [pm_end h2 (by simp_all)]; simp_all; done)
        · skip
          (repeat refine AWp.seq ?_)
          refine AWp.skip ?_
          (try simp only [inQ, thenQ])
          have hw2 : IntKind.i64.wrap (r - 1) = r - 1 := wrap_id _ (by omega) (by omega)
          (repeat refine AWp.seq ?_); refine AWp.region ?_
          refine rn 3 (k := ?_) (h := by simp (maxSteps := 3000000) only [hw2, engA, engL, engT, reduceIte, reduceCtorEq, Nat.reduceLT, Nat.reduceLeDiff, Nat.reduceAdd, Nat.reduceSub, Nat.reduceMul, Nat.reduceEqDiff, Nat.reduceBneDiff, Nat.le_refl, Bool.false_eq_true, Int.reduceLT, Int.reduceLE, Int.reduceAdd, Int.reduceSub, Int.reduceMul, Int.reduceToNat, Int.reduceEq, Int.cast_ofNat_Int, Int.reduceNeg] <;> rfl)
          refine AL.nil ?_; simp only [thenQ, inQ]
          refine AWp.exit ?_
          simp only [inQ, thenQ, reduceIte, Nat.reduceEqDiff]
          -- REGION 24
          (repeat refine AWp.seq ?_); refine AWp.region ?_
          refine rn 2 (k := ?_) (h := by simp (maxSteps := 3000000) only [hw, engA, engL, engT, reduceIte, reduceCtorEq, Nat.reduceLT, Nat.reduceLeDiff, Nat.reduceAdd, Nat.reduceSub, Nat.reduceMul, Nat.reduceEqDiff, Nat.reduceBneDiff, Nat.le_refl, Bool.false_eq_true, Int.reduceLT, Int.reduceLE, Int.reduceAdd, Int.reduceSub, Int.reduceMul, Int.reduceToNat, Int.reduceEq, Int.cast_ofNat_Int, Int.reduceNeg] <;> rfl)
          refine AL.nil ?_; simp only [thenQ, inQ]
          (try simp only [inQ, thenQ])
          first | (refine ⟨(i + 1, r), ?inv, ?mu, ?sub, rfl, rfl⟩; (case sub => simp only [engA, engL, engT, reduceIte, reduceCtorEq, Nat.reduceLT, Nat.reduceLeDiff, Nat.reduceAdd, Nat.reduceSub, Nat.reduceMul, Nat.reduceEqDiff, Nat.reduceBneDiff, Nat.le_refl, Bool.false_eq_true, Int.reduceLT, Int.reduceLE, Int.reduceAdd, Int.reduceSub, Int.reduceMul, Int.reduceToNat, Int.reduceEq, Int.cast_ofNat_Int, Int.reduceNeg, eq_self, and_self]); (case mu => simp only; omega); (case inv => refine ⟨by omega, pm_step h2 hx (by simp_all [pageStep, inL] <;> omega), by simp_all [inL] <;> omega, by simp_all [inL] <;> omega⟩)) | (refine ⟨(i + 1, r - 1), ?inv, ?mu, ?sub, rfl, rfl⟩; (case sub => simp only [engA, engL, engT, reduceIte, reduceCtorEq, Nat.reduceLT, Nat.reduceLeDiff, Nat.reduceAdd, Nat.reduceSub, Nat.reduceMul, Nat.reduceEqDiff, Nat.reduceBneDiff, Nat.le_refl, Bool.false_eq_true, Int.reduceLT, Int.reduceLE, Int.reduceAdd, Int.reduceSub, Int.reduceMul, Int.reduceToNat, Int.reduceEq, Int.cast_ofNat_Int, Int.reduceNeg, eq_self, and_self]); (case mu => simp only; omega); (case inv => refine ⟨by omega, pm_step h2 hx (by simp_all [pageStep, inL] <;> omega), by simp_all [inL] <;> omega, by simp_all [inL] <;> omega⟩)) | (refine ⟨(i + 1, p.arg - 1), ?inv, ?mu, ?sub, rfl, rfl⟩; (case sub => simp only [engA, engL, engT, reduceIte, reduceCtorEq, Nat.reduceLT, Nat.reduceLeDiff, Nat.reduceAdd, Nat.reduceSub, Nat.reduceMul, Nat.reduceEqDiff, Nat.reduceBneDiff, Nat.le_refl, Bool.false_eq_true, Int.reduceLT, Int.reduceLE, Int.reduceAdd, Int.reduceSub, Int.reduceMul, Int.reduceToNat, Int.reduceEq, Int.cast_ofNat_Int, Int.reduceNeg, eq_self, and_self]); (case mu => simp only; omega); (case inv => refine ⟨by omega, pm_step h2 hx (by simp_all [pageStep, inL] <;> omega), by simp_all [inL] <;> omega, by simp_all [inL] <;> omega⟩))
    · skip
      -- REGION 11
      (repeat refine AWp.seq ?_); refine AWp.region ?_
      refine rn 2 ?_
      refine AL.nil ?_; simp only [thenQ, inQ]
      (repeat refine AWp.seq ?_)
      refine rc (fun hb => ?_) (fun hb => ?_)
      · skip
        -- REGION 12
        (repeat refine AWp.seq ?_); refine AWp.region ?_
        refine rn 3 ?_
        refine AL.nil ?_; simp only [thenQ, inQ]
        (repeat refine AWp.seq ?_)
        refine rc (fun hb => ?_) (fun hb => ?_)
        · skip
          -- REGION 13
          (repeat refine AWp.seq ?_); refine AWp.region ?_
          refine rn 1 ?_
          refine AL.nil ?_; simp only [thenQ, inQ]
          refine AWp.ret ?_; (try simp only [inQ, thenQ]); refine rret 0 ?_
          refine ⟨?_, rfl⟩; simp only [pack]; first | (rw [pm_none h2 hx]; simp_all [pageStep, inL] <;> omega) | (rw [pm_end h2 (by simp_all)]; simp_all; done)
        · skip
          (repeat refine AWp.seq ?_)
          refine AWp.skip ?_
          (try simp only [inQ, thenQ])
          -- REGION 20
          (repeat refine AWp.seq ?_); refine AWp.region ?_
          refine rn 2 ?_
          refine AL.nil ?_; simp only [thenQ, inQ]
          (repeat refine AWp.seq ?_)
          refine rc (fun hb => ?_) (fun hb => ?_)
          · skip
            -- REGION 21
            (repeat refine AWp.seq ?_); refine AWp.region ?_
            refine rn 1 ?_
            refine AL.nil ?_; simp only [thenQ, inQ]
            refine AWp.ret ?_; (try simp only [inQ, thenQ]); refine rret 0 ?_
            refine ⟨?_, rfl⟩; simp only [pack]; first | (rw [pm_none h2 hx]; simp_all [pageStep, inL] <;> omega) | (rw [pm_end h2 (by simp_all)]; simp_all; done)
          · skip
            (repeat refine AWp.seq ?_)
            refine AWp.skip ?_
            (try simp only [inQ, thenQ])
            -- REGION 22
            (repeat refine AWp.seq ?_); refine AWp.region ?_
            refine rn 3 ?_
            refine AL.nil ?_; simp only [thenQ, inQ]
            (repeat refine AWp.seq ?_)
            refine rc (fun hb => ?_) (fun hb => ?_)
            · skip
              have hw3 : IntKind.i64.wrap (p.arg - 1) = p.arg - 1 := wrap_id _ (by simp_all [inL] <;> omega) (by simp_all [inL] <;> omega)
              (repeat refine AWp.seq ?_); refine AWp.region ?_
              refine rn 4 (k := ?_) (h := by simp (maxSteps := 3000000) only [hw3, engA, engL, engT, reduceIte, reduceCtorEq, Nat.reduceLT, Nat.reduceLeDiff, Nat.reduceAdd, Nat.reduceSub, Nat.reduceMul, Nat.reduceEqDiff, Nat.reduceBneDiff, Nat.le_refl, Bool.false_eq_true, Int.reduceLT, Int.reduceLE, Int.reduceAdd, Int.reduceSub, Int.reduceMul, Int.reduceToNat, Int.reduceEq, Int.cast_ofNat_Int, Int.reduceNeg] <;> rfl)
              refine AL.nil ?_; simp only [thenQ, inQ]
              -- REGION 24
              (repeat refine AWp.seq ?_); refine AWp.region ?_
              refine rn 2 (k := ?_) (h := by simp (maxSteps := 3000000) only [hw, engA, engL, engT, reduceIte, reduceCtorEq, Nat.reduceLT, Nat.reduceLeDiff, Nat.reduceAdd, Nat.reduceSub, Nat.reduceMul, Nat.reduceEqDiff, Nat.reduceBneDiff, Nat.le_refl, Bool.false_eq_true, Int.reduceLT, Int.reduceLE, Int.reduceAdd, Int.reduceSub, Int.reduceMul, Int.reduceToNat, Int.reduceEq, Int.cast_ofNat_Int, Int.reduceNeg] <;> rfl)
              refine AL.nil ?_; simp only [thenQ, inQ]
              (try simp only [inQ, thenQ])
              first | (refine ⟨(i + 1, r), ?inv, ?mu, ?sub, rfl, rfl⟩; (case sub => simp only [engA, engL, engT, reduceIte, reduceCtorEq, Nat.reduceLT, Nat.reduceLeDiff, Nat.reduceAdd, Nat.reduceSub, Nat.reduceMul, Nat.reduceEqDiff, Nat.reduceBneDiff, Nat.le_refl, Bool.false_eq_true, Int.reduceLT, Int.reduceLE, Int.reduceAdd, Int.reduceSub, Int.reduceMul, Int.reduceToNat, Int.reduceEq, Int.cast_ofNat_Int, Int.reduceNeg, eq_self, and_self]); (case mu => simp only; omega); (case inv => refine ⟨by omega, pm_step h2 hx (by simp_all [pageStep, inL] <;> omega), by simp_all [inL] <;> omega, by simp_all [inL] <;> omega⟩)) | (refine ⟨(i + 1, r - 1), ?inv, ?mu, ?sub, rfl, rfl⟩; (case sub => simp only [engA, engL, engT, reduceIte, reduceCtorEq, Nat.reduceLT, Nat.reduceLeDiff, Nat.reduceAdd, Nat.reduceSub, Nat.reduceMul, Nat.reduceEqDiff, Nat.reduceBneDiff, Nat.le_refl, Bool.false_eq_true, Int.reduceLT, Int.reduceLE, Int.reduceAdd, Int.reduceSub, Int.reduceMul, Int.reduceToNat, Int.reduceEq, Int.cast_ofNat_Int, Int.reduceNeg, eq_self, and_self]); (case mu => simp only; omega); (case inv => refine ⟨by omega, pm_step h2 hx (by simp_all [pageStep, inL] <;> omega), by simp_all [inL] <;> omega, by simp_all [inL] <;> omega⟩)) | (refine ⟨(i + 1, p.arg - 1), ?inv, ?mu, ?sub, rfl, rfl⟩; (case sub => simp only [engA, engL, engT, reduceIte, reduceCtorEq, Nat.reduceLT, Nat.reduceLeDiff, Nat.reduceAdd, Nat.reduceSub, Nat.reduceMul, Nat.reduceEqDiff, Nat.reduceBneDiff, Nat.le_refl, Bool.false_eq_true, Int.reduceLT, Int.reduceLE, Int.reduceAdd, Int.reduceSub, Int.reduceMul, Int.reduceToNat, Int.reduceEq, Int.cast_ofNat_Int, Int.reduceNeg, eq_self, and_self]); (case mu => simp only; omega); (case inv => refine ⟨by omega, pm_step h2 hx (by simp_all [pageStep, inL] <;> omega), by simp_all [inL] <;> omega, by simp_all [inL] <;> omega⟩))
            · skip
              (repeat refine AWp.seq ?_)
              refine AWp.skip ?_
              (try simp only [inQ, thenQ])
              -- REGION 24
              (repeat refine AWp.seq ?_); refine AWp.region ?_
              refine rn 2 (k := ?_) (h := by simp (maxSteps := 3000000) only [hw, engA, engL, engT, reduceIte, reduceCtorEq, Nat.reduceLT, Nat.reduceLeDiff, Nat.reduceAdd, Nat.reduceSub, Nat.reduceMul, Nat.reduceEqDiff, Nat.reduceBneDiff, Nat.le_refl, Bool.false_eq_true, Int.reduceLT, Int.reduceLE, Int.reduceAdd, Int.reduceSub, Int.reduceMul, Int.reduceToNat, Int.reduceEq, Int.cast_ofNat_Int, Int.reduceNeg] <;> rfl)
              refine AL.nil ?_; simp only [thenQ, inQ]
              (try simp only [inQ, thenQ])
              first | (refine ⟨(i + 1, r), ?inv, ?mu, ?sub, rfl, rfl⟩; (case sub => simp only [engA, engL, engT, reduceIte, reduceCtorEq, Nat.reduceLT, Nat.reduceLeDiff, Nat.reduceAdd, Nat.reduceSub, Nat.reduceMul, Nat.reduceEqDiff, Nat.reduceBneDiff, Nat.le_refl, Bool.false_eq_true, Int.reduceLT, Int.reduceLE, Int.reduceAdd, Int.reduceSub, Int.reduceMul, Int.reduceToNat, Int.reduceEq, Int.cast_ofNat_Int, Int.reduceNeg, eq_self, and_self]); (case mu => simp only; omega); (case inv => refine ⟨by omega, pm_step h2 hx (by simp_all [pageStep, inL] <;> omega), by simp_all [inL] <;> omega, by simp_all [inL] <;> omega⟩)) | (refine ⟨(i + 1, r - 1), ?inv, ?mu, ?sub, rfl, rfl⟩; (case sub => simp only [engA, engL, engT, reduceIte, reduceCtorEq, Nat.reduceLT, Nat.reduceLeDiff, Nat.reduceAdd, Nat.reduceSub, Nat.reduceMul, Nat.reduceEqDiff, Nat.reduceBneDiff, Nat.le_refl, Bool.false_eq_true, Int.reduceLT, Int.reduceLE, Int.reduceAdd, Int.reduceSub, Int.reduceMul, Int.reduceToNat, Int.reduceEq, Int.cast_ofNat_Int, Int.reduceNeg, eq_self, and_self]); (case mu => simp only; omega); (case inv => refine ⟨by omega, pm_step h2 hx (by simp_all [pageStep, inL] <;> omega), by simp_all [inL] <;> omega, by simp_all [inL] <;> omega⟩)) | (refine ⟨(i + 1, p.arg - 1), ?inv, ?mu, ?sub, rfl, rfl⟩; (case sub => simp only [engA, engL, engT, reduceIte, reduceCtorEq, Nat.reduceLT, Nat.reduceLeDiff, Nat.reduceAdd, Nat.reduceSub, Nat.reduceMul, Nat.reduceEqDiff, Nat.reduceBneDiff, Nat.le_refl, Bool.false_eq_true, Int.reduceLT, Int.reduceLE, Int.reduceAdd, Int.reduceSub, Int.reduceMul, Int.reduceToNat, Int.reduceEq, Int.cast_ofNat_Int, Int.reduceNeg, eq_self, and_self]); (case mu => simp only; omega); (case inv => refine ⟨by omega, pm_step h2 hx (by simp_all [pageStep, inL] <;> omega), by simp_all [inL] <;> omega, by simp_all [inL] <;> omega⟩))
      · skip
        -- REGION 14
        (repeat refine AWp.seq ?_); refine AWp.region ?_
        refine rn 2 ?_
        refine AL.nil ?_; simp only [thenQ, inQ]
        (repeat refine AWp.seq ?_)
        refine rc (fun hb => ?_) (fun hb => ?_)
        · skip
          -- REGION 15
          (repeat refine AWp.seq ?_); refine AWp.region ?_
          refine rn 2 ?_
          refine rcall Tryz.call107 (hC := c_pages_in G _ _ _) (kk := ?_); simp only [Av.put]
          refine rn 1 ?_
          refine AL.nil ?_; simp only [thenQ, inQ]
          (repeat refine AWp.seq ?_)
          refine rc (fun hb => ?_) (fun hb => ?_)
          · skip
            -- REGION 16
            (repeat refine AWp.seq ?_); refine AWp.region ?_
            refine rn 1 ?_
            refine AL.nil ?_; simp only [thenQ, inQ]
            refine AWp.ret ?_; (try simp only [inQ, thenQ]); refine rret 0 ?_
            refine ⟨?_, rfl⟩; simp only [pack]; first | (rw [pm_none h2 hx]; simp_all [pageStep, inL] <;> omega) | (rw [pm_end h2 (by simp_all)]; simp_all; done)
          · skip
            (repeat refine AWp.seq ?_)
            refine AWp.skip ?_
            (try simp only [inQ, thenQ])
            -- REGION 20
            (repeat refine AWp.seq ?_); refine AWp.region ?_
            refine rn 2 ?_
            refine AL.nil ?_; simp only [thenQ, inQ]
            (repeat refine AWp.seq ?_)
            refine rc (fun hb => ?_) (fun hb => ?_)
            · skip
              -- REGION 21
              (repeat refine AWp.seq ?_); refine AWp.region ?_
              refine rn 1 ?_
              refine AL.nil ?_; simp only [thenQ, inQ]
              refine AWp.ret ?_; (try simp only [inQ, thenQ]); refine rret 0 ?_
              refine ⟨?_, rfl⟩; simp only [pack]; first | (rw [pm_none h2 hx]; simp_all [pageStep, inL] <;> omega) | (rw [pm_end h2 (by simp_all)]; simp_all; done)
            · skip
              (repeat refine AWp.seq ?_)
              refine AWp.skip ?_
              (try simp only [inQ, thenQ])
              -- REGION 22
              (repeat refine AWp.seq ?_); refine AWp.region ?_
              refine rn 3 ?_
              refine AL.nil ?_; simp only [thenQ, inQ]
              (repeat refine AWp.seq ?_)
              refine rc (fun hb => ?_) (fun hb => ?_)
              · skip
                have hw3 : IntKind.i64.wrap (p.arg - 1) = p.arg - 1 := wrap_id _ (by simp_all [inL] <;> omega) (by simp_all [inL] <;> omega)
                (repeat refine AWp.seq ?_); refine AWp.region ?_
                refine rn 4 (k := ?_) (h := by simp (maxSteps := 3000000) only [hw3, engA, engL, engT, reduceIte, reduceCtorEq, Nat.reduceLT, Nat.reduceLeDiff, Nat.reduceAdd, Nat.reduceSub, Nat.reduceMul, Nat.reduceEqDiff, Nat.reduceBneDiff, Nat.le_refl, Bool.false_eq_true, Int.reduceLT, Int.reduceLE, Int.reduceAdd, Int.reduceSub, Int.reduceMul, Int.reduceToNat, Int.reduceEq, Int.cast_ofNat_Int, Int.reduceNeg] <;> rfl)
                refine AL.nil ?_; simp only [thenQ, inQ]
                -- REGION 24
                (repeat refine AWp.seq ?_); refine AWp.region ?_
                refine rn 2 (k := ?_) (h := by simp (maxSteps := 3000000) only [hw, engA, engL, engT, reduceIte, reduceCtorEq, Nat.reduceLT, Nat.reduceLeDiff, Nat.reduceAdd, Nat.reduceSub, Nat.reduceMul, Nat.reduceEqDiff, Nat.reduceBneDiff, Nat.le_refl, Bool.false_eq_true, Int.reduceLT, Int.reduceLE, Int.reduceAdd, Int.reduceSub, Int.reduceMul, Int.reduceToNat, Int.reduceEq, Int.cast_ofNat_Int, Int.reduceNeg] <;> rfl)
                refine AL.nil ?_; simp only [thenQ, inQ]
                (try simp only [inQ, thenQ])
                first | (refine ⟨(i + 1, r), ?inv, ?mu, ?sub, rfl, rfl⟩; (case sub => simp only [engA, engL, engT, reduceIte, reduceCtorEq, Nat.reduceLT, Nat.reduceLeDiff, Nat.reduceAdd, Nat.reduceSub, Nat.reduceMul, Nat.reduceEqDiff, Nat.reduceBneDiff, Nat.le_refl, Bool.false_eq_true, Int.reduceLT, Int.reduceLE, Int.reduceAdd, Int.reduceSub, Int.reduceMul, Int.reduceToNat, Int.reduceEq, Int.cast_ofNat_Int, Int.reduceNeg, eq_self, and_self]); (case mu => simp only; omega); (case inv => refine ⟨by omega, pm_step h2 hx (by simp_all [pageStep, inL] <;> omega), by simp_all [inL] <;> omega, by simp_all [inL] <;> omega⟩)) | (refine ⟨(i + 1, r - 1), ?inv, ?mu, ?sub, rfl, rfl⟩; (case sub => simp only [engA, engL, engT, reduceIte, reduceCtorEq, Nat.reduceLT, Nat.reduceLeDiff, Nat.reduceAdd, Nat.reduceSub, Nat.reduceMul, Nat.reduceEqDiff, Nat.reduceBneDiff, Nat.le_refl, Bool.false_eq_true, Int.reduceLT, Int.reduceLE, Int.reduceAdd, Int.reduceSub, Int.reduceMul, Int.reduceToNat, Int.reduceEq, Int.cast_ofNat_Int, Int.reduceNeg, eq_self, and_self]); (case mu => simp only; omega); (case inv => refine ⟨by omega, pm_step h2 hx (by simp_all [pageStep, inL] <;> omega), by simp_all [inL] <;> omega, by simp_all [inL] <;> omega⟩)) | (refine ⟨(i + 1, p.arg - 1), ?inv, ?mu, ?sub, rfl, rfl⟩; (case sub => simp only [engA, engL, engT, reduceIte, reduceCtorEq, Nat.reduceLT, Nat.reduceLeDiff, Nat.reduceAdd, Nat.reduceSub, Nat.reduceMul, Nat.reduceEqDiff, Nat.reduceBneDiff, Nat.le_refl, Bool.false_eq_true, Int.reduceLT, Int.reduceLE, Int.reduceAdd, Int.reduceSub, Int.reduceMul, Int.reduceToNat, Int.reduceEq, Int.cast_ofNat_Int, Int.reduceNeg, eq_self, and_self]); (case mu => simp only; omega); (case inv => refine ⟨by omega, pm_step h2 hx (by simp_all [pageStep, inL] <;> omega), by simp_all [inL] <;> omega, by simp_all [inL] <;> omega⟩))
              · skip
                (repeat refine AWp.seq ?_)
                refine AWp.skip ?_
                (try simp only [inQ, thenQ])
                -- REGION 24
                (repeat refine AWp.seq ?_); refine AWp.region ?_
                refine rn 2 (k := ?_) (h := by simp (maxSteps := 3000000) only [hw, engA, engL, engT, reduceIte, reduceCtorEq, Nat.reduceLT, Nat.reduceLeDiff, Nat.reduceAdd, Nat.reduceSub, Nat.reduceMul, Nat.reduceEqDiff, Nat.reduceBneDiff, Nat.le_refl, Bool.false_eq_true, Int.reduceLT, Int.reduceLE, Int.reduceAdd, Int.reduceSub, Int.reduceMul, Int.reduceToNat, Int.reduceEq, Int.cast_ofNat_Int, Int.reduceNeg] <;> rfl)
                refine AL.nil ?_; simp only [thenQ, inQ]
                (try simp only [inQ, thenQ])
                first | (refine ⟨(i + 1, r), ?inv, ?mu, ?sub, rfl, rfl⟩; (case sub => simp only [engA, engL, engT, reduceIte, reduceCtorEq, Nat.reduceLT, Nat.reduceLeDiff, Nat.reduceAdd, Nat.reduceSub, Nat.reduceMul, Nat.reduceEqDiff, Nat.reduceBneDiff, Nat.le_refl, Bool.false_eq_true, Int.reduceLT, Int.reduceLE, Int.reduceAdd, Int.reduceSub, Int.reduceMul, Int.reduceToNat, Int.reduceEq, Int.cast_ofNat_Int, Int.reduceNeg, eq_self, and_self]); (case mu => simp only; omega); (case inv => refine ⟨by omega, pm_step h2 hx (by simp_all [pageStep, inL] <;> omega), by simp_all [inL] <;> omega, by simp_all [inL] <;> omega⟩)) | (refine ⟨(i + 1, r - 1), ?inv, ?mu, ?sub, rfl, rfl⟩; (case sub => simp only [engA, engL, engT, reduceIte, reduceCtorEq, Nat.reduceLT, Nat.reduceLeDiff, Nat.reduceAdd, Nat.reduceSub, Nat.reduceMul, Nat.reduceEqDiff, Nat.reduceBneDiff, Nat.le_refl, Bool.false_eq_true, Int.reduceLT, Int.reduceLE, Int.reduceAdd, Int.reduceSub, Int.reduceMul, Int.reduceToNat, Int.reduceEq, Int.cast_ofNat_Int, Int.reduceNeg, eq_self, and_self]); (case mu => simp only; omega); (case inv => refine ⟨by omega, pm_step h2 hx (by simp_all [pageStep, inL] <;> omega), by simp_all [inL] <;> omega, by simp_all [inL] <;> omega⟩)) | (refine ⟨(i + 1, p.arg - 1), ?inv, ?mu, ?sub, rfl, rfl⟩; (case sub => simp only [engA, engL, engT, reduceIte, reduceCtorEq, Nat.reduceLT, Nat.reduceLeDiff, Nat.reduceAdd, Nat.reduceSub, Nat.reduceMul, Nat.reduceEqDiff, Nat.reduceBneDiff, Nat.le_refl, Bool.false_eq_true, Int.reduceLT, Int.reduceLE, Int.reduceAdd, Int.reduceSub, Int.reduceMul, Int.reduceToNat, Int.reduceEq, Int.cast_ofNat_Int, Int.reduceNeg, eq_self, and_self]); (case mu => simp only; omega); (case inv => refine ⟨by omega, pm_step h2 hx (by simp_all [pageStep, inL] <;> omega), by simp_all [inL] <;> omega, by simp_all [inL] <;> omega⟩))
        · skip
          -- REGION 17
          (repeat refine AWp.seq ?_); refine AWp.region ?_
          refine rn 2 ?_
          refine AL.nil ?_; simp only [thenQ, inQ]
          (repeat refine AWp.seq ?_)
          refine rc (fun hb => ?_) (fun hb => ?_)
          · skip
            -- REGION 18
            (repeat refine AWp.seq ?_); refine AWp.region ?_
            refine rn 2 ?_
            refine rcall Tryz.call107 (hC := c_pages_in G _ _ _) (kk := ?_); simp only [Av.put]
            refine rn 1 ?_
            refine AL.nil ?_; simp only [thenQ, inQ]
            (repeat refine AWp.seq ?_)
            refine rc (fun hb => ?_) (fun hb => ?_)
            · skip
              -- REGION 19
              (repeat refine AWp.seq ?_); refine AWp.region ?_
              refine rn 1 ?_
              refine AL.nil ?_; simp only [thenQ, inQ]
              refine AWp.ret ?_; (try simp only [inQ, thenQ]); refine rret 0 ?_
              refine ⟨?_, rfl⟩; simp only [pack]; first | (rw [pm_none h2 hx]; simp_all [pageStep, inL] <;> omega) | (rw [pm_end h2 (by simp_all)]; simp_all; done)
            · skip
              (repeat refine AWp.seq ?_)
              refine AWp.skip ?_
              (try simp only [inQ, thenQ])
              -- REGION 20
              (repeat refine AWp.seq ?_); refine AWp.region ?_
              refine rn 2 ?_
              refine AL.nil ?_; simp only [thenQ, inQ]
              (repeat refine AWp.seq ?_)
              refine rc (fun hb => ?_) (fun hb => ?_)
              · skip
                -- REGION 21
                (repeat refine AWp.seq ?_); refine AWp.region ?_
                refine rn 1 ?_
                refine AL.nil ?_; simp only [thenQ, inQ]
                refine AWp.ret ?_; (try simp only [inQ, thenQ]); refine rret 0 ?_
                refine ⟨?_, rfl⟩; simp only [pack]; first | (rw [pm_none h2 hx]; simp_all [pageStep, inL] <;> omega) | (rw [pm_end h2 (by simp_all)]; simp_all; done)
              · skip
                (repeat refine AWp.seq ?_)
                refine AWp.skip ?_
                (try simp only [inQ, thenQ])
                -- REGION 22
                (repeat refine AWp.seq ?_); refine AWp.region ?_
                refine rn 3 ?_
                refine AL.nil ?_; simp only [thenQ, inQ]
                (repeat refine AWp.seq ?_)
                refine rc (fun hb => ?_) (fun hb => ?_)
                · skip
                  have hw3 : IntKind.i64.wrap (p.arg - 1) = p.arg - 1 := wrap_id _ (by simp_all [inL] <;> omega) (by simp_all [inL] <;> omega)
                  (repeat refine AWp.seq ?_); refine AWp.region ?_
                  refine rn 4 (k := ?_) (h := by simp (maxSteps := 3000000) only [hw3, engA, engL, engT, reduceIte, reduceCtorEq, Nat.reduceLT, Nat.reduceLeDiff, Nat.reduceAdd, Nat.reduceSub, Nat.reduceMul, Nat.reduceEqDiff, Nat.reduceBneDiff, Nat.le_refl, Bool.false_eq_true, Int.reduceLT, Int.reduceLE, Int.reduceAdd, Int.reduceSub, Int.reduceMul, Int.reduceToNat, Int.reduceEq, Int.cast_ofNat_Int, Int.reduceNeg] <;> rfl)
                  refine AL.nil ?_; simp only [thenQ, inQ]
                  -- REGION 24
                  (repeat refine AWp.seq ?_); refine AWp.region ?_
                  refine rn 2 (k := ?_) (h := by simp (maxSteps := 3000000) only [hw, engA, engL, engT, reduceIte, reduceCtorEq, Nat.reduceLT, Nat.reduceLeDiff, Nat.reduceAdd, Nat.reduceSub, Nat.reduceMul, Nat.reduceEqDiff, Nat.reduceBneDiff, Nat.le_refl, Bool.false_eq_true, Int.reduceLT, Int.reduceLE, Int.reduceAdd, Int.reduceSub, Int.reduceMul, Int.reduceToNat, Int.reduceEq, Int.cast_ofNat_Int, Int.reduceNeg] <;> rfl)
                  refine AL.nil ?_; simp only [thenQ, inQ]
                  (try simp only [inQ, thenQ])
                  first | (refine ⟨(i + 1, r), ?inv, ?mu, ?sub, rfl, rfl⟩; (case sub => simp only [engA, engL, engT, reduceIte, reduceCtorEq, Nat.reduceLT, Nat.reduceLeDiff, Nat.reduceAdd, Nat.reduceSub, Nat.reduceMul, Nat.reduceEqDiff, Nat.reduceBneDiff, Nat.le_refl, Bool.false_eq_true, Int.reduceLT, Int.reduceLE, Int.reduceAdd, Int.reduceSub, Int.reduceMul, Int.reduceToNat, Int.reduceEq, Int.cast_ofNat_Int, Int.reduceNeg, eq_self, and_self]); (case mu => simp only; omega); (case inv => refine ⟨by omega, pm_step h2 hx (by simp_all [pageStep, inL] <;> omega), by simp_all [inL] <;> omega, by simp_all [inL] <;> omega⟩)) | (refine ⟨(i + 1, r - 1), ?inv, ?mu, ?sub, rfl, rfl⟩; (case sub => simp only [engA, engL, engT, reduceIte, reduceCtorEq, Nat.reduceLT, Nat.reduceLeDiff, Nat.reduceAdd, Nat.reduceSub, Nat.reduceMul, Nat.reduceEqDiff, Nat.reduceBneDiff, Nat.le_refl, Bool.false_eq_true, Int.reduceLT, Int.reduceLE, Int.reduceAdd, Int.reduceSub, Int.reduceMul, Int.reduceToNat, Int.reduceEq, Int.cast_ofNat_Int, Int.reduceNeg, eq_self, and_self]); (case mu => simp only; omega); (case inv => refine ⟨by omega, pm_step h2 hx (by simp_all [pageStep, inL] <;> omega), by simp_all [inL] <;> omega, by simp_all [inL] <;> omega⟩)) | (refine ⟨(i + 1, p.arg - 1), ?inv, ?mu, ?sub, rfl, rfl⟩; (case sub => simp only [engA, engL, engT, reduceIte, reduceCtorEq, Nat.reduceLT, Nat.reduceLeDiff, Nat.reduceAdd, Nat.reduceSub, Nat.reduceMul, Nat.reduceEqDiff, Nat.reduceBneDiff, Nat.le_refl, Bool.false_eq_true, Int.reduceLT, Int.reduceLE, Int.reduceAdd, Int.reduceSub, Int.reduceMul, Int.reduceToNat, Int.reduceEq, Int.cast_ofNat_Int, Int.reduceNeg, eq_self, and_self]); (case mu => simp only; omega); (case inv => refine ⟨by omega, pm_step h2 hx (by simp_all [pageStep, inL] <;> omega), by simp_all [inL] <;> omega, by simp_all [inL] <;> omega⟩))
                · skip
                  (repeat refine AWp.seq ?_)
                  refine AWp.skip ?_
                  (try simp only [inQ, thenQ])
                  -- REGION 24
                  (repeat refine AWp.seq ?_); refine AWp.region ?_
                  refine rn 2 (k := ?_) (h := by simp (maxSteps := 3000000) only [hw, engA, engL, engT, reduceIte, reduceCtorEq, Nat.reduceLT, Nat.reduceLeDiff, Nat.reduceAdd, Nat.reduceSub, Nat.reduceMul, Nat.reduceEqDiff, Nat.reduceBneDiff, Nat.le_refl, Bool.false_eq_true, Int.reduceLT, Int.reduceLE, Int.reduceAdd, Int.reduceSub, Int.reduceMul, Int.reduceToNat, Int.reduceEq, Int.cast_ofNat_Int, Int.reduceNeg] <;> rfl)
                  refine AL.nil ?_; simp only [thenQ, inQ]
                  (try simp only [inQ, thenQ])
                  first | (refine ⟨(i + 1, r), ?inv, ?mu, ?sub, rfl, rfl⟩; (case sub => simp only [engA, engL, engT, reduceIte, reduceCtorEq, Nat.reduceLT, Nat.reduceLeDiff, Nat.reduceAdd, Nat.reduceSub, Nat.reduceMul, Nat.reduceEqDiff, Nat.reduceBneDiff, Nat.le_refl, Bool.false_eq_true, Int.reduceLT, Int.reduceLE, Int.reduceAdd, Int.reduceSub, Int.reduceMul, Int.reduceToNat, Int.reduceEq, Int.cast_ofNat_Int, Int.reduceNeg, eq_self, and_self]); (case mu => simp only; omega); (case inv => refine ⟨by omega, pm_step h2 hx (by simp_all [pageStep, inL] <;> omega), by simp_all [inL] <;> omega, by simp_all [inL] <;> omega⟩)) | (refine ⟨(i + 1, r - 1), ?inv, ?mu, ?sub, rfl, rfl⟩; (case sub => simp only [engA, engL, engT, reduceIte, reduceCtorEq, Nat.reduceLT, Nat.reduceLeDiff, Nat.reduceAdd, Nat.reduceSub, Nat.reduceMul, Nat.reduceEqDiff, Nat.reduceBneDiff, Nat.le_refl, Bool.false_eq_true, Int.reduceLT, Int.reduceLE, Int.reduceAdd, Int.reduceSub, Int.reduceMul, Int.reduceToNat, Int.reduceEq, Int.cast_ofNat_Int, Int.reduceNeg, eq_self, and_self]); (case mu => simp only; omega); (case inv => refine ⟨by omega, pm_step h2 hx (by simp_all [pageStep, inL] <;> omega), by simp_all [inL] <;> omega, by simp_all [inL] <;> omega⟩)) | (refine ⟨(i + 1, p.arg - 1), ?inv, ?mu, ?sub, rfl, rfl⟩; (case sub => simp only [engA, engL, engT, reduceIte, reduceCtorEq, Nat.reduceLT, Nat.reduceLeDiff, Nat.reduceAdd, Nat.reduceSub, Nat.reduceMul, Nat.reduceEqDiff, Nat.reduceBneDiff, Nat.le_refl, Bool.false_eq_true, Int.reduceLT, Int.reduceLE, Int.reduceAdd, Int.reduceSub, Int.reduceMul, Int.reduceToNat, Int.reduceEq, Int.cast_ofNat_Int, Int.reduceNeg, eq_self, and_self]); (case mu => simp only; omega); (case inv => refine ⟨by omega, pm_step h2 hx (by simp_all [pageStep, inL] <;> omega), by simp_all [inL] <;> omega, by simp_all [inL] <;> omega⟩))
          · skip
            -- REGION 6
            (repeat refine AWp.seq ?_); refine AWp.region ?_
            refine rn 1 ?_
            refine AL.nil ?_; simp only [thenQ, inQ]
            refine AWp.ret ?_; (try simp only [inQ, thenQ]); refine rret 0 ?_
            refine ⟨?_, rfl⟩; simp only [pack]; first | (rw [pm_none h2 hx]; simp_all [pageStep, inL] <;> omega) | (rw [pm_end h2 (by simp_all)]; simp_all; done)
  · skip
    refine AWp.exit ?_
    simp only [inQ, thenQ, reduceIte, Nat.reduceEqDiff]
    -- REGION 25
    (repeat refine AWp.seq ?_); refine AWp.region ?_
    refine rn 3 ?_
    refine rsp 53 (fun hb => ?_) (fun hb => ?_)
    · skip
      refine rn 2 ?_
      refine rcallG Tryz.call107 (hC := c_pages_in G _ _ _) (kk := ?_); simp only [Av.put]
      refine rn 2 ?_
      refine AL.nil ?_; simp only [thenQ, inQ]
      refine AWp.ret ?_; (try simp only [inQ, thenQ]); refine rret 0 ?_
      refine ⟨?_, rfl⟩; simp only [pack]; first | (rw [pm_none h2 hx]; simp_all [pageStep, inL] <;> omega) | (rw [pm_end h2 (by simp_all)]; simp_all; done)
    · skip
      refine rn 5 ?_
      refine AL.nil ?_; simp only [thenQ, inQ]
      refine AWp.ret ?_; (try simp only [inQ, thenQ]); refine rret 0 ?_
      refine ⟨?_, rfl⟩; simp only [pack]; first | (rw [pm_none h2 hx]; simp_all [pageStep, inL] <;> omega) | (rw [pm_end h2 (by simp_all)]; simp_all; done)

end Go.Proofs
end

section
set_option linter.unusedSimpArgs false
set_option maxRecDepth 20000
set_option maxHeartbeats 1000000
namespace Go.Proofs
open Go Av Rp
theorem c_cells_address (G : Globs) (p : Int) (h0 : 0 ≤ p) (h1 : p ≤ 1000) : ACall Tryz.prog G 118 [intv p] [] (fun r L' => r = intv ((p + 1) * 16) ∧ L' = []) := by
  refine ACall.enter Tryz.func118 rfl Tryz.ntmps118 (by rw [Tryz.results118]) (Nat.le_of_ble_eq_true rfl) rfl ?_
  -- REGION 0
  (repeat refine AWp.seq ?_); refine AWp.region ?_
  refine rn 1 ?_
  refine AL.nil ?_; simp only [thenQ, inQ]
  -- REGION 1
  (repeat refine AWp.seq ?_); refine AWp.region ?_
  refine rn 4 ?_
  refine AL.nil ?_; simp only [thenQ, inQ]
  refine AWp.ret ?_; (try simp only [inQ, thenQ]); refine rret 0 ?_
  refine ⟨?_, rfl⟩; simp only [pack, engA, engL] <;> (simp (disch := omega) only [wrap_id])

theorem c_class_Words (G : Globs) (c : Int) (hG : List.lookup 0 G = some wordsI) : ACall Tryz.prog G 119 [intv c] [] (fun r L' => r = intv (words c) ∧ L' = []) := by
  refine ACall.enter Tryz.func119 rfl Tryz.ntmps119 (by rw [Tryz.results119]) (Nat.le_of_ble_eq_true rfl) rfl ?_
  -- REGION 0
  (repeat refine AWp.seq ?_); refine AWp.region ?_
  refine rn 1 ?_
  refine AL.nil ?_; simp only [thenQ, inQ]
  -- REGION 1
  (repeat refine AWp.seq ?_); refine AWp.region ?_
  refine rn 3 ?_
  refine rsp 5 (fun hb => ?_) (fun hb => ?_)
  · skip
    refine rn 3 ?_
    refine AL.nil ?_; simp only [thenQ, inQ]
    (repeat refine AWp.seq ?_)
    refine rc (t := true) (fun hb => ?_) (fun hb => by cases hb)
    -- REGION 2
    (repeat refine AWp.seq ?_); refine AWp.region ?_
    refine rn 1 ?_
    refine AL.nil ?_; simp only [thenQ, inQ]
    refine AWp.ret ?_; (try simp only [inQ, thenQ]); refine rret 0 ?_
    refine ⟨?_, rfl⟩; simp only [pack] <;> (first | rfl | (rw [words_out (by simp_all <;> omega)]))
  · skip
    refine rn 3 ?_
    refine AL.nil ?_; simp only [thenQ, inQ]
    (repeat refine AWp.seq ?_)
    refine rc (fun hb => ?_) (fun hb => ?_)
    · skip
      -- REGION 2
      (repeat refine AWp.seq ?_); refine AWp.region ?_
      refine rn 1 ?_
      refine AL.nil ?_; simp only [thenQ, inQ]
      refine AWp.ret ?_; (try simp only [inQ, thenQ]); refine rret 0 ?_
      refine ⟨?_, rfl⟩; simp only [pack] <;> (first | rfl | (rw [words_out (by simp_all <;> omega)]))
    · skip
      (repeat refine AWp.seq ?_)
      refine AWp.skip ?_
      (try simp only [inQ, thenQ])
      have hlt : 0 ≤ c ∧ c < 3 := (by simp_all <;> omega); have hx := words_get hlt; have hc : (0 ≤ c ∧ c < 3) = True := by simp; omega
      (repeat refine AWp.seq ?_); refine AWp.region ?_
      refine rn 4 (k := ?_) (h := by simp (maxSteps := 3000000) only [hG, hc, hx, Option.map_some, Nat.mul_one, Nat.zero_add, engA, engL, engT, reduceIte, reduceCtorEq, Nat.reduceLT, Nat.reduceLeDiff, Nat.reduceAdd, Nat.reduceSub, Nat.reduceMul, Nat.reduceEqDiff, Nat.reduceBneDiff, Nat.le_refl, Bool.false_eq_true, Int.reduceLT, Int.reduceLE, Int.reduceAdd, Int.reduceSub, Int.reduceMul, Int.reduceToNat, Int.reduceEq, Int.cast_ofNat_Int, Int.reduceNeg] <;> rfl)
      refine AL.nil ?_; simp only [thenQ, inQ]
      refine AWp.ret ?_; (try simp only [inQ, thenQ]); refine rret 0 ?_
      refine ⟨?_, rfl⟩; simp only [pack] <;> (first | rfl | (rw [words_out (by simp_all <;> omega)]))

theorem c_class_Cells (G : Globs) (c : Int) (hG : List.lookup 0 G = some wordsI) : ACall Tryz.prog G 120 [intv c] [] (fun r L' => r = intv (cellsOfClass c) ∧ L' = []) := by
  refine ACall.enter Tryz.func120 rfl Tryz.ntmps120 (by rw [Tryz.results120]) (Nat.le_of_ble_eq_true rfl) rfl ?_
  -- REGION 0
  (repeat refine AWp.seq ?_); refine AWp.region ?_
  refine rn 1 ?_
  refine AL.nil ?_; simp only [thenQ, inQ]
  -- REGION 1
  (repeat refine AWp.seq ?_); refine AWp.region ?_
  refine rn 1 ?_
  refine rcall Tryz.call119 (hC := c_class_Words G _ (by first | assumption | omega | simp_all)) (kk := ?_); simp only [Av.put]
  refine rn 1 ?_
  refine AL.nil ?_; simp only [thenQ, inQ]
  -- REGION 2
  (repeat refine AWp.seq ?_); refine AWp.region ?_
  refine rn 2 ?_
  refine AL.nil ?_; simp only [thenQ, inQ]
  (repeat refine AWp.seq ?_)
  refine rc (fun hb => ?_) (fun hb => ?_)
  · skip
    -- REGION 3
    (repeat refine AWp.seq ?_); refine AWp.region ?_
    refine rn 1 ?_
    refine AL.nil ?_; simp only [thenQ, inQ]
    refine AWp.ret ?_; (try simp only [inQ, thenQ]); refine rret 0 ?_
    refine ⟨?_, rfl⟩; simp only [pack] <;> (first | rfl | (rw [cells_0 (by simp_all)]; done) | (rw [cells_n (by simp_all)]; done))
  · skip
    (repeat refine AWp.seq ?_)
    refine AWp.skip ?_
    (try simp only [inQ, thenQ])
    have hne : (words c = 0) = False := (by simp_all); have hq : IntKind.i64.wrap ((16 : Int).tdiv (words c)) = (16 : Int).tdiv (words c) := words_q c
    (repeat refine AWp.seq ?_); refine AWp.region ?_
    refine rn 3 (k := ?_) (h := by simp (maxSteps := 3000000) only [hq, hne, if_false, engA, engL, engT, reduceIte, reduceCtorEq, Nat.reduceLT, Nat.reduceLeDiff, Nat.reduceAdd, Nat.reduceSub, Nat.reduceMul, Nat.reduceEqDiff, Nat.reduceBneDiff, Nat.le_refl, Bool.false_eq_true, Int.reduceLT, Int.reduceLE, Int.reduceAdd, Int.reduceSub, Int.reduceMul, Int.reduceToNat, Int.reduceEq, Int.cast_ofNat_Int, Int.reduceNeg] <;> rfl)
    refine AL.nil ?_; simp only [thenQ, inQ]
    refine AWp.ret ?_; (try simp only [inQ, thenQ]); refine rret 0 ?_
    refine ⟨?_, rfl⟩; simp only [pack] <;> (first | rfl | (rw [cells_0 (by simp_all)]; done) | (rw [cells_n (by simp_all)]; done))

end Go.Proofs
end

section
set_option linter.unusedSimpArgs false
set_option maxRecDepth 20000
set_option maxHeartbeats 1000000
namespace Go.Proofs
open Go Av Rp
theorem c_cells_on (G : Globs) (l : List Page) (p : Int) : ACall Tryz.prog G 111 [.im (pages l), intv p] [] (fun r L' => r = .im (.fn 117 [] [.pt [pages l] 0, .pt [.int p] 0]) ∧ L' = []) := by
  refine ACall.enter Tryz.func111 rfl Tryz.ntmps111 (by rw [Tryz.results111]) (Nat.le_of_ble_eq_true rfl) rfl ?_
  -- REGION 0
  (repeat refine AWp.seq ?_); refine AWp.region ?_
  refine rn 3 ?_
  refine AL.nil ?_; simp only [thenQ, inQ]
  refine AWp.freezeV 0 (cs := [pages l]) rfl ?_; simp only [frvT, frvB, SV.frv, frvL, Blk.frv, List.map_cons, List.map_nil, reduceIte, Nat.reduceEqDiff]; refine AWp.freezeV 1 (cs := [.int p]) rfl ?_; simp only [frvT, frvB, SV.frv, frvL, Blk.frv, List.map_cons, List.map_nil, reduceIte, Nat.reduceEqDiff]
  (repeat refine AWp.seq ?_); refine AWp.region ?_
  refine rn 2 ?_
  refine AL.nil ?_; simp only [thenQ, inQ]
  refine AWp.ret ?_; (try simp only [inQ, thenQ]); refine rret 0 ?_
  first | exact ⟨rfl, rfl⟩ | (refine ⟨?_, rfl⟩; simp only [pack])

theorem c_cells_all (G : Globs) (l : List Page) : ACall Tryz.prog G 100 [.im (pages l)] [] (fun r L' => r = .im (.fn 110 [] [.pt [pages l] 0]) ∧ L' = []) := by
  refine ACall.enter Tryz.func100 rfl Tryz.ntmps100 (by rw [Tryz.results100]) (Nat.le_of_ble_eq_true rfl) rfl ?_
  -- REGION 0
  (repeat refine AWp.seq ?_); refine AWp.region ?_
  refine rn 2 ?_
  refine AL.nil ?_; simp only [thenQ, inQ]
  refine AWp.freezeV 0 (cs := [pages l]) rfl ?_; simp only [frvT, frvB, SV.frv, frvL, Blk.frv, List.map_cons, List.map_nil, reduceIte, Nat.reduceEqDiff]
  (repeat refine AWp.seq ?_); refine AWp.region ?_
  refine rn 2 ?_
  refine AL.nil ?_; simp only [thenQ, inQ]
  refine AWp.ret ?_; (try simp only [inQ, thenQ]); refine rret 0 ?_
  first | exact ⟨rfl, rfl⟩ | (refine ⟨?_, rfl⟩; simp only [pack])

end Go.Proofs
end

section
set_option linter.unusedSimpArgs false
set_option maxRecDepth 20000
set_option maxHeartbeats 1000000
namespace Go.Proofs
open Go Av Rp
theorem s_on1 (G : Globs) (hG : List.lookup 0 G = some wordsI) (l : List Page) (i : Nat) (p : Page) (hx : l[i]? = some p) (hi : i ≤ 1000) (ha : p.kind = 2 → 0 ≤ p.arg ∧ p.arg ≤ 100) :
    SeqC Tryz.prog G 117 [] [.pt [pages l] 0, .pt [.int i] 0] ((onPage i p).map cellV) := by
  intro σ st step I K iy n hst hiy hK hy s0 hI
  have hlen : ∀ s, (st s).length = n := fun s => (hst s).1
  refine ACallK.enter Tryz.func117 rfl Tryz.ntmps117 (by rw [Tryz.results117]) (Nat.le_of_ble_eq_true rfl) (hst s0).2.1 (by rw [hlen]; exact hK) ?_
  have g0 : ∀ (s : σ) (B : List Blk), (st s ++ B)[n]? = B[0]? := fun s B => pre_get0 (hlen s)
  have gs : ∀ (s : σ) (B : List Blk) (x : Blk), (st s ++ B).set n x = st s ++ B.set 0 x := fun s B x => pre_set0 (hlen s) x
  have hlt : i < l.length := (List.getElem?_eq_some_iff.1 hx).1
  have hc : (0 ≤ (i : Int) ∧ (i : Int) < (l.length : Int)) = True := by simp; omega
  (repeat refine AWp.seq ?_); refine rdraws [.flo 0 1, .flo 0 1, .flo 0 1, .flo 0 1, .flo 0 2, .flo 0 1, .eff 0, .eff 1, .flo 2 2] 2 [(5, intv (((i : Int) + 1) * 16))] mixed ?_ (h0 := by simp only [trun, oev, lk, chkAll, chkFrom, tS, undefS, List.getD_cons_zero, List.getD_cons_succ, if_true, g0, gs, hlen, hc, hx, Int.toNat_natCast, List.getElem?_map, Nat.mul_div_cancel _ Nat.zero_lt_two, Nat.mul_mod_left, List.nil_append, List.append_nil, engA, engL, engT, reduceIte, reduceCtorEq, Nat.reduceLT, Nat.reduceLeDiff, Nat.reduceAdd, Nat.reduceSub, Nat.reduceMul, Nat.reduceEqDiff, Nat.reduceBneDiff, Nat.le_refl, Bool.false_eq_true, Int.reduceLT, Int.reduceLE, Int.reduceAdd, Int.reduceSub, Int.reduceMul, Int.reduceToNat, Int.reduceEq, Int.cast_ofNat_Int, Int.reduceNeg] <;> rfl) (hc := by simp only [trun, oev, lk, chkAll, chkFrom, tS, undefS, List.getD_cons_zero, List.getD_cons_succ, if_true, g0, gs, hlen, hc, hx, Int.toNat_natCast, List.getElem?_map, Nat.mul_div_cancel _ Nat.zero_lt_two, Nat.mul_mod_left, List.nil_append, List.append_nil, engA, engL, engT, reduceIte, reduceCtorEq, Nat.reduceLT, Nat.reduceLeDiff, Nat.reduceAdd, Nat.reduceSub, Nat.reduceMul, Nat.reduceEqDiff, Nat.reduceBneDiff, Nat.le_refl, Bool.false_eq_true, Int.reduceLT, Int.reduceLE, Int.reduceAdd, Int.reduceSub, Int.reduceMul, Int.reduceToNat, Int.reduceEq, Int.cast_ofNat_Int, Int.reduceNeg]); refine ⟨⟨rck Tryz.call118 (hC := c_cells_address G _ (by omega) (by omega)), trivial⟩, ?_⟩; simp only [thenQ, inQ, tS, List.getD_cons_zero, List.getD_cons_succ, if_true]
  -- REGION 1
  (repeat refine AWp.seq ?_); refine AWp.region ?_
  refine rn 2 (k := ?_) (h := by simp (maxSteps := 3000000) only [g0, engA, engL, engT, reduceIte, reduceCtorEq, Nat.reduceLT, Nat.reduceLeDiff, Nat.reduceAdd, Nat.reduceSub, Nat.reduceMul, Nat.reduceEqDiff, Nat.reduceBneDiff, Nat.le_refl, Bool.false_eq_true, Int.reduceLT, Int.reduceLE, Int.reduceAdd, Int.reduceSub, Int.reduceMul, Int.reduceToNat, Int.reduceEq, Int.cast_ofNat_Int, Int.reduceNeg] <;> rfl)
  refine AL.nil ?_; simp only [thenQ, inQ]
  (repeat refine AWp.seq ?_)
  refine AWp.block ?_
  -- REGION 2
  (repeat refine AWp.seq ?_); refine AWp.region ?_
  refine rn 2 ?_
  refine AL.nil ?_; simp only [thenQ, inQ]
  (repeat refine AWp.seq ?_)
  refine rc (fun hb => ?_) (fun hb => ?_)
  · have hk : p.kind = 2 := by simpa using hb
    have ha' := ha hk
    have hw : IntKind.i64.wrap (p.arg * 16) = p.arg * 16 := wrap_id _ (by omega) (by omega)
    have hcs : (onPage i p).map cellV = [cellV (((i : Int) + 1) * 16, p.arg * 16)] := by simp [onPage, hk]
    have hy0 := (hy 0 (cellV (((i : Int) + 1) * 16, p.arg * 16)) s0 (by rw [hcs]; rfl) hI).2
    rw [hcs]
    -- REGION 3
    (repeat refine AWp.seq ?_); refine AWp.region ?_
    refine rn 6 (k := ?_) (h := by simp (maxSteps := 3000000) only [g0, hw, engA, engL, engT, reduceIte, reduceCtorEq, Nat.reduceLT, Nat.reduceLeDiff, Nat.reduceAdd, Nat.reduceSub, Nat.reduceMul, Nat.reduceEqDiff, Nat.reduceBneDiff, Nat.le_refl, Bool.false_eq_true, Int.reduceLT, Int.reduceLE, Int.reduceAdd, Int.reduceSub, Int.reduceMul, Int.reduceToNat, Int.reduceEq, Int.cast_ofNat_Int, Int.reduceNeg] <;> rfl)
    refine ryield hy0 ?_ (hlen s0) hiy hK (hst s0).2.1 (hst s0).2.2
    simp only [Av.put]
    refine AL.nil ?_; simp only [thenQ, inQ]
    refine rnorM (hlen s0) (hlen _) (hst _).2.1 (hst _).2.2 rfl rfl ⟨rfl, ?_⟩
    simp only [runS]; split <;> rfl
  · -- REGION 4
    (repeat refine AWp.seq ?_); refine AWp.region ?_
    refine rn 2 ?_
    refine AL.nil ?_; simp only [thenQ, inQ]
    (repeat refine AWp.seq ?_)
    refine rc (fun hb2 => ?_) (fun hb2 => ?_)
    · have hk : p.kind = 1 := by simpa using hb2
      -- REGION 5
      (repeat refine AWp.seq ?_); refine AWp.region ?_
      refine rn 2 (k := ?_) (h := by simp (maxSteps := 3000000) only [g0, engA, engL, engT, reduceIte, reduceCtorEq, Nat.reduceLT, Nat.reduceLeDiff, Nat.reduceAdd, Nat.reduceSub, Nat.reduceMul, Nat.reduceEqDiff, Nat.reduceBneDiff, Nat.le_refl, Bool.false_eq_true, Int.reduceLT, Int.reduceLE, Int.reduceAdd, Int.reduceSub, Int.reduceMul, Int.reduceToNat, Int.reduceEq, Int.cast_ofNat_Int, Int.reduceNeg] <;> rfl)
      refine rcall Tryz.call119 (hC := c_class_Words G _ hG) (kk := ?_); simp only [Av.put]
      refine rn 1 ?_
      refine AL.nil ?_; simp only [thenQ, inQ]
      -- REGION 6
      (repeat refine AWp.seq ?_); refine AWp.region ?_
      refine rn 2 (k := ?_) (h := by simp (maxSteps := 3000000) only [g0, engA, engL, engT, reduceIte, reduceCtorEq, Nat.reduceLT, Nat.reduceLeDiff, Nat.reduceAdd, Nat.reduceSub, Nat.reduceMul, Nat.reduceEqDiff, Nat.reduceBneDiff, Nat.le_refl, Bool.false_eq_true, Int.reduceLT, Int.reduceLE, Int.reduceAdd, Int.reduceSub, Int.reduceMul, Int.reduceToNat, Int.reduceEq, Int.cast_ofNat_Int, Int.reduceNeg] <;> rfl)
      refine rcall Tryz.call120 (hC := c_class_Cells G _ hG) (kk := ?_); simp only [Av.put]
      refine rn 1 ?_
      refine AL.nil ?_; simp only [thenQ, inQ]
      obtain ⟨N, hN, hN8⟩ : ∃ N : Nat, cellsOfClass p.arg = (N : Int) ∧ N ≤ 8 := cells_nat _
      obtain ⟨hw0, hw8⟩ : 0 ≤ words p.arg ∧ words p.arg ≤ 8 := words_le _
      obtain ⟨w, hwd⟩ : ∃ w, w = words p.arg := ⟨_, rfl⟩
      have hcs : (onPage i p).map cellV = (List.range N).map (fun (k : Nat) => cellV (((i : Int) + 1) * 16 + k * w, w)) := by simp [onPage, hk, hN, hwd, Function.comp_def]
      rw [← hwd] at hw0 hw8
      rw [hN, ← hwd]
      (repeat refine AWp.seq ?_)
      refine AWp.block ?_
      (repeat refine AWp.seq ?_)
      refine AWp.loopS (σ := Nat × σ) (fun q => q.1 ≤ N ∧ I q.1 q.2 ∧ (runS step s0 ((onPage i p).map cellV)).1 = (runS step q.2 (((onPage i p).map cellV).drop q.1)).1) (fun q => N - q.1)
        (fun q => [(33, intv q.1), (32, intv N), (6, intv w), (5, intv (((i : Int) + 1) * 16)), (0, .yl iy)]) (fun q => st q.2 ++ [.vars [intv p.kind, intv p.arg] 80]) (0, s0) ⟨⟨Nat.zero_le _, hI, rfl⟩, (by simp only [engA, engL, engT, reduceIte, reduceCtorEq, Nat.reduceLT, Nat.reduceLeDiff, Nat.reduceAdd, Nat.reduceSub, Nat.reduceMul, Nat.reduceEqDiff, Nat.reduceBneDiff, Nat.le_refl, Bool.false_eq_true, Int.reduceLT, Int.reduceLE, Int.reduceAdd, Int.reduceSub, Int.reduceMul, Int.reduceToNat, Int.reduceEq, Int.cast_ofNat_Int, Int.reduceNeg, eq_self, and_self]), rfl⟩ ?_
      rintro ⟨k, s⟩ ⟨h1, h2, h3⟩
      simp only at h1 h2 h3 ⊢
      -- REGION 7
      (repeat refine AWp.seq ?_); refine AWp.region ?_
      refine rn 1 ?_
      refine AL.nil ?_; simp only [thenQ, inQ]
      (repeat refine AWp.seq ?_)
      refine rc (fun hb3 => ?_) (fun hb3 => ?_)
      · have hkN : k < N := by simp at hb3; omega
        have hget : ((onPage i p).map cellV)[k]? = some (cellV (((i : Int) + 1) * 16 + k * w, w)) := by rw [hcs]; simp [hkN]
        obtain ⟨hy1, hy2⟩ := hy k _ s hget h2
        have hkw : (k : Int) * w ≤ 64 := by
          have : (k : Int) ≤ 8 := by omega
          calc (k : Int) * w ≤ 8 * w := Int.mul_le_mul_of_nonneg_right this hw0
            _ ≤ 64 := by omega
        have hkw0 : 0 ≤ (k : Int) * w := Int.mul_nonneg (by omega) hw0
        have e1 : IntKind.i64.wrap ((k : Int) * w) = (k : Int) * w := wrap_id _ (by omega) (by omega)
        have e2 : IntKind.i64.wrap (((i : Int) + 1) * 16 + (k : Int) * w) = ((i : Int) + 1) * 16 + (k : Int) * w := wrap_id _ (by omega) (by omega)
        have e3 : IntKind.i64.wrap ((k : Int) + 1) = ((k + 1 : Nat) : Int) := by rw [wrap_id _ (by omega) (by omega)]; omega
        (repeat refine AWp.seq ?_)
        refine AWp.skip ?_
        (try simp only [inQ, thenQ])
        (repeat refine AWp.seq ?_)
        refine AWp.block ?_
        -- REGION 8
        (repeat refine AWp.seq ?_); refine AWp.region ?_
        refine rn 2 ?_
        refine AL.nil ?_; simp only [thenQ, inQ]
        -- REGION 9
        (repeat refine AWp.seq ?_); refine AWp.region ?_
        refine rn 8 (k := ?_) (h := by simp (maxSteps := 3000000) only [e1, e2, engA, engL, engT, reduceIte, reduceCtorEq, Nat.reduceLT, Nat.reduceLeDiff, Nat.reduceAdd, Nat.reduceSub, Nat.reduceMul, Nat.reduceEqDiff, Nat.reduceBneDiff, Nat.le_refl, Bool.false_eq_true, Int.reduceLT, Int.reduceLE, Int.reduceAdd, Int.reduceSub, Int.reduceMul, Int.reduceToNat, Int.reduceEq, Int.cast_ofNat_Int, Int.reduceNeg] <;> rfl)
        refine ryield hy2 ?_ (hlen s) hiy hK (hst s).2.1 (hst s).2.2
        simp only [Av.put]
        refine rn 1 ?_
        refine AL.nil ?_; simp only [thenQ, inQ]
        have hstep : runS step s (((onPage i p).map cellV).drop k) = if (step s (cellV (((i : Int) + 1) * 16 + k * w, w))).2 = true then runS step (step s (cellV (((i : Int) + 1) * 16 + k * w, w))).1 (((onPage i p).map cellV).drop (k + 1)) else ((step s (cellV (((i : Int) + 1) * 16 + k * w, w))).1, false) := by
          rw [drop_cons hget]; rfl
        rw [hstep] at h3
        (repeat refine AWp.seq ?_)
        refine rc (fun hb4 => ?_) (fun hb4 => ?_)
        · have hgo : (step s (cellV (((i : Int) + 1) * 16 + k * w, w))).2 = false := by have e : (!(step s (cellV (((i : Int) + 1) * 16 + k * w, w))).2) = true := hb4; simpa using e
          rw [hgo] at h3
          refine AWp.ret ?_; (try simp only [inQ, thenQ])
          refine rretM (hlen s0) (hlen _) (hst _).2.1 (hst _).2.2 rfl rfl ⟨rfl, ?_⟩
          rw [h3]; rfl
        · have hgo : (step s (cellV (((i : Int) + 1) * 16 + k * w, w))).2 = true := by have e : (!(step s (cellV (((i : Int) + 1) * 16 + k * w, w))).2) = false := hb4; simpa using e
          rw [hgo] at h3
          (repeat refine AWp.seq ?_)
          refine AWp.skip ?_
          (try simp only [inQ, thenQ])
          -- REGION 10
          (repeat refine AWp.seq ?_); refine AWp.region ?_
          refine rn 2 (k := ?_) (h := by simp (maxSteps := 3000000) only [e3, engA, engL, engT, reduceIte, reduceCtorEq, Nat.reduceLT, Nat.reduceLeDiff, Nat.reduceAdd, Nat.reduceSub, Nat.reduceMul, Nat.reduceEqDiff, Nat.reduceBneDiff, Nat.le_refl, Bool.false_eq_true, Int.reduceLT, Int.reduceLE, Int.reduceAdd, Int.reduceSub, Int.reduceMul, Int.reduceToNat, Int.reduceEq, Int.cast_ofNat_Int, Int.reduceNeg] <;> rfl)
          refine AL.nil ?_; simp only [thenQ, inQ]
          (try simp only [inQ, thenQ])
          exact ⟨(k + 1, _), ⟨hkN, hy1 hgo, h3⟩, by simp only; omega, (by simp only [engA, engL, engT, reduceIte, reduceCtorEq, Nat.reduceLT, Nat.reduceLeDiff, Nat.reduceAdd, Nat.reduceSub, Nat.reduceMul, Nat.reduceEqDiff, Nat.reduceBneDiff, Nat.le_refl, Bool.false_eq_true, Int.reduceLT, Int.reduceLE, Int.reduceAdd, Int.reduceSub, Int.reduceMul, Int.reduceToNat, Int.reduceEq, Int.cast_ofNat_Int, Int.reduceNeg, eq_self, and_self]), rfl⟩
      · have hkN : k = N := by simp at hb3; omega
        refine AWp.exit ?_
        simp only [inQ, thenQ, reduceIte, Nat.reduceEqDiff]
        refine rnorM (hlen s0) (hlen _) (hst _).2.1 (hst _).2.2 rfl rfl ⟨rfl, ?_⟩
        rw [h3, hkN, hcs, List.drop_of_length_le (by simp)]; rfl
    · have hk1 : p.kind ≠ 2 := by simpa using hb
      have hk2 : p.kind ≠ 1 := by simpa using hb2
      have hcs : (onPage i p).map cellV = [] := by simp [onPage, hk1, hk2]
      (repeat refine AWp.seq ?_)
      refine AWp.skip ?_
      (try simp only [inQ, thenQ])
      refine rnorM (hlen s0) (hlen _) (hst _).2.1 (hst _).2.2 rfl rfl ⟨rfl, ?_⟩
      rw [hcs]; rfl
end Go.Proofs
end
