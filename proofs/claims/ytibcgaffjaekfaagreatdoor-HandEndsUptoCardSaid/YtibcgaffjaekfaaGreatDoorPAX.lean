/- HandEnds: for every heap, collector and thread of bulk at most 1048576 (each value and letter counted) the law function returns true and its arguments read as before; class.words is laid by the program's text (tied). -/
import Derived.Test.YtibcgaffjaekfaaGreatDoorCards
import Derived.Test.YtibcgaffjaekfaaGreatDoorTie
import Derived.WalkKit
import Derived.ProofKit
import Derived.OpenShut
import Derived.Test.YtibcgaffjaekfaaGreatDoorPAJ
import Derived.Test.YtibcgaffjaekfaaGreatDoorPAM
import Derived.Test.YtibcgaffjaekfaaGreatDoorPAV
import Derived.Test.YtibcgaffjaekfaaGreatDoorPAW
set_option linter.all false
section
set_option linter.unusedSimpArgs false
set_option maxRecDepth 20000
set_option maxHeartbeats 1000000
namespace Go.Proofs
open Go Av Rp
theorem c_ragpickerlaw15_HandEnds (G : Globs) (h : Heap) (c : Col) (t : Thread) (hG : List.lookup 0 G = some wordsI) : ACall Tryz.prog G 4 [heapV h, colV c, threadV t] [] (fun r L' => r = boolv true ∧ L' = []) := by
  refine ACall.enter Tryz.func4 rfl Tryz.ntmps4 (by rw [Tryz.results4]) (Nat.le_of_ble_eq_true rfl) rfl ?_
  -- REGION 0
  (repeat refine AWp.seq ?_); refine AWp.region ?_
  refine rn 4 ?_
  refine AL.nil ?_; simp only [thenQ, inQ]
  -- REGION 1
  (repeat refine AWp.seq ?_); refine AWp.region ?_
  refine rcall Tryz.call6 (hC := c_ragpickerlaw15_awake G (by first | assumption | omega | simp_all)) (kk := ?_); simp only [Av.put]
  refine rn 1 ?_
  refine AL.nil ?_; simp only [thenQ, inQ]
  -- REGION 2
  (repeat refine AWp.seq ?_); refine AWp.region ?_
  refine rn 3 ?_
  refine rcall Tryz.call7 (hC := c_ragpickerlaw15_few G _ _ _) (kk := ?_); simp only [Av.put]
  refine rn 1 ?_
  refine AL.nil ?_; simp only [thenQ, inQ]
  -- REGION 3
  (repeat refine AWp.seq ?_); refine AWp.region ?_
  refine rn 3 ?_
  refine rsp 21 (fun hb => ?_) (fun hb => ?_)
  · skip
    refine rn 4 ?_
    refine rn 4 ?_
    refine rn 1 ?_
    refine AL.nil ?_; simp only [thenQ, inQ]
    (repeat refine AWp.seq ?_)
    refine rc (t := true) (fun hb => ?_) (fun hb => by cases hb)
    -- REGION 4
    (repeat refine AWp.seq ?_); refine AWp.region ?_
    refine rn 2 ?_
    refine AL.nil ?_; simp only [thenQ, inQ]
    refine AWp.ret ?_; (try simp only [inQ, thenQ]); refine rret 0 ?_
    refine ⟨?_, rfl⟩; rfl
  · skip
    refine rn 4 ?_
    refine rsp 25 (fun hb => ?_) (fun hb => ?_)
    · skip
      refine rn 4 ?_
      refine rn 1 ?_
      refine AL.nil ?_; simp only [thenQ, inQ]
      (repeat refine AWp.seq ?_)
      refine rc (t := true) (fun hb => ?_) (fun hb => by cases hb)
      -- REGION 4
      (repeat refine AWp.seq ?_); refine AWp.region ?_
      refine rn 2 ?_
      refine AL.nil ?_; simp only [thenQ, inQ]
      refine AWp.ret ?_; (try simp only [inQ, thenQ]); refine rret 0 ?_
      refine ⟨?_, rfl⟩; rfl
    · skip
      refine rn 2 ?_
      refine rcallG Tryz.call8 (hC := c_hand_Asked G c t) (kk := ?_); simp only [Av.put]
      refine rn 2 ?_
      refine AL.nil ?_; simp only [thenQ, inQ]
      (repeat refine AWp.seq ?_)
      refine rc (fun hb => ?_) (fun hb => ?_)
      · skip
        -- REGION 4
        (repeat refine AWp.seq ?_); refine AWp.region ?_
        refine rn 2 ?_
        refine AL.nil ?_; simp only [thenQ, inQ]
        refine AWp.ret ?_; (try simp only [inQ, thenQ]); refine rret 0 ?_
        refine ⟨?_, rfl⟩; rfl
      · skip
        (repeat refine AWp.seq ?_)
        refine AWp.skip ?_
        (try simp only [inQ, thenQ])
        have hf15 : few15 h c t = true := (by have hq := ‹(!few15 h c t) = false›; simpa using hq)
        have hfew := few_F hf15
        have hcw := few_C hf15
        have hask : asked c t = true := by simpa using hb
        -- REGION 5
        (repeat refine AWp.seq ?_); refine AWp.region ?_
        refine rn 3 ?_
        refine AL.nil ?_; simp only [thenQ, inQ]
        -- REGION 6
        (repeat refine AWp.seq ?_); refine AWp.region ?_
        refine rn 1 ?_
        refine rcall Tryz.call14 (hC := c_ragpickerref07_Own G _) (kk := ?_); simp only [Av.put]
        refine rn 2 ?_
        refine AL.nil ?_; simp only [thenQ, inQ]
        -- REGION 7
        (repeat refine AWp.seq ?_); refine AWp.region ?_
        refine rn 1 ?_
        refine rcall Tryz.call15 (hC := c_ragpickerref11_Own G _) (kk := ?_); simp only [Av.put]
        refine rn 2 ?_
        refine AL.nil ?_; simp only [thenQ, inQ]
        -- REGION 8
        (repeat refine AWp.seq ?_); refine AWp.region ?_
        refine rn 1 ?_
        refine AL.nil ?_; simp only [thenQ, inQ]
        (repeat refine AWp.seq ?_)
        refine AWp.block ?_
        refine AWp.freezeV 0 (cs := heapI h) rfl ?_; simp only [frvT, frvB, SV.frv, frvL, Blk.frv, List.map_cons, List.map_nil, reduceIte, Nat.reduceEqDiff]
        refine AWp.freezeV 1 (cs := colI c) rfl ?_; simp only [frvT, frvB, SV.frv, frvL, Blk.frv, List.map_cons, List.map_nil, reduceIte, Nat.reduceEqDiff]
        refine AWp.freezeV 3 (cs := threadI t) rfl ?_; simp only [frvT, frvB, SV.frv, frvL, Blk.frv, List.map_cons, List.map_nil, reduceIte, Nat.reduceEqDiff]
        (repeat refine AWp.seq ?_)
        refine AWp.loopS (σ := Nat × Heap × Col × Thread) (fun s => s.1 ≤ 6 ∧ ans6 (6 - s.1) s.2.1 s.2.2.1 s.2.2.2 = ans6 6 h c t ∧ s.2.1.F = h.F ∧ s.2.2.1.work.length ≤ c.work.length + s.1) (fun s => 6 - s.1) (fun s => [(12, intv s.1), (3, .im (.pt (heapI h) 0)), (4, .im (.pt (colI c) 0)), (5, .loc 2 0), (9, .im (.pt (threadI t) 0)), (10, .loc 4 0), (11, .loc 5 0)]) (fun s => [.dead, .dead, .vars ((threadI s.2.2.2).map .im) 34, .dead, .vars ((heapI s.2.1).map .im) 28, .vars ((colI s.2.2.1).map .im) 30]) (0, h, c, t) ⟨⟨Nat.zero_le _, rfl, rfl, Nat.le_refl _⟩, (by simp only [engA, engL, engT, reduceIte, reduceCtorEq, Nat.reduceLT, Nat.reduceLeDiff, Nat.reduceAdd, Nat.reduceSub, Nat.reduceMul, Nat.reduceEqDiff, Nat.reduceBneDiff, Nat.le_refl, Bool.false_eq_true, Int.reduceLT, Int.reduceLE, Int.reduceAdd, Int.reduceSub, Int.reduceMul, Int.reduceToNat, Int.reduceEq, Int.cast_ofNat_Int, Int.reduceNeg, eq_self, and_self]), rfl⟩ ?_
        rintro ⟨i, k, d, u⟩ ⟨h1, h2, h3, h4⟩
        simp only at h1 h2 h3 h4 ⊢
        simp only [threadI, heapI, colI, List.map_cons, List.map_nil]
        -- REGION 9
        (repeat refine AWp.seq ?_); refine AWp.region ?_
        refine rn 3 ?_
        refine rsp 39 (fun hb => ?_) (fun hb => ?_)
        · have hi : i < 6 := by simp at hb; omega
          refine rn 2 ?_
          refine rcallG Tryz.call8 (hC := c_hand_Asked G d u) (kk := ?_); simp only [Av.put]
          refine rn 1 ?_
          refine AL.nil ?_; simp only [thenQ, inQ]
          (repeat refine AWp.seq ?_)
          refine rc (fun ha => ?_) (fun ha => ?_)
          · obtain ⟨K1, K2⟩ := answer_kept (Kept.refl k d) ha
            have hw : IntKind.i64.wrap ((i : Int) + 1) = ((i + 1 : Nat) : Int) := (by rw [wrap_id _ (by omega) (by omega)]; omega)
            (repeat refine AWp.seq ?_)
            refine AWp.skip ?_
            (try simp only [inQ, thenQ])
            (repeat refine AWp.seq ?_)
            refine AWp.block ?_
            -- REGION 11
            (repeat refine AWp.seq ?_); refine AWp.region ?_
            refine rn 3 ?_
            refine rcall Tryz.call10 (hC := c_hand_Answer G k d u hG (by rw [h3]; exact hfew.1) (by omega)) (kk := ?_); simp only [Av.put]
            refine rn 4 ?_
            refine rn 3 ?_
            refine AL.nil ?_; simp only [thenQ, inQ]
            -- REGION 10
            (repeat refine AWp.seq ?_); refine AWp.region ?_
            refine rn 3 (k := ?_) (h := by simp (maxSteps := 3000000) only [hw, engA, engL, engT, reduceIte, reduceCtorEq, Nat.reduceLT, Nat.reduceLeDiff, Nat.reduceAdd, Nat.reduceSub, Nat.reduceMul, Nat.reduceEqDiff, Nat.reduceBneDiff, Nat.le_refl, Bool.false_eq_true, Int.reduceLT, Int.reduceLE, Int.reduceAdd, Int.reduceSub, Int.reduceMul, Int.reduceToNat, Int.reduceEq, Int.cast_ofNat_Int, Int.reduceNeg] <;> rfl)
            refine AL.nil ?_; simp only [thenQ, inQ]
            (try simp only [inQ, thenQ])
            exact ⟨(i + 1, (answer k d u).1, (answer k d u).2.1, (answer k d u).2.2), ⟨hi, (ans6_yes hi ha).symm.trans h2, K1.F.trans h3, by show (answer k d u).2.1.work.length ≤ c.work.length + (i + 1); omega⟩, by show 6 - (i + 1) < 6 - i; omega, (by simp only [engA, engL, engT, reduceIte, reduceCtorEq, Nat.reduceLT, Nat.reduceLeDiff, Nat.reduceAdd, Nat.reduceSub, Nat.reduceMul, Nat.reduceEqDiff, Nat.reduceBneDiff, Nat.le_refl, Bool.false_eq_true, Int.reduceLT, Int.reduceLE, Int.reduceAdd, Int.reduceSub, Int.reduceMul, Int.reduceToNat, Int.reduceEq, Int.cast_ofNat_Int, Int.reduceNeg, eq_self, and_self]), by first | rfl | trivial⟩
          · have hfin : (k, d, u) = ans6 6 h c t := by rw [← h2, ans6_no ha]
            refine AWp.exit ?_
            simp only [inQ, thenQ, reduceIte, Nat.reduceEqDiff]
            obtain ⟨hA, hAll, hmay, K, TK⟩ := ends_law (h := h) hask
            rw [← hfin] at hA hAll hmay K TK
            simp only at hA hAll hmay K TK
            have hlen := K.len
            -- REGION 12
            (repeat refine AWp.seq ?_); refine AWp.region ?_
            refine rn 2 ?_
            refine rcall Tryz.call8 (hC := c_hand_Asked G d u) (kk := ?_); simp only [Av.put]
            rw [hA]
            refine rn 3 ?_
            refine rbuildNG ti48 ti34 ?_; simp only [Av.put]
            refine rcallG Tryz.call9 (hC := c_hand_All G d [u]) (kk := ?_); simp only [Av.put]
            rw [hAll]
            refine rn 4 ?_
            refine rn 4 (k := ?_) (h := by simp (maxSteps := 3000000) only [hlen, engA, engL, engT, reduceIte, reduceCtorEq, Nat.reduceLT, Nat.reduceLeDiff, Nat.reduceAdd, Nat.reduceSub, Nat.reduceMul, Nat.reduceEqDiff, Nat.reduceBneDiff, Nat.le_refl, Bool.false_eq_true, Int.reduceLT, Int.reduceLE, Int.reduceAdd, Int.reduceSub, Int.reduceMul, Int.reduceToNat, Int.reduceEq, Int.cast_ofNat_Int, Int.reduceNeg] <;> rfl)
            refine rn 4 (k := ?_) (h := by simp (maxSteps := 3000000) only [hlen, eq_self, decide_true, Bool.not_true, engA, engL, engT, reduceIte, reduceCtorEq, Nat.reduceLT, Nat.reduceLeDiff, Nat.reduceAdd, Nat.reduceSub, Nat.reduceMul, Nat.reduceEqDiff, Nat.reduceBneDiff, Nat.le_refl, Bool.false_eq_true, Int.reduceLT, Int.reduceLE, Int.reduceAdd, Int.reduceSub, Int.reduceMul, Int.reduceToNat, Int.reduceEq, Int.cast_ofNat_Int, Int.reduceNeg] <;> rfl)
            refine rn 1 ?_
            refine rcallG Tryz.call16 (hC := c_regs_May G u) (kk := ?_); simp only [Av.put]
            rw [hmay]
            refine rn 2 ?_
            refine AL.nil ?_; simp only [thenQ, inQ]
            (repeat refine AWp.seq ?_)
            refine rc (t := false) (fun hb => by cases hb) (fun hb => ?_)
            (repeat refine AWp.seq ?_)
            refine AWp.skip ?_
            (try simp only [inQ, thenQ])
            -- REGION 14
            (repeat refine AWp.seq ?_); refine AWp.region ?_
            refine rn 1 ?_
            refine AL.nil ?_; simp only [thenQ, inQ]
            (repeat refine AWp.seq ?_)
            refine AWp.block ?_
            refine AWp.freezeV 2 (cs := threadI u) rfl ?_; simp only [frvT, frvB, SV.frv, frvL, Blk.frv, List.map_cons, List.map_nil, reduceIte, Nat.reduceEqDiff]
            refine AWp.freezeV 4 (cs := heapI k) rfl ?_; simp only [frvT, frvB, SV.frv, frvL, Blk.frv, List.map_cons, List.map_nil, reduceIte, Nat.reduceEqDiff]
            refine AWp.freezeV 5 (cs := colI d) rfl ?_; simp only [frvT, frvB, SV.frv, frvL, Blk.frv, List.map_cons, List.map_nil, reduceIte, Nat.reduceEqDiff]
            (repeat refine AWp.seq ?_)
            refine AWp.loopS (σ := Nat) (fun i => i ≤ h.W.length) (fun i => h.W.length - i) (fun i => [(13, intv i), (3, .im (.pt (heapI h) 0)), (4, .im (.pt (colI c) 0)), (5, .im (.pt (threadI u) 0)), (9, .im (.pt (threadI t) 0)), (10, .im (.pt (heapI k) 0)), (11, .im (.pt (colI d) 0))]) (fun _ => [.dead, .dead, .dead, .dead, .dead, .dead]) 0 ⟨Nat.zero_le _, (by simp only [engA, engL, engT, reduceIte, reduceCtorEq, Nat.reduceLT, Nat.reduceLeDiff, Nat.reduceAdd, Nat.reduceSub, Nat.reduceMul, Nat.reduceEqDiff, Nat.reduceBneDiff, Nat.le_refl, Bool.false_eq_true, Int.reduceLT, Int.reduceLE, Int.reduceAdd, Int.reduceSub, Int.reduceMul, Int.reduceToNat, Int.reduceEq, Int.cast_ofNat_Int, Int.reduceNeg, eq_self, and_self]), rfl⟩ ?_
            rintro j hj
            -- REGION 15
            (repeat refine AWp.seq ?_); refine AWp.region ?_
            refine rn 4 ?_
            refine rn 1 ?_
            refine AL.nil ?_; simp only [thenQ, inQ]
            (repeat refine AWp.seq ?_)
            refine rc (fun hb => ?_) (fun hb => ?_)
            · (repeat refine AWp.seq ?_)
              refine AWp.skip ?_
              (try simp only [inQ, thenQ])
              (repeat refine AWp.seq ?_)
              refine AWp.block ?_
              have hlt : j < h.W.length := (by simp at hb; omega)
              obtain ⟨y, hv⟩ : ∃ y, h.W[j]? = some y := ⟨_, List.getElem?_eq_getElem hlt⟩
              obtain ⟨x, hu⟩ : ∃ x, k.W[j]? = some x := ⟨_, List.getElem?_eq_getElem (by omega)⟩
              have hc : (0 ≤ (j : Int) ∧ (j : Int) < (k.W.length : Int)) = True := (by simp; omega)
              have hc2 : (0 ≤ (j : Int) ∧ (j : Int) < (h.W.length : Int)) = True := (by simp; omega)
              have hw : IntKind.i64.wrap ((j : Int) + 1) = ((j + 1 : Nat) : Int) := (by rw [wrap_id _ (by omega) (by omega)]; omega)
              have hw2 : IntKind.i64.wrap (16 + (j : Int)) = 16 + (j : Int) := wrap_id _ (by omega) (by omega)
              by_cases hxy : x = y
              · subst hxy
                (repeat refine AWp.seq ?_); refine rdraws [.flo 0 0, .flo 0 0, .flo 0 0, .flo 0 0, .flo 0 0, .flo 0 0, .flo 0 0, .flo 0 0, .flo 0 0, .flo 0 0, .flo 0 0, .flo 0 0, .flo 0 0, .flo 0 0, .flo 0 0, .flo 0 0, .flo 0 0, .flo 0 0, .flo 0 0] 0 [] mixed ?_ (h0 := by simp only [trun, oev, lk, chkAll, chkFrom, tS, undefS, List.getD_cons_zero, List.getD_cons_succ, if_true, hc, hc2, hu, hv, Int.toNat_natCast, List.getElem?_map, List.length_map, Nat.mul_one, Nat.div_one, Nat.mod_one, eq_self, decide_true, Bool.not_true, engA, engL, engT, reduceIte, reduceCtorEq, Nat.reduceLT, Nat.reduceLeDiff, Nat.reduceAdd, Nat.reduceSub, Nat.reduceMul, Nat.reduceEqDiff, Nat.reduceBneDiff, Nat.le_refl, Bool.false_eq_true, Int.reduceLT, Int.reduceLE, Int.reduceAdd, Int.reduceSub, Int.reduceMul, Int.reduceToNat, Int.reduceEq, Int.cast_ofNat_Int, Int.reduceNeg] <;> rfl) (hc := by simp only [trun, oev, lk, chkAll, chkFrom, tS, undefS, List.getD_cons_zero, List.getD_cons_succ, if_true, hc, hc2, hu, hv, Int.toNat_natCast, List.getElem?_map, List.length_map, Nat.mul_one, Nat.div_one, Nat.mod_one, eq_self, decide_true, Bool.not_true, engA, engL, engT, reduceIte, reduceCtorEq, Nat.reduceLT, Nat.reduceLeDiff, Nat.reduceAdd, Nat.reduceSub, Nat.reduceMul, Nat.reduceEqDiff, Nat.reduceBneDiff, Nat.le_refl, Bool.false_eq_true, Int.reduceLT, Int.reduceLE, Int.reduceAdd, Int.reduceSub, Int.reduceMul, Int.reduceToNat, Int.reduceEq, Int.cast_ofNat_Int, Int.reduceNeg]); refine ⟨trivial, ?_⟩; simp only [thenQ, inQ, tS, List.getD_cons_zero, List.getD_cons_succ, if_true]
                (repeat refine AWp.seq ?_)
                refine rc (t := false) (fun hb => by cases hb) (fun hb => ?_)
                (repeat refine AWp.seq ?_)
                refine AWp.skip ?_
                (try simp only [inQ, thenQ])
                -- REGION 16
                (repeat refine AWp.seq ?_); refine AWp.region ?_
                refine rn 3 (k := ?_) (h := by simp (maxSteps := 3000000) only [hw, engA, engL, engT, reduceIte, reduceCtorEq, Nat.reduceLT, Nat.reduceLeDiff, Nat.reduceAdd, Nat.reduceSub, Nat.reduceMul, Nat.reduceEqDiff, Nat.reduceBneDiff, Nat.le_refl, Bool.false_eq_true, Int.reduceLT, Int.reduceLE, Int.reduceAdd, Int.reduceSub, Int.reduceMul, Int.reduceToNat, Int.reduceEq, Int.cast_ofNat_Int, Int.reduceNeg] <;> rfl)
                refine AL.nil ?_; simp only [thenQ, inQ]
                (try simp only [inQ, thenQ])
                exact ⟨j + 1, hlt, by omega, (by simp only [engA, engL, engT, reduceIte, reduceCtorEq, Nat.reduceLT, Nat.reduceLeDiff, Nat.reduceAdd, Nat.reduceSub, Nat.reduceMul, Nat.reduceEqDiff, Nat.reduceBneDiff, Nat.le_refl, Bool.false_eq_true, Int.reduceLT, Int.reduceLE, Int.reduceAdd, Int.reduceSub, Int.reduceMul, Int.reduceToNat, Int.reduceEq, Int.cast_ofNat_Int, Int.reduceNeg, eq_self, and_self]), by first | rfl | trivial⟩
              · have hne : (x = y) = False := eq_false hxy
                have hwh : white h c (16 + (j : Int)) = true := decide_eq_true (K.word j (by rw [hu, hv]; simpa using hxy))
                (repeat refine AWp.seq ?_); refine rdraws [.flo 0 0, .flo 0 0, .flo 0 0, .flo 0 0, .flo 0 0, .flo 0 0, .flo 0 0, .flo 0 0, .flo 0 0, .flo 0 0, .flo 0 0, .flo 0 0, .flo 0 0, .flo 0 0, .flo 0 0, .flo 0 0, .flo 0 0, .flo 0 0, .flo 0 0] 0 [(16, boolv true)] mixed ?_ (h0 := by simp only [trun, oev, lk, chkAll, chkFrom, tS, undefS, List.getD_cons_zero, List.getD_cons_succ, if_true, hc, hc2, hu, hv, hw2, hne, Int.toNat_natCast, List.getElem?_map, List.length_map, Nat.mul_one, Nat.div_one, Nat.mod_one, decide_false, Bool.not_false, Bool.not_true, engA, engL, engT, reduceIte, reduceCtorEq, Nat.reduceLT, Nat.reduceLeDiff, Nat.reduceAdd, Nat.reduceSub, Nat.reduceMul, Nat.reduceEqDiff, Nat.reduceBneDiff, Nat.le_refl, Bool.false_eq_true, Int.reduceLT, Int.reduceLE, Int.reduceAdd, Int.reduceSub, Int.reduceMul, Int.reduceToNat, Int.reduceEq, Int.cast_ofNat_Int, Int.reduceNeg] <;> rfl) (hc := by simp only [trun, oev, lk, chkAll, chkFrom, tS, undefS, List.getD_cons_zero, List.getD_cons_succ, if_true, hc, hc2, hu, hv, hw2, hne, Int.toNat_natCast, List.getElem?_map, List.length_map, Nat.mul_one, Nat.div_one, Nat.mod_one, decide_false, Bool.not_false, Bool.not_true, engA, engL, engT, reduceIte, reduceCtorEq, Nat.reduceLT, Nat.reduceLeDiff, Nat.reduceAdd, Nat.reduceSub, Nat.reduceMul, Nat.reduceEqDiff, Nat.reduceBneDiff, Nat.le_refl, Bool.false_eq_true, Int.reduceLT, Int.reduceLE, Int.reduceAdd, Int.reduceSub, Int.reduceMul, Int.reduceToNat, Int.reduceEq, Int.cast_ofNat_Int, Int.reduceNeg]); refine ⟨⟨rck Tryz.call17 (hC := hwh ▸ c_shade_White G h c (16 + (j : Int)) hG hfew.1), trivial⟩, ?_⟩; simp only [thenQ, inQ, tS, List.getD_cons_zero, List.getD_cons_succ, if_true]
                (repeat refine AWp.seq ?_)
                refine rc (t := false) (fun hb => by cases hb) (fun hb => ?_)
                (repeat refine AWp.seq ?_)
                refine AWp.skip ?_
                (try simp only [inQ, thenQ])
                -- REGION 16
                (repeat refine AWp.seq ?_); refine AWp.region ?_
                refine rn 3 (k := ?_) (h := by simp (maxSteps := 3000000) only [hw, engA, engL, engT, reduceIte, reduceCtorEq, Nat.reduceLT, Nat.reduceLeDiff, Nat.reduceAdd, Nat.reduceSub, Nat.reduceMul, Nat.reduceEqDiff, Nat.reduceBneDiff, Nat.le_refl, Bool.false_eq_true, Int.reduceLT, Int.reduceLE, Int.reduceAdd, Int.reduceSub, Int.reduceMul, Int.reduceToNat, Int.reduceEq, Int.cast_ofNat_Int, Int.reduceNeg] <;> rfl)
                refine AL.nil ?_; simp only [thenQ, inQ]
                (try simp only [inQ, thenQ])
                exact ⟨j + 1, hlt, by omega, (by simp only [engA, engL, engT, reduceIte, reduceCtorEq, Nat.reduceLT, Nat.reduceLeDiff, Nat.reduceAdd, Nat.reduceSub, Nat.reduceMul, Nat.reduceEqDiff, Nat.reduceBneDiff, Nat.le_refl, Bool.false_eq_true, Int.reduceLT, Int.reduceLE, Int.reduceAdd, Int.reduceSub, Int.reduceMul, Int.reduceToNat, Int.reduceEq, Int.cast_ofNat_Int, Int.reduceNeg, eq_self, and_self]), by first | rfl | trivial⟩
            · refine AWp.exit ?_
              simp only [inQ, thenQ, reduceIte, Nat.reduceEqDiff]
              have t0 := TK.r0
              have t1 := TK.r1
              have t2 := TK.r2
              have t3 := TK.r3
              have tp : u.pc = 0 := TK.pc.trans (asked_facts hask).2.2.1
              have td := TK.do_
              have dp := K.phase
              have de := K.epoch
              -- REGION 19
              (repeat refine AWp.seq ?_); refine AWp.region ?_
              refine rn 4 ?_
              refine req (fun W => eqR _ _ _ _ _ _ _ _ W) ?_; simp only [Av.put, reduceIte, reduceCtorEq, t0, t1, t2, t3, decide_true, Bool.and_self]
              refine rn 4 ?_
              refine rn 4 (k := ?_) (h := by simp (maxSteps := 3000000) only [tp, eq_self, decide_true, engA, engL, engT, reduceIte, reduceCtorEq, Nat.reduceLT, Nat.reduceLeDiff, Nat.reduceAdd, Nat.reduceSub, Nat.reduceMul, Nat.reduceEqDiff, Nat.reduceBneDiff, Nat.le_refl, Bool.false_eq_true, Int.reduceLT, Int.reduceLE, Int.reduceAdd, Int.reduceSub, Int.reduceMul, Int.reduceToNat, Int.reduceEq, Int.cast_ofNat_Int, Int.reduceNeg] <;> rfl)
              refine rn 4 (k := ?_) (h := by simp (maxSteps := 3000000) only [td, engA, engL, engT, reduceIte, reduceCtorEq, Nat.reduceLT, Nat.reduceLeDiff, Nat.reduceAdd, Nat.reduceSub, Nat.reduceMul, Nat.reduceEqDiff, Nat.reduceBneDiff, Nat.le_refl, Bool.false_eq_true, Int.reduceLT, Int.reduceLE, Int.reduceAdd, Int.reduceSub, Int.reduceMul, Int.reduceToNat, Int.reduceEq, Int.cast_ofNat_Int, Int.reduceNeg] <;> rfl)
              refine rn 4 (k := ?_) (h := by simp (maxSteps := 3000000) only [td, eq_self, decide_true, engA, engL, engT, reduceIte, reduceCtorEq, Nat.reduceLT, Nat.reduceLeDiff, Nat.reduceAdd, Nat.reduceSub, Nat.reduceMul, Nat.reduceEqDiff, Nat.reduceBneDiff, Nat.le_refl, Bool.false_eq_true, Int.reduceLT, Int.reduceLE, Int.reduceAdd, Int.reduceSub, Int.reduceMul, Int.reduceToNat, Int.reduceEq, Int.cast_ofNat_Int, Int.reduceNeg] <;> rfl)
              refine rn 4 (k := ?_) (h := by simp (maxSteps := 3000000) only [dp, engA, engL, engT, reduceIte, reduceCtorEq, Nat.reduceLT, Nat.reduceLeDiff, Nat.reduceAdd, Nat.reduceSub, Nat.reduceMul, Nat.reduceEqDiff, Nat.reduceBneDiff, Nat.le_refl, Bool.false_eq_true, Int.reduceLT, Int.reduceLE, Int.reduceAdd, Int.reduceSub, Int.reduceMul, Int.reduceToNat, Int.reduceEq, Int.cast_ofNat_Int, Int.reduceNeg] <;> rfl)
              refine rn 4 (k := ?_) (h := by simp (maxSteps := 3000000) only [dp, eq_self, decide_true, engA, engL, engT, reduceIte, reduceCtorEq, Nat.reduceLT, Nat.reduceLeDiff, Nat.reduceAdd, Nat.reduceSub, Nat.reduceMul, Nat.reduceEqDiff, Nat.reduceBneDiff, Nat.le_refl, Bool.false_eq_true, Int.reduceLT, Int.reduceLE, Int.reduceAdd, Int.reduceSub, Int.reduceMul, Int.reduceToNat, Int.reduceEq, Int.cast_ofNat_Int, Int.reduceNeg] <;> rfl)
              refine rn 4 (k := ?_) (h := by simp (maxSteps := 3000000) only [de, eq_self, decide_true, engA, engL, engT, reduceIte, reduceCtorEq, Nat.reduceLT, Nat.reduceLeDiff, Nat.reduceAdd, Nat.reduceSub, Nat.reduceMul, Nat.reduceEqDiff, Nat.reduceBneDiff, Nat.le_refl, Bool.false_eq_true, Int.reduceLT, Int.reduceLE, Int.reduceAdd, Int.reduceSub, Int.reduceMul, Int.reduceToNat, Int.reduceEq, Int.cast_ofNat_Int, Int.reduceNeg] <;> rfl)
              refine rn 1 (k := ?_) (h := by simp (maxSteps := 3000000) only [de, eq_self, decide_true, engA, engL, engT, reduceIte, reduceCtorEq, Nat.reduceLT, Nat.reduceLeDiff, Nat.reduceAdd, Nat.reduceSub, Nat.reduceMul, Nat.reduceEqDiff, Nat.reduceBneDiff, Nat.le_refl, Bool.false_eq_true, Int.reduceLT, Int.reduceLE, Int.reduceAdd, Int.reduceSub, Int.reduceMul, Int.reduceToNat, Int.reduceEq, Int.cast_ofNat_Int, Int.reduceNeg] <;> rfl)
              refine AL.nil ?_; simp only [thenQ, inQ]
              refine AWp.ret ?_; (try simp only [inQ, thenQ]); refine rret 0 ?_
              exact ⟨rfl, rfl⟩
        · have hfin : (k, d, u) = ans6 6 h c t := by rw [← h2]; have : i = 6 := (by simp at hb; omega); subst this; rfl
          refine rn 2 ?_
          refine rn 2 ?_
          refine AL.nil ?_; simp only [thenQ, inQ]
          (repeat refine AWp.seq ?_)
          refine rc (t := false) (fun hb => by cases hb) (fun hb => ?_)
          refine AWp.exit ?_
          simp only [inQ, thenQ, reduceIte, Nat.reduceEqDiff]
          obtain ⟨hA, hAll, hmay, K, TK⟩ := ends_law (h := h) hask
          rw [← hfin] at hA hAll hmay K TK
          simp only at hA hAll hmay K TK
          have hlen := K.len
          -- REGION 12
          (repeat refine AWp.seq ?_); refine AWp.region ?_
          refine rn 2 ?_
          refine rcall Tryz.call8 (hC := c_hand_Asked G d u) (kk := ?_); simp only [Av.put]
          rw [hA]
          refine rn 3 ?_
          refine rbuildNG ti48 ti34 ?_; simp only [Av.put]
          refine rcallG Tryz.call9 (hC := c_hand_All G d [u]) (kk := ?_); simp only [Av.put]
          rw [hAll]
          refine rn 4 ?_
          refine rn 4 (k := ?_) (h := by simp (maxSteps := 3000000) only [hlen, engA, engL, engT, reduceIte, reduceCtorEq, Nat.reduceLT, Nat.reduceLeDiff, Nat.reduceAdd, Nat.reduceSub, Nat.reduceMul, Nat.reduceEqDiff, Nat.reduceBneDiff, Nat.le_refl, Bool.false_eq_true, Int.reduceLT, Int.reduceLE, Int.reduceAdd, Int.reduceSub, Int.reduceMul, Int.reduceToNat, Int.reduceEq, Int.cast_ofNat_Int, Int.reduceNeg] <;> rfl)
          refine rn 4 (k := ?_) (h := by simp (maxSteps := 3000000) only [hlen, eq_self, decide_true, Bool.not_true, engA, engL, engT, reduceIte, reduceCtorEq, Nat.reduceLT, Nat.reduceLeDiff, Nat.reduceAdd, Nat.reduceSub, Nat.reduceMul, Nat.reduceEqDiff, Nat.reduceBneDiff, Nat.le_refl, Bool.false_eq_true, Int.reduceLT, Int.reduceLE, Int.reduceAdd, Int.reduceSub, Int.reduceMul, Int.reduceToNat, Int.reduceEq, Int.cast_ofNat_Int, Int.reduceNeg] <;> rfl)
          refine rn 1 ?_
          refine rcallG Tryz.call16 (hC := c_regs_May G u) (kk := ?_); simp only [Av.put]
          rw [hmay]
          refine rn 2 ?_
          refine AL.nil ?_; simp only [thenQ, inQ]
          (repeat refine AWp.seq ?_)
          refine rc (t := false) (fun hb => by cases hb) (fun hb => ?_)
          (repeat refine AWp.seq ?_)
          refine AWp.skip ?_
          (try simp only [inQ, thenQ])
          -- REGION 14
          (repeat refine AWp.seq ?_); refine AWp.region ?_
          refine rn 1 ?_
          refine AL.nil ?_; simp only [thenQ, inQ]
          (repeat refine AWp.seq ?_)
          refine AWp.block ?_
          refine AWp.freezeV 2 (cs := threadI u) rfl ?_; simp only [frvT, frvB, SV.frv, frvL, Blk.frv, List.map_cons, List.map_nil, reduceIte, Nat.reduceEqDiff]
          refine AWp.freezeV 4 (cs := heapI k) rfl ?_; simp only [frvT, frvB, SV.frv, frvL, Blk.frv, List.map_cons, List.map_nil, reduceIte, Nat.reduceEqDiff]
          refine AWp.freezeV 5 (cs := colI d) rfl ?_; simp only [frvT, frvB, SV.frv, frvL, Blk.frv, List.map_cons, List.map_nil, reduceIte, Nat.reduceEqDiff]
          (repeat refine AWp.seq ?_)
          refine AWp.loopS (σ := Nat) (fun i => i ≤ h.W.length) (fun i => h.W.length - i) (fun i => [(13, intv i), (3, .im (.pt (heapI h) 0)), (4, .im (.pt (colI c) 0)), (5, .im (.pt (threadI u) 0)), (9, .im (.pt (threadI t) 0)), (10, .im (.pt (heapI k) 0)), (11, .im (.pt (colI d) 0))]) (fun _ => [.dead, .dead, .dead, .dead, .dead, .dead]) 0 ⟨Nat.zero_le _, (by simp only [engA, engL, engT, reduceIte, reduceCtorEq, Nat.reduceLT, Nat.reduceLeDiff, Nat.reduceAdd, Nat.reduceSub, Nat.reduceMul, Nat.reduceEqDiff, Nat.reduceBneDiff, Nat.le_refl, Bool.false_eq_true, Int.reduceLT, Int.reduceLE, Int.reduceAdd, Int.reduceSub, Int.reduceMul, Int.reduceToNat, Int.reduceEq, Int.cast_ofNat_Int, Int.reduceNeg, eq_self, and_self]), rfl⟩ ?_
          rintro j hj
          -- REGION 15
          (repeat refine AWp.seq ?_); refine AWp.region ?_
          refine rn 4 ?_
          refine rn 1 ?_
          refine AL.nil ?_; simp only [thenQ, inQ]
          (repeat refine AWp.seq ?_)
          refine rc (fun hb => ?_) (fun hb => ?_)
          · (repeat refine AWp.seq ?_)
            refine AWp.skip ?_
            (try simp only [inQ, thenQ])
            (repeat refine AWp.seq ?_)
            refine AWp.block ?_
            have hlt : j < h.W.length := (by simp at hb; omega)
            obtain ⟨y, hv⟩ : ∃ y, h.W[j]? = some y := ⟨_, List.getElem?_eq_getElem hlt⟩
            obtain ⟨x, hu⟩ : ∃ x, k.W[j]? = some x := ⟨_, List.getElem?_eq_getElem (by omega)⟩
            have hc : (0 ≤ (j : Int) ∧ (j : Int) < (k.W.length : Int)) = True := (by simp; omega)
            have hc2 : (0 ≤ (j : Int) ∧ (j : Int) < (h.W.length : Int)) = True := (by simp; omega)
            have hw : IntKind.i64.wrap ((j : Int) + 1) = ((j + 1 : Nat) : Int) := (by rw [wrap_id _ (by omega) (by omega)]; omega)
            have hw2 : IntKind.i64.wrap (16 + (j : Int)) = 16 + (j : Int) := wrap_id _ (by omega) (by omega)
            by_cases hxy : x = y
            · subst hxy
              (repeat refine AWp.seq ?_); refine rdraws [.flo 0 0, .flo 0 0, .flo 0 0, .flo 0 0, .flo 0 0, .flo 0 0, .flo 0 0, .flo 0 0, .flo 0 0, .flo 0 0, .flo 0 0, .flo 0 0, .flo 0 0, .flo 0 0, .flo 0 0, .flo 0 0, .flo 0 0, .flo 0 0, .flo 0 0] 0 [] mixed ?_ (h0 := by simp only [trun, oev, lk, chkAll, chkFrom, tS, undefS, List.getD_cons_zero, List.getD_cons_succ, if_true, hc, hc2, hu, hv, Int.toNat_natCast, List.getElem?_map, List.length_map, Nat.mul_one, Nat.div_one, Nat.mod_one, eq_self, decide_true, Bool.not_true, engA, engL, engT, reduceIte, reduceCtorEq, Nat.reduceLT, Nat.reduceLeDiff, Nat.reduceAdd, Nat.reduceSub, Nat.reduceMul, Nat.reduceEqDiff, Nat.reduceBneDiff, Nat.le_refl, Bool.false_eq_true, Int.reduceLT, Int.reduceLE, Int.reduceAdd, Int.reduceSub, Int.reduceMul, Int.reduceToNat, Int.reduceEq, Int.cast_ofNat_Int, Int.reduceNeg] <;> rfl) (hc := by simp only [trun, oev, lk, chkAll, chkFrom, tS, undefS, List.getD_cons_zero, List.getD_cons_succ, if_true, hc, hc2, hu, hv, Int.toNat_natCast, List.getElem?_map, List.length_map, Nat.mul_one, Nat.div_one, Nat.mod_one, eq_self, decide_true, Bool.not_true, engA, engL, engT, reduceIte, reduceCtorEq, Nat.reduceLT, Nat.reduceLeDiff, Nat.reduceAdd, Nat.reduceSub, Nat.reduceMul, Nat.reduceEqDiff, Nat.reduceBneDiff, Nat.le_refl, Bool.false_eq_true, Int.reduceLT, Int.reduceLE, Int.reduceAdd, Int.reduceSub, Int.reduceMul, Int.reduceToNat, Int.reduceEq, Int.cast_ofNat_Int, Int.reduceNeg]); refine ⟨trivial, ?_⟩; simp only [thenQ, inQ, tS, List.getD_cons_zero, List.getD_cons_succ, if_true]
              (repeat refine AWp.seq ?_)
              refine rc (t := false) (fun hb => by cases hb) (fun hb => ?_)
              (repeat refine AWp.seq ?_)
              refine AWp.skip ?_
              (try simp only [inQ, thenQ])
              -- REGION 16
              (repeat refine AWp.seq ?_); refine AWp.region ?_
              refine rn 3 (k := ?_) (h := by simp (maxSteps := 3000000) only [hw, engA, engL, engT, reduceIte, reduceCtorEq, Nat.reduceLT, Nat.reduceLeDiff, Nat.reduceAdd, Nat.reduceSub, Nat.reduceMul, Nat.reduceEqDiff, Nat.reduceBneDiff, Nat.le_refl, Bool.false_eq_true, Int.reduceLT, Int.reduceLE, Int.reduceAdd, Int.reduceSub, Int.reduceMul, Int.reduceToNat, Int.reduceEq, Int.cast_ofNat_Int, Int.reduceNeg] <;> rfl)
              refine AL.nil ?_; simp only [thenQ, inQ]
              (try simp only [inQ, thenQ])
              exact ⟨j + 1, hlt, by omega, (by simp only [engA, engL, engT, reduceIte, reduceCtorEq, Nat.reduceLT, Nat.reduceLeDiff, Nat.reduceAdd, Nat.reduceSub, Nat.reduceMul, Nat.reduceEqDiff, Nat.reduceBneDiff, Nat.le_refl, Bool.false_eq_true, Int.reduceLT, Int.reduceLE, Int.reduceAdd, Int.reduceSub, Int.reduceMul, Int.reduceToNat, Int.reduceEq, Int.cast_ofNat_Int, Int.reduceNeg, eq_self, and_self]), by first | rfl | trivial⟩
            · have hne : (x = y) = False := eq_false hxy
              have hwh : white h c (16 + (j : Int)) = true := decide_eq_true (K.word j (by rw [hu, hv]; simpa using hxy))
              (repeat refine AWp.seq ?_); refine rdraws [.flo 0 0, .flo 0 0, .flo 0 0, .flo 0 0, .flo 0 0, .flo 0 0, .flo 0 0, .flo 0 0, .flo 0 0, .flo 0 0, .flo 0 0, .flo 0 0, .flo 0 0, .flo 0 0, .flo 0 0, .flo 0 0, .flo 0 0, .flo 0 0, .flo 0 0] 0 [(16, boolv true)] mixed ?_ (h0 := by simp only [trun, oev, lk, chkAll, chkFrom, tS, undefS, List.getD_cons_zero, List.getD_cons_succ, if_true, hc, hc2, hu, hv, hw2, hne, Int.toNat_natCast, List.getElem?_map, List.length_map, Nat.mul_one, Nat.div_one, Nat.mod_one, decide_false, Bool.not_false, Bool.not_true, engA, engL, engT, reduceIte, reduceCtorEq, Nat.reduceLT, Nat.reduceLeDiff, Nat.reduceAdd, Nat.reduceSub, Nat.reduceMul, Nat.reduceEqDiff, Nat.reduceBneDiff, Nat.le_refl, Bool.false_eq_true, Int.reduceLT, Int.reduceLE, Int.reduceAdd, Int.reduceSub, Int.reduceMul, Int.reduceToNat, Int.reduceEq, Int.cast_ofNat_Int, Int.reduceNeg] <;> rfl) (hc := by simp only [trun, oev, lk, chkAll, chkFrom, tS, undefS, List.getD_cons_zero, List.getD_cons_succ, if_true, hc, hc2, hu, hv, hw2, hne, Int.toNat_natCast, List.getElem?_map, List.length_map, Nat.mul_one, Nat.div_one, Nat.mod_one, decide_false, Bool.not_false, Bool.not_true, engA, engL, engT, reduceIte, reduceCtorEq, Nat.reduceLT, Nat.reduceLeDiff, Nat.reduceAdd, Nat.reduceSub, Nat.reduceMul, Nat.reduceEqDiff, Nat.reduceBneDiff, Nat.le_refl, Bool.false_eq_true, Int.reduceLT, Int.reduceLE, Int.reduceAdd, Int.reduceSub, Int.reduceMul, Int.reduceToNat, Int.reduceEq, Int.cast_ofNat_Int, Int.reduceNeg]); refine ⟨⟨rck Tryz.call17 (hC := hwh ▸ c_shade_White G h c (16 + (j : Int)) hG hfew.1), trivial⟩, ?_⟩; simp only [thenQ, inQ, tS, List.getD_cons_zero, List.getD_cons_succ, if_true]
              (repeat refine AWp.seq ?_)
              refine rc (t := false) (fun hb => by cases hb) (fun hb => ?_)
              (repeat refine AWp.seq ?_)
              refine AWp.skip ?_
              (try simp only [inQ, thenQ])
              -- REGION 16
              (repeat refine AWp.seq ?_); refine AWp.region ?_
              refine rn 3 (k := ?_) (h := by simp (maxSteps := 3000000) only [hw, engA, engL, engT, reduceIte, reduceCtorEq, Nat.reduceLT, Nat.reduceLeDiff, Nat.reduceAdd, Nat.reduceSub, Nat.reduceMul, Nat.reduceEqDiff, Nat.reduceBneDiff, Nat.le_refl, Bool.false_eq_true, Int.reduceLT, Int.reduceLE, Int.reduceAdd, Int.reduceSub, Int.reduceMul, Int.reduceToNat, Int.reduceEq, Int.cast_ofNat_Int, Int.reduceNeg] <;> rfl)
              refine AL.nil ?_; simp only [thenQ, inQ]
              (try simp only [inQ, thenQ])
              exact ⟨j + 1, hlt, by omega, (by simp only [engA, engL, engT, reduceIte, reduceCtorEq, Nat.reduceLT, Nat.reduceLeDiff, Nat.reduceAdd, Nat.reduceSub, Nat.reduceMul, Nat.reduceEqDiff, Nat.reduceBneDiff, Nat.le_refl, Bool.false_eq_true, Int.reduceLT, Int.reduceLE, Int.reduceAdd, Int.reduceSub, Int.reduceMul, Int.reduceToNat, Int.reduceEq, Int.cast_ofNat_Int, Int.reduceNeg, eq_self, and_self]), by first | rfl | trivial⟩
          · refine AWp.exit ?_
            simp only [inQ, thenQ, reduceIte, Nat.reduceEqDiff]
            have t0 := TK.r0
            have t1 := TK.r1
            have t2 := TK.r2
            have t3 := TK.r3
            have tp : u.pc = 0 := TK.pc.trans (asked_facts hask).2.2.1
            have td := TK.do_
            have dp := K.phase
            have de := K.epoch
            -- REGION 19
            (repeat refine AWp.seq ?_); refine AWp.region ?_
            refine rn 4 ?_
            refine req (fun W => eqR _ _ _ _ _ _ _ _ W) ?_; simp only [Av.put, reduceIte, reduceCtorEq, t0, t1, t2, t3, decide_true, Bool.and_self]
            refine rn 4 ?_
            refine rn 4 (k := ?_) (h := by simp (maxSteps := 3000000) only [tp, eq_self, decide_true, engA, engL, engT, reduceIte, reduceCtorEq, Nat.reduceLT, Nat.reduceLeDiff, Nat.reduceAdd, Nat.reduceSub, Nat.reduceMul, Nat.reduceEqDiff, Nat.reduceBneDiff, Nat.le_refl, Bool.false_eq_true, Int.reduceLT, Int.reduceLE, Int.reduceAdd, Int.reduceSub, Int.reduceMul, Int.reduceToNat, Int.reduceEq, Int.cast_ofNat_Int, Int.reduceNeg] <;> rfl)
            refine rn 4 (k := ?_) (h := by simp (maxSteps := 3000000) only [td, engA, engL, engT, reduceIte, reduceCtorEq, Nat.reduceLT, Nat.reduceLeDiff, Nat.reduceAdd, Nat.reduceSub, Nat.reduceMul, Nat.reduceEqDiff, Nat.reduceBneDiff, Nat.le_refl, Bool.false_eq_true, Int.reduceLT, Int.reduceLE, Int.reduceAdd, Int.reduceSub, Int.reduceMul, Int.reduceToNat, Int.reduceEq, Int.cast_ofNat_Int, Int.reduceNeg] <;> rfl)
            refine rn 4 (k := ?_) (h := by simp (maxSteps := 3000000) only [td, eq_self, decide_true, engA, engL, engT, reduceIte, reduceCtorEq, Nat.reduceLT, Nat.reduceLeDiff, Nat.reduceAdd, Nat.reduceSub, Nat.reduceMul, Nat.reduceEqDiff, Nat.reduceBneDiff, Nat.le_refl, Bool.false_eq_true, Int.reduceLT, Int.reduceLE, Int.reduceAdd, Int.reduceSub, Int.reduceMul, Int.reduceToNat, Int.reduceEq, Int.cast_ofNat_Int, Int.reduceNeg] <;> rfl)
            refine rn 4 (k := ?_) (h := by simp (maxSteps := 3000000) only [dp, engA, engL, engT, reduceIte, reduceCtorEq, Nat.reduceLT, Nat.reduceLeDiff, Nat.reduceAdd, Nat.reduceSub, Nat.reduceMul, Nat.reduceEqDiff, Nat.reduceBneDiff, Nat.le_refl, Bool.false_eq_true, Int.reduceLT, Int.reduceLE, Int.reduceAdd, Int.reduceSub, Int.reduceMul, Int.reduceToNat, Int.reduceEq, Int.cast_ofNat_Int, Int.reduceNeg] <;> rfl)
            refine rn 4 (k := ?_) (h := by simp (maxSteps := 3000000) only [dp, eq_self, decide_true, engA, engL, engT, reduceIte, reduceCtorEq, Nat.reduceLT, Nat.reduceLeDiff, Nat.reduceAdd, Nat.reduceSub, Nat.reduceMul, Nat.reduceEqDiff, Nat.reduceBneDiff, Nat.le_refl, Bool.false_eq_true, Int.reduceLT, Int.reduceLE, Int.reduceAdd, Int.reduceSub, Int.reduceMul, Int.reduceToNat, Int.reduceEq, Int.cast_ofNat_Int, Int.reduceNeg] <;> rfl)
            refine rn 4 (k := ?_) (h := by simp (maxSteps := 3000000) only [de, eq_self, decide_true, engA, engL, engT, reduceIte, reduceCtorEq, Nat.reduceLT, Nat.reduceLeDiff, Nat.reduceAdd, Nat.reduceSub, Nat.reduceMul, Nat.reduceEqDiff, Nat.reduceBneDiff, Nat.le_refl, Bool.false_eq_true, Int.reduceLT, Int.reduceLE, Int.reduceAdd, Int.reduceSub, Int.reduceMul, Int.reduceToNat, Int.reduceEq, Int.cast_ofNat_Int, Int.reduceNeg] <;> rfl)
            refine rn 1 (k := ?_) (h := by simp (maxSteps := 3000000) only [de, eq_self, decide_true, engA, engL, engT, reduceIte, reduceCtorEq, Nat.reduceLT, Nat.reduceLeDiff, Nat.reduceAdd, Nat.reduceSub, Nat.reduceMul, Nat.reduceEqDiff, Nat.reduceBneDiff, Nat.le_refl, Bool.false_eq_true, Int.reduceLT, Int.reduceLE, Int.reduceAdd, Int.reduceSub, Int.reduceMul, Int.reduceToNat, Int.reduceEq, Int.cast_ofNat_Int, Int.reduceNeg] <;> rfl)
            refine AL.nil ?_; simp only [thenQ, inQ]
            refine AWp.ret ?_; (try simp only [inQ, thenQ]); refine rret 0 ?_
            exact ⟨rfl, rfl⟩
end Go.Proofs
end

section
/-
  HandEnds: for every heap, collector and thread of bulk at most 1048576 the law's function returns true and leaves its arguments as they were.
-/
set_option linter.all false
namespace Go.Proofs.YtibcgaffjaekfaaGreatDoor.handEnds
open Go Av Rp Go.ChangeShapes Go.WideShapes Go.RowKit Go.Proofs

theorem own : ownKnob Tryz.prog.godebug = none := by kernel_rfl
/-- A WORLD FOR THE WITNESS -/
noncomputable def laidWorld (os : Os) : World :=
  { World.holding Tryz.prog os ⟨#[], #[], []⟩ with heap := (World.holding Tryz.prog os ⟨#[], #[], []⟩).heap.modify 0 fun
      | .cells _ t frozen => .cells #[.int .i64 2, .int .i64 4, .int .i64 8] t frozen
      | o => o }
def z : Value := .int .i64 0
def nl : Value := .slice none 0 0
def a0 : Value := .agg #[nl, nl, nl, nl, nl, nl]
def a1 : Value := .agg #[z, z, .bool false, nl, .bool false, z, z, z, z, .bool false]
def a2 : Value := .agg #[.bool false, z, z, z, z, nl, nl, nl, z, z, z, nl, z, z, z]
theorem laid_met (os : Os) : laidMet Tryz.prog Rows.handEndsUptoRow.laid ((laidWorld os).forCall (fun _ _ => 0) ⟨#[], #[a0, a1, a2], []⟩).memory :=
  laidMet_of_run' 8 (by kernel_rfl) (by kernel_rfl)
def li {H : Type} : DataW H := .lit (.int .i64 0)
def lb {H : Type} : DataW H := .lit (.bool false)
theorem reads (os : Os) {H : Type} (enc : TypeId × Value → H) : ∃ places, DataW.whole enc Tryz.prog ((laidWorld os).forCall (fun _ _ => 0) ⟨#[], #[a0, a1, a2], []⟩).memory Tryz.f4.params.toList Rows.handEndsSpec.vars false #[a0, a1, a2].toList 8 =
    some ([.agg [.nil, .nil, .agg [.nil, .nil, .nil], .nil], .agg [li, li, lb, .nil, lb, li, li, li, li, lb], .agg [lb, .agg [li, li, li, li], .agg [.nil, .nil, .nil], li, li, li, .nil, li, li, li]], [], places) :=
  ⟨[], by kernel_rfl⟩

set_option maxRecDepth 100000 in
theorem liftedUpto (os : Os) (started : os.Started) (H : Type) (enc : TypeId × Value → H) (F : Stop.Interp) :
    ReturnsInHanded {} Tryz.checked os 4 .any ((Rows.OpenSpec.upto Rows.handEndsSpec).preRow enc Tryz.prog Tryz.f4 Rows.handEndsUptoRow.domain false Rows.handEndsUptoRow.laid) (((Rows.OpenSpec.upto Rows.handEndsSpec).at F).post enc Tryz.prog Tryz.f4 false true false false) := by
  obtain ⟨places, hx⟩ := reads os enc
  refine returnsInHanded_of_row (C := Tryz.checked) (s := Rows.OpenSpec.upto Rows.handEndsSpec) own started (by kernel_rfl) Tryz.func4
    (witness_row_at (enc := enc) (C := Tryz.checked) false (laidWorld os) #[a0, a1, a2] rfl (by kernel_rfl) (by kernel_rfl) (by kernel_rfl)
      (OpenSpec.preRow_of_cond 8 hx (by kernel_rfl) (fun k hk => by cases hk; kernel_rfl) (by kernel_rfl) (laid_met os))) ?_
  intro W base args ds gs before hval hW _ hcond _ hL _ _
  exact row3 (s := Rows.handEndsSpec) Tryz.params4 rfl (fun _ _ _ => rfl) rfl hval hW (hcond _ rfl) hL fun h c t _ _ _ => c_ragpickerlaw15_HandEnds _ h c t rfl
end Go.Proofs.YtibcgaffjaekfaaGreatDoor.handEnds
end

section
/-
  HandEnds: the row's statement and the card.
-/
set_option linter.all false
namespace Go.Proofs.YtibcgaffjaekfaaGreatDoor.handEnds
open Go Av Rp Go.ChangeShapes Go.WideShapes Go.RowKit Go.Proofs
theorem saidUpto : Rows.HandEndsUptoSaid :=
  OpenClaim.holds_of_cond 4 Tryz.f4 rfl rfl rfl rfl rfl rfl rfl ⟨rfl, rfl, rfl, rfl, rfl⟩ rfl rfl rfl rfl rfl (by kernel_rfl) Tryz.func4 (by kernel_rfl)
    (of_decide_eq_true (by kernel_rfl)) (by unfold Func.isWrapper; first | (rw [if_pos (by decide +kernel)]; kernel_rfl) | (rw [if_neg (by decide +kernel)]; exact ⟨rfl, rfl⟩))
    (fun os started H enc _ F => by rw [OpenClaim.pre_eq_preRow]; exact liftedUpto os started H enc F)
theorem plain (f : FuncId) (fn : Func) (hf : Tryz.pinned.checked.prog.funcNamed "ragpicker/ragpickerlaw15.HandEnds" = some f) (hfn : Tryz.pinned.checked.prog.funcs[f]? = some fn) :
    false = Tryz.pinned.checked.prog.looks [] ∧ ∀ (j : Nat) t, fn.params[j]? = some t → Tryz.pinned.checked.prog.wantsStandIn t = false := by
  obtain rfl : f = 4 := Option.some.inj ((show Tryz.prog.funcNamed "ragpicker/ragpickerlaw15.HandEnds" = some 4 by kernel_rfl).symm.trans hf) |>.symm
  obtain rfl : fn = Tryz.f4 := (Option.some.inj (Tryz.func4.symm.trans hfn)).symm
  refine ⟨by kernel_rfl, fun j t ht => ?_⟩
  rw [Tryz.params4] at ht
  match j, ht with
  | 0, ht => cases ht; exact (show Tryz.prog.wantsStandIn 28 = false by kernel_rfl)
  | 1, ht => cases ht; exact (show Tryz.prog.wantsStandIn 30 = false by kernel_rfl)
  | 2, ht => cases ht; exact (show Tryz.prog.wantsStandIn 34 = false by kernel_rfl)
  | k + 3, ht => simp at ht
end Go.Proofs.YtibcgaffjaekfaaGreatDoor.handEnds
namespace Go.Proofs.YtibcgaffjaekfaaGreatDoor
theorem handEnds_card : Rows.HandEndsUptoCardSaid :=
  Claim7.holds_tied_plain_at .later [] _ _ _ _ handEnds.saidUpto (fun _ h => by cases h) (by kernel_rfl) (fun _ h => by cases h) handEndsUpto_row_tie rfl ⟨rfl, rfl⟩ (by kernel_rfl) rfl handEnds.plain (by kernel_rfl)
#print axioms handEnds_card
end Go.Proofs.YtibcgaffjaekfaaGreatDoor
end
