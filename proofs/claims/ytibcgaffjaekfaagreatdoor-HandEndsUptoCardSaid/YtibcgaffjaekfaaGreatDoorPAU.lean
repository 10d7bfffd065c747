/- Part 21 of 22 of a proof: own engine, contracts and facts. -/
import Derived.Test.YtibcgaffjaekfaaGreatDoorPAJ
import Derived.Test.YtibcgaffjaekfaaGreatDoorPAL
import Derived.Test.YtibcgaffjaekfaaGreatDoorPAM
import Derived.Test.YtibcgaffjaekfaaGreatDoorPAT
set_option linter.all false
section
set_option linter.unusedSimpArgs false
set_option maxRecDepth 20000
set_option maxHeartbeats 1000000
namespace Go.Proofs
open Go Av Rp
theorem c_ragpickerref06_Same (G : Globs) (x y : Lists) : ACall Tryz.prog G 33 [listsV x, listsV y] [] (fun r L' => r = boolv (decide (x = y)) ∧ L' = []) := by
  refine ACall.enter Tryz.func33 rfl Tryz.ntmps33 (by rw [Tryz.results33]) (Nat.le_of_ble_eq_true rfl) rfl ?_
  -- REGION 0
  (repeat refine AWp.seq ?_); refine AWp.region ?_
  refine rn 3 ?_
  refine AL.nil ?_; simp only [thenQ, inQ]
  -- REGION 1
  (repeat refine AWp.seq ?_); refine AWp.region ?_
  refine rn 1 ?_
  refine AL.nil ?_; simp only [thenQ, inQ]
  (repeat refine AWp.seq ?_)
  refine AWp.block ?_
  (repeat refine AWp.seq ?_)
  refine AWp.rounds 4 ?_
  refine Rounds.round ?_
  -- REGION 2
  (repeat refine AWp.seq ?_); refine AWp.region ?_
  refine rn 2 ?_
  refine AL.nil ?_; simp only [thenQ, inQ]
  (repeat refine AWp.seq ?_)
  refine rc (t := true) (fun hb => ?_) (fun hb => by cases hb)
  (repeat refine AWp.seq ?_)
  refine AWp.skip ?_
  (try simp only [inQ, thenQ])
  (repeat refine AWp.seq ?_)
  refine AWp.block ?_
  -- DRAWS region 4: 6 ragpickerref01_Ints
  (repeat refine AWp.seq ?_); refine rdraws [.flo 0 0, .flo 0 0, .flo 0 0, .flo 0 0, .flo 0 0, .flo 0 0, .flo 0 0, .flo 0 0] 0 [(6, boolv (decide (x.a = y.a)))] mixed ?_; refine ⟨⟨rck Tryz.call31 (hC := c_ragpickerref01_Ints G _ _), trivial⟩, ?_⟩; simp only [thenQ, inQ, tS, List.getD_cons_zero, List.getD_cons_succ, if_true]
  -- REGION 5
  (repeat refine AWp.seq ?_); refine AWp.region ?_
  refine rn 2 ?_
  refine AL.nil ?_; simp only [thenQ, inQ]
  (repeat refine AWp.seq ?_)
  refine rc (fun hb => ?_) (fun hb => ?_)
  · skip
    -- REGION 6
    (repeat refine AWp.seq ?_); refine AWp.region ?_
    refine rn 1 ?_
    refine AL.nil ?_; simp only [thenQ, inQ]
    refine AWp.ret ?_; (try simp only [inQ, thenQ]); refine rret 0 ?_
    refine ⟨?_, rfl⟩; simp only [pack]; rw [lists_eq]; simp_all
  · skip
    (repeat refine AWp.seq ?_)
    refine AWp.skip ?_
    (try simp only [inQ, thenQ])
    -- REGION 3
    (repeat refine AWp.seq ?_); refine AWp.region ?_
    refine rn 3 ?_
    refine AL.nil ?_; simp only [thenQ, inQ]
    (try simp only [inQ, thenQ])
    refine Rounds.round ?_
    -- REGION 2
    (repeat refine AWp.seq ?_); refine AWp.region ?_
    refine rn 2 ?_
    refine AL.nil ?_; simp only [thenQ, inQ]
    (repeat refine AWp.seq ?_)
    refine rc (t := true) (fun hb => ?_) (fun hb => by cases hb)
    (repeat refine AWp.seq ?_)
    refine AWp.skip ?_
    (try simp only [inQ, thenQ])
    (repeat refine AWp.seq ?_)
    refine AWp.block ?_
    -- DRAWS region 4: 6 ragpickerref01_Ints
    (repeat refine AWp.seq ?_); refine rdraws [.flo 0 0, .flo 0 0, .flo 0 0, .flo 0 0, .flo 0 0, .flo 0 0, .flo 0 0, .flo 0 0] 0 [(6, boolv (decide (x.b = y.b)))] mixed ?_; refine ⟨⟨rck Tryz.call31 (hC := c_ragpickerref01_Ints G _ _), trivial⟩, ?_⟩; simp only [thenQ, inQ, tS, List.getD_cons_zero, List.getD_cons_succ, if_true]
    -- REGION 5
    (repeat refine AWp.seq ?_); refine AWp.region ?_
    refine rn 2 ?_
    refine AL.nil ?_; simp only [thenQ, inQ]
    (repeat refine AWp.seq ?_)
    refine rc (fun hb => ?_) (fun hb => ?_)
    · skip
      -- REGION 6
      (repeat refine AWp.seq ?_); refine AWp.region ?_
      refine rn 1 ?_
      refine AL.nil ?_; simp only [thenQ, inQ]
      refine AWp.ret ?_; (try simp only [inQ, thenQ]); refine rret 0 ?_
      refine ⟨?_, rfl⟩; simp only [pack]; rw [lists_eq]; simp_all
    · skip
      (repeat refine AWp.seq ?_)
      refine AWp.skip ?_
      (try simp only [inQ, thenQ])
      -- REGION 3
      (repeat refine AWp.seq ?_); refine AWp.region ?_
      refine rn 3 ?_
      refine AL.nil ?_; simp only [thenQ, inQ]
      (try simp only [inQ, thenQ])
      refine Rounds.round ?_
      -- REGION 2
      (repeat refine AWp.seq ?_); refine AWp.region ?_
      refine rn 2 ?_
      refine AL.nil ?_; simp only [thenQ, inQ]
      (repeat refine AWp.seq ?_)
      refine rc (t := true) (fun hb => ?_) (fun hb => by cases hb)
      (repeat refine AWp.seq ?_)
      refine AWp.skip ?_
      (try simp only [inQ, thenQ])
      (repeat refine AWp.seq ?_)
      refine AWp.block ?_
      -- DRAWS region 4: 6 ragpickerref01_Ints
      (repeat refine AWp.seq ?_); refine rdraws [.flo 0 0, .flo 0 0, .flo 0 0, .flo 0 0, .flo 0 0, .flo 0 0, .flo 0 0, .flo 0 0] 0 [(6, boolv (decide (x.c = y.c)))] mixed ?_; refine ⟨⟨rck Tryz.call31 (hC := c_ragpickerref01_Ints G _ _), trivial⟩, ?_⟩; simp only [thenQ, inQ, tS, List.getD_cons_zero, List.getD_cons_succ, if_true]
      -- REGION 5
      (repeat refine AWp.seq ?_); refine AWp.region ?_
      refine rn 2 ?_
      refine AL.nil ?_; simp only [thenQ, inQ]
      (repeat refine AWp.seq ?_)
      refine rc (fun hb => ?_) (fun hb => ?_)
      · skip
        -- REGION 6
        (repeat refine AWp.seq ?_); refine AWp.region ?_
        refine rn 1 ?_
        refine AL.nil ?_; simp only [thenQ, inQ]
        refine AWp.ret ?_; (try simp only [inQ, thenQ]); refine rret 0 ?_
        refine ⟨?_, rfl⟩; simp only [pack]; rw [lists_eq]; simp_all
      · skip
        (repeat refine AWp.seq ?_)
        refine AWp.skip ?_
        (try simp only [inQ, thenQ])
        -- REGION 3
        (repeat refine AWp.seq ?_); refine AWp.region ?_
        refine rn 3 ?_
        refine AL.nil ?_; simp only [thenQ, inQ]
        (try simp only [inQ, thenQ])
        refine Rounds.round ?_
        -- REGION 2
        (repeat refine AWp.seq ?_); refine AWp.region ?_
        refine rn 2 ?_
        refine AL.nil ?_; simp only [thenQ, inQ]
        (repeat refine AWp.seq ?_)
        refine rc (t := false) (fun hb => by cases hb) (fun hb => ?_)
        refine AWp.exit ?_
        simp only [inQ, thenQ, reduceIte, Nat.reduceEqDiff]
        -- REGION 7
        (repeat refine AWp.seq ?_); refine AWp.region ?_
        refine rn 1 ?_
        refine AL.nil ?_; simp only [thenQ, inQ]
        refine AWp.ret ?_; (try simp only [inQ, thenQ]); refine rret 0 ?_
        refine ⟨?_, rfl⟩; simp only [pack]; rw [lists_eq]; simp_all

theorem c_ragpickerref11_Same (G : Globs) (x y : Col) : ACall Tryz.prog G 12 [colV x, colV y] [] (fun r L' => r = boolv (decide (x = y)) ∧ L' = []) := by
  refine ACall.enter Tryz.func12 rfl Tryz.ntmps12 (by rw [Tryz.results12]) (Nat.le_of_ble_eq_true rfl) rfl ?_
  -- REGION 0
  (repeat refine AWp.seq ?_); refine AWp.region ?_
  refine rn 3 ?_
  refine AL.nil ?_; simp only [thenQ, inQ]
  -- REGION 1
  (repeat refine AWp.seq ?_); refine AWp.region ?_
  refine rn 4 ?_
  refine rcall Tryz.call31 (hC := c_ragpickerref01_Ints G _ _) (kk := ?_); simp only [Av.put]
  refine rn 1 ?_
  refine AL.nil ?_; simp only [thenQ, inQ]
  -- REGION 2
  (repeat refine AWp.seq ?_); refine AWp.region ?_
  refine rn 4 ?_
  refine rn 2 ?_
  refine rsp 17 (fun hb => ?_) (fun hb => ?_)
  · skip
    refine rn 4 ?_
    refine rn 3 ?_
    refine rsp 24 (fun hb => ?_) (fun hb => ?_)
    · skip
      refine rn 4 ?_
      refine rn 3 ?_
      refine rsp 31 (fun hb => ?_) (fun hb => ?_)
      · skip
        refine rn 4 ?_
        refine rn 3 ?_
        refine AL.nil ?_; simp only [thenQ, inQ]
        -- REGION 3
        (repeat refine AWp.seq ?_); refine AWp.region ?_
        refine rn 2 ?_
        refine rsp 39 (fun hb => ?_) (fun hb => ?_)
        · skip
          refine rn 3 ?_
          refine rsp 42 (fun hb => ?_) (fun hb => ?_)
          · skip
            refine rn 4 ?_
            refine rn 3 ?_
            refine rsp 49 (fun hb => ?_) (fun hb => ?_)
            · skip
              refine rn 4 ?_
              refine rn 3 ?_
              refine rsp 56 (fun hb => ?_) (fun hb => ?_)
              · skip
                refine rn 4 ?_
                refine rn 3 ?_
                refine rsp 63 (fun hb => ?_) (fun hb => ?_)
                · skip
                  refine rn 4 ?_
                  refine rn 3 ?_
                  refine rsp 70 (fun hb => ?_) (fun hb => ?_)
                  · skip
                    refine rn 4 ?_
                    refine rn 3 ?_
                    refine AL.nil ?_; simp only [thenQ, inQ]
                    refine AWp.ret ?_; (try simp only [inQ, thenQ]); refine rret 0 ?_
                    refine ⟨?_, rfl⟩; simp only [pack]; rw [col_eq]; simp_all
                  · skip
                    refine rn 4 ?_
                    refine rn 3 ?_
                    refine AL.nil ?_; simp only [thenQ, inQ]
                    refine AWp.ret ?_; (try simp only [inQ, thenQ]); refine rret 0 ?_
                    refine ⟨?_, rfl⟩; simp only [pack]; rw [col_eq]; simp_all
                · skip
                  refine rn 4 ?_
                  refine rn 4 ?_
                  refine rn 4 ?_
                  refine rn 2 ?_
                  refine AL.nil ?_; simp only [thenQ, inQ]
                  refine AWp.ret ?_; (try simp only [inQ, thenQ]); refine rret 0 ?_
                  refine ⟨?_, rfl⟩; simp only [pack]; rw [col_eq]; simp_all
              · skip
                refine rn 4 ?_
                refine rn 4 ?_
                refine rn 4 ?_
                refine rn 4 ?_
                refine rn 4 ?_
                refine rn 1 ?_
                refine AL.nil ?_; simp only [thenQ, inQ]
                refine AWp.ret ?_; (try simp only [inQ, thenQ]); refine rret 0 ?_
                refine ⟨?_, rfl⟩; simp only [pack]; rw [col_eq]; simp_all
            · skip
              refine rn 4 ?_
              refine rn 4 ?_
              refine rn 4 ?_
              refine rn 4 ?_
              refine rn 4 ?_
              refine rn 4 ?_
              refine rn 4 ?_
              refine AL.nil ?_; simp only [thenQ, inQ]
              refine AWp.ret ?_; (try simp only [inQ, thenQ]); refine rret 0 ?_
              refine ⟨?_, rfl⟩; simp only [pack]; rw [col_eq]; simp_all
          · skip
            refine rn 4 ?_
            refine rn 4 ?_
            refine rn 4 ?_
            refine rn 4 ?_
            refine rn 4 ?_
            refine rn 4 ?_
            refine rn 4 ?_
            refine rn 4 ?_
            refine rn 3 ?_
            refine AL.nil ?_; simp only [thenQ, inQ]
            refine AWp.ret ?_; (try simp only [inQ, thenQ]); refine rret 0 ?_
            refine ⟨?_, rfl⟩; simp only [pack]; rw [col_eq]; simp_all
        · skip
          refine rn 4 ?_
          refine rn 4 ?_
          refine rn 4 ?_
          refine rn 4 ?_
          refine rn 4 ?_
          refine rn 4 ?_
          refine rn 4 ?_
          refine rn 4 ?_
          refine rn 4 ?_
          refine rn 2 ?_
          refine AL.nil ?_; simp only [thenQ, inQ]
          refine AWp.ret ?_; (try simp only [inQ, thenQ]); refine rret 0 ?_
          refine ⟨?_, rfl⟩; simp only [pack]; rw [col_eq]; simp_all
      · skip
        refine rn 4 ?_
        refine rn 3 ?_
        refine AL.nil ?_; simp only [thenQ, inQ]
        -- REGION 3
        (repeat refine AWp.seq ?_); refine AWp.region ?_
        refine rn 2 ?_
        refine rsp 39 (fun hb => ?_) (fun hb => ?_)
        · skip
          refine rn 4 ?_
          refine rn 4 ?_
          refine rn 4 ?_
          refine rn 4 ?_
          refine rn 4 ?_
          refine rn 4 ?_
          refine rn 4 ?_
          refine rn 4 ?_
          refine rn 4 ?_
          refine rn 2 ?_
          refine AL.nil ?_; simp only [thenQ, inQ]
          refine AWp.ret ?_; (try simp only [inQ, thenQ]); refine rret 0 ?_
          refine ⟨?_, rfl⟩; simp only [pack]; rw [col_eq]; simp_all
        · skip
          refine rn 4 ?_
          refine rn 4 ?_
          refine rn 4 ?_
          refine rn 4 ?_
          refine rn 4 ?_
          refine rn 4 ?_
          refine rn 4 ?_
          refine rn 4 ?_
          refine rn 4 ?_
          refine rn 2 ?_
          refine AL.nil ?_; simp only [thenQ, inQ]
          refine AWp.ret ?_; (try simp only [inQ, thenQ]); refine rret 0 ?_
          refine ⟨?_, rfl⟩; simp only [pack]; rw [col_eq]; simp_all
    · skip
      refine rn 4 ?_
      refine rn 4 ?_
      refine rn 4 ?_
      refine rn 2 ?_
      refine AL.nil ?_; simp only [thenQ, inQ]
      -- REGION 3
      (repeat refine AWp.seq ?_); refine AWp.region ?_
      refine rn 2 ?_
      refine rsp 39 (fun hb => ?_) (fun hb => ?_)
      · skip
        refine rn 4 ?_
        refine rn 4 ?_
        refine rn 4 ?_
        refine rn 4 ?_
        refine rn 4 ?_
        refine rn 4 ?_
        refine rn 4 ?_
        refine rn 4 ?_
        refine rn 4 ?_
        refine rn 2 ?_
        refine AL.nil ?_; simp only [thenQ, inQ]
        refine AWp.ret ?_; (try simp only [inQ, thenQ]); refine rret 0 ?_
        refine ⟨?_, rfl⟩; simp only [pack]; rw [col_eq]; simp_all
      · skip
        refine rn 4 ?_
        refine rn 4 ?_
        refine rn 4 ?_
        refine rn 4 ?_
        refine rn 4 ?_
        refine rn 4 ?_
        refine rn 4 ?_
        refine rn 4 ?_
        refine rn 4 ?_
        refine rn 2 ?_
        refine AL.nil ?_; simp only [thenQ, inQ]
        refine AWp.ret ?_; (try simp only [inQ, thenQ]); refine rret 0 ?_
        refine ⟨?_, rfl⟩; simp only [pack]; rw [col_eq]; simp_all
  · skip
    refine rn 4 ?_
    refine rn 4 ?_
    refine rn 4 ?_
    refine rn 4 ?_
    refine rn 4 ?_
    refine rn 1 ?_
    refine AL.nil ?_; simp only [thenQ, inQ]
    -- REGION 3
    (repeat refine AWp.seq ?_); refine AWp.region ?_
    refine rn 2 ?_
    refine rsp 39 (fun hb => ?_) (fun hb => ?_)
    · skip
      refine rn 4 ?_
      refine rn 4 ?_
      refine rn 4 ?_
      refine rn 4 ?_
      refine rn 4 ?_
      refine rn 4 ?_
      refine rn 4 ?_
      refine rn 4 ?_
      refine rn 4 ?_
      refine rn 2 ?_
      refine AL.nil ?_; simp only [thenQ, inQ]
      refine AWp.ret ?_; (try simp only [inQ, thenQ]); refine rret 0 ?_
      refine ⟨?_, rfl⟩; simp only [pack]; rw [col_eq]; simp_all
    · skip
      refine rn 4 ?_
      refine rn 4 ?_
      refine rn 4 ?_
      refine rn 4 ?_
      refine rn 4 ?_
      refine rn 4 ?_
      refine rn 4 ?_
      refine rn 4 ?_
      refine rn 4 ?_
      refine rn 2 ?_
      refine AL.nil ?_; simp only [thenQ, inQ]
      refine AWp.ret ?_; (try simp only [inQ, thenQ]); refine rret 0 ?_
      refine ⟨?_, rfl⟩; simp only [pack]; rw [col_eq]; simp_all

end Go.Proofs
end

section
set_option linter.unusedSimpArgs false
set_option maxRecDepth 20000
set_option maxHeartbeats 1000000
namespace Go.Proofs
open Go Av Rp
theorem c_ragpickerref07_Same (G : Globs) (x y : Heap) : ACall Tryz.prog G 11 [heapV x, heapV y] [] (fun r L' => r = boolv (decide (x = y)) ∧ L' = []) := by
  refine ACall.enter Tryz.func11 rfl Tryz.ntmps11 (by rw [Tryz.results11]) (Nat.le_of_ble_eq_true rfl) rfl ?_
  -- REGION 0
  (repeat refine AWp.seq ?_); refine AWp.region ?_
  refine rn 3 ?_
  refine AL.nil ?_; simp only [thenQ, inQ]
  -- REGION 1
  (repeat refine AWp.seq ?_); refine AWp.region ?_
  refine rn 4 ?_
  refine rcall Tryz.call31 (hC := c_ragpickerref01_Ints G _ _) (kk := ?_); simp only [Av.put]
  refine rn 1 ?_
  refine AL.nil ?_; simp only [thenQ, inQ]
  -- REGION 2
  (repeat refine AWp.seq ?_); refine AWp.region ?_
  refine rn 4 ?_
  refine rcall Tryz.call32 (hC := c_ragpickerref04_Same G _ _) (kk := ?_); simp only [Av.put]
  refine rn 1 ?_
  refine AL.nil ?_; simp only [thenQ, inQ]
  -- REGION 3
  (repeat refine AWp.seq ?_); refine AWp.region ?_
  refine rn 4 ?_
  refine rcall Tryz.call33 (hC := c_ragpickerref06_Same G _ _) (kk := ?_); simp only [Av.put]
  refine rn 1 ?_
  refine AL.nil ?_; simp only [thenQ, inQ]
  -- REGION 4
  (repeat refine AWp.seq ?_); refine AWp.region ?_
  refine rn 3 ?_
  refine rsp 26 (fun hb => ?_) (fun hb => ?_)
  · skip
    refine rn 4 ?_
    refine rn 4 ?_
    refine rn 4 ?_
    refine rn 4 ?_
    refine AL.nil ?_; simp only [thenQ, inQ]
    (repeat refine AWp.seq ?_)
    refine rc (t := true) (fun hb => ?_) (fun hb => by cases hb)
    -- REGION 5
    (repeat refine AWp.seq ?_); refine AWp.region ?_
    refine rn 1 ?_
    refine AL.nil ?_; simp only [thenQ, inQ]
    refine AWp.ret ?_; (try simp only [inQ, thenQ]); refine rret 0 ?_
    refine ⟨?_, rfl⟩; simp only [pack]; first | (rw [heap_eq, eql_len (a := x.C) (by assumption)]; simp; done) | (rw [heap_eq, eql_ne h2 hu hv (by simpa using hb)]; simp; done) | (rw [heap_eq, eql_end h2 (by simp at hb; omega) (by simp at hb; omega)]; clear h1 h2 hb hl; simp_all; done) | (rw [heap_eq]; simp_all; done)
  · skip
    refine rn 4 ?_
    refine rsp 30 (fun hb => ?_) (fun hb => ?_)
    · skip
      refine rn 4 ?_
      refine rn 4 ?_
      refine rn 4 ?_
      refine AL.nil ?_; simp only [thenQ, inQ]
      (repeat refine AWp.seq ?_)
      refine rc (t := true) (fun hb => ?_) (fun hb => by cases hb)
      -- REGION 5
      (repeat refine AWp.seq ?_); refine AWp.region ?_
      refine rn 1 ?_
      refine AL.nil ?_; simp only [thenQ, inQ]
      refine AWp.ret ?_; (try simp only [inQ, thenQ]); refine rret 0 ?_
      refine ⟨?_, rfl⟩; simp only [pack]; first | (rw [heap_eq, eql_len (a := x.C) (by assumption)]; simp; done) | (rw [heap_eq, eql_ne h2 hu hv (by simpa using hb)]; simp; done) | (rw [heap_eq, eql_end h2 (by simp at hb; omega) (by simp at hb; omega)]; clear h1 h2 hb hl; simp_all; done) | (rw [heap_eq]; simp_all; done)
    · skip
      refine rn 4 ?_
      refine rsp 34 (fun hb => ?_) (fun hb => ?_)
      · skip
        refine rn 4 ?_
        refine rn 4 ?_
        refine AL.nil ?_; simp only [thenQ, inQ]
        (repeat refine AWp.seq ?_)
        refine rc (t := true) (fun hb => ?_) (fun hb => by cases hb)
        -- REGION 5
        (repeat refine AWp.seq ?_); refine AWp.region ?_
        refine rn 1 ?_
        refine AL.nil ?_; simp only [thenQ, inQ]
        refine AWp.ret ?_; (try simp only [inQ, thenQ]); refine rret 0 ?_
        refine ⟨?_, rfl⟩; simp only [pack]; first | (rw [heap_eq, eql_len (a := x.C) (by assumption)]; simp; done) | (rw [heap_eq, eql_ne h2 hu hv (by simpa using hb)]; simp; done) | (rw [heap_eq, eql_end h2 (by simp at hb; omega) (by simp at hb; omega)]; clear h1 h2 hb hl; simp_all; done) | (rw [heap_eq]; simp_all; done)
      · skip
        refine rn 4 ?_
        refine rn 4 ?_
        refine AL.nil ?_; simp only [thenQ, inQ]
        (repeat refine AWp.seq ?_)
        refine rc (fun hb => ?_) (fun hb => ?_)
        · skip
          -- REGION 5
          (repeat refine AWp.seq ?_); refine AWp.region ?_
          refine rn 1 ?_
          refine AL.nil ?_; simp only [thenQ, inQ]
          refine AWp.ret ?_; (try simp only [inQ, thenQ]); refine rret 0 ?_
          refine ⟨?_, rfl⟩; simp only [pack]; first | (rw [heap_eq, eql_len (a := x.C) (by assumption)]; simp; done) | (rw [heap_eq, eql_ne h2 hu hv (by simpa using hb)]; simp; done) | (rw [heap_eq, eql_end h2 (by simp at hb; omega) (by simp at hb; omega)]; clear h1 h2 hb hl; simp_all; done) | (rw [heap_eq]; simp_all; done)
        · skip
          (repeat refine AWp.seq ?_)
          refine AWp.skip ?_
          (try simp only [inQ, thenQ])
          refine AWp.freezeV 0 (cs := heapI x) rfl ?_; simp only [frvT, frvB, SV.frv, frvL, Blk.frv, List.map_cons, List.map_nil, reduceIte, Nat.reduceEqDiff]; refine AWp.freezeV 1 (cs := heapI y) rfl ?_; simp only [frvT, frvB, SV.frv, frvL, Blk.frv, List.map_cons, List.map_nil, reduceIte, Nat.reduceEqDiff]; refine AWp.big 36 rfl (fun hbig => ?_); replace hbig : x.C.length ≤ 274877906944 := (by simpa [bigN] using hbig); have hl := eql_len' (a := x.C) (b := y.C) (by assumption)
          (repeat refine AWp.seq ?_); refine AWp.region ?_
          refine rn 1 ?_
          refine AL.nil ?_; simp only [thenQ, inQ]
          (repeat refine AWp.seq ?_)
          refine AWp.block ?_
          (repeat refine AWp.seq ?_)
          refine AWp.loopS (σ := Nat) (fun i => i ≤ x.C.length ∧ decide (x.C = y.C) = decide (x.C.drop i = y.C.drop i)) (fun i => x.C.length - i) (fun i => [(8, intv i), (2, .im (.pt (heapI x) 0)), (3, .im (.pt (heapI y) 0))]) (fun _ => [.dead, .dead]) 0 ⟨⟨Nat.zero_le _, rfl⟩, (by simp only [engA, engL, engT, reduceIte, reduceCtorEq, Nat.reduceLT, Nat.reduceLeDiff, Nat.reduceAdd, Nat.reduceSub, Nat.reduceMul, Nat.reduceEqDiff, Nat.reduceBneDiff, Nat.le_refl, Bool.false_eq_true, Int.reduceLT, Int.reduceLE, Int.reduceAdd, Int.reduceSub, Int.reduceMul, Int.reduceToNat, Int.reduceEq, Int.cast_ofNat_Int, Int.reduceNeg, eq_self, and_self]), rfl⟩ ?_
          rintro i ⟨h1, h2⟩
          -- REGION 7
          (repeat refine AWp.seq ?_); refine AWp.region ?_
          refine rn 4 ?_
          refine rn 1 ?_
          refine AL.nil ?_; simp only [thenQ, inQ]
          (repeat refine AWp.seq ?_)
          refine rc (fun hb => ?_) (fun hb => ?_)
          · skip
            (repeat refine AWp.seq ?_)
            refine AWp.skip ?_
            (try simp only [inQ, thenQ])
            (repeat refine AWp.seq ?_)
            refine AWp.block ?_
            have hlt : i < x.C.length := (by simp at hb; omega); obtain ⟨u, hu⟩ : ∃ u, x.C[i]? = some u := ⟨_, List.getElem?_eq_getElem hlt⟩; obtain ⟨v, hv⟩ : ∃ v, y.C[i]? = some v := ⟨_, List.getElem?_eq_getElem (by omega)⟩; have hc : (0 ≤ (i : Int) ∧ (i : Int) < (x.C.length : Int)) = True := (by simp; omega); have hc2 : (0 ≤ (i : Int) ∧ (i : Int) < (y.C.length : Int)) = True := (by simp; omega); have hw : IntKind.i64.wrap ((i : Int) + 1) = ((i + 1 : Nat) : Int) := (by rw [wrap_id _ (by omega) (by omega)]; omega) 
            (repeat refine AWp.seq ?_); refine rdraws [.flo 0 0, .flo 0 0, .flo 0 0, .flo 0 0, .flo 0 0, .flo 0 0, .flo 0 0, .flo 0 0, .flo 0 0, .flo 0 0, .flo 0 0] 0 [] mixed ?_ (h0 := by simp only [trun, oev, lk, chkAll, chkFrom, tS, undefS, List.getD_cons_zero, List.getD_cons_succ, if_true, hc, hc2, hu, hv, Int.toNat_natCast, List.getElem?_map, List.length_map, Nat.mul_one, Nat.div_one, Nat.mod_one, engA, engL, engT, reduceIte, reduceCtorEq, Nat.reduceLT, Nat.reduceLeDiff, Nat.reduceAdd, Nat.reduceSub, Nat.reduceMul, Nat.reduceEqDiff, Nat.reduceBneDiff, Nat.le_refl, Bool.false_eq_true, Int.reduceLT, Int.reduceLE, Int.reduceAdd, Int.reduceSub, Int.reduceMul, Int.reduceToNat, Int.reduceEq, Int.cast_ofNat_Int, Int.reduceNeg] <;> rfl) (hc := by simp only [trun, oev, lk, chkAll, chkFrom, tS, undefS, List.getD_cons_zero, List.getD_cons_succ, if_true, hc, hc2, hu, hv, Int.toNat_natCast, List.getElem?_map, List.length_map, Nat.mul_one, Nat.div_one, Nat.mod_one, engA, engL, engT, reduceIte, reduceCtorEq, Nat.reduceLT, Nat.reduceLeDiff, Nat.reduceAdd, Nat.reduceSub, Nat.reduceMul, Nat.reduceEqDiff, Nat.reduceBneDiff, Nat.le_refl, Bool.false_eq_true, Int.reduceLT, Int.reduceLE, Int.reduceAdd, Int.reduceSub, Int.reduceMul, Int.reduceToNat, Int.reduceEq, Int.cast_ofNat_Int, Int.reduceNeg]); refine ⟨trivial, ?_⟩; simp only [thenQ, inQ, tS, List.getD_cons_zero, List.getD_cons_succ, if_true]
            (repeat refine AWp.seq ?_)
            refine rc (fun hb => ?_) (fun hb => ?_)
            · skip
              -- REGION 10
              (repeat refine AWp.seq ?_); refine AWp.region ?_
              refine rn 1 ?_
              refine AL.nil ?_; simp only [thenQ, inQ]
              refine AWp.ret ?_; (try simp only [inQ, thenQ]); refine rret 0 ?_
              refine ⟨?_, rfl⟩; simp only [pack]; first | (rw [heap_eq, eql_len (a := x.C) (by assumption)]; simp; done) | (rw [heap_eq, eql_ne h2 hu hv (by simpa using hb)]; simp; done) | (rw [heap_eq, eql_end h2 (by simp at hb; omega) (by simp at hb; omega)]; clear h1 h2 hb hl; simp_all; done) | (rw [heap_eq]; simp_all; done)
            · skip
              (repeat refine AWp.seq ?_)
              refine AWp.skip ?_
              (try simp only [inQ, thenQ])
              -- REGION 8
              (repeat refine AWp.seq ?_); refine AWp.region ?_
              refine rn 3 (k := ?_) (h := by simp (maxSteps := 3000000) only [hw, engA, engL, engT, reduceIte, reduceCtorEq, Nat.reduceLT, Nat.reduceLeDiff, Nat.reduceAdd, Nat.reduceSub, Nat.reduceMul, Nat.reduceEqDiff, Nat.reduceBneDiff, Nat.le_refl, Bool.false_eq_true, Int.reduceLT, Int.reduceLE, Int.reduceAdd, Int.reduceSub, Int.reduceMul, Int.reduceToNat, Int.reduceEq, Int.cast_ofNat_Int, Int.reduceNeg] <;> rfl)
              refine AL.nil ?_; simp only [thenQ, inQ]
              (try simp only [inQ, thenQ])
              exact ⟨i + 1, ⟨hlt, eql_step h2 hu hv (by simpa using hb)⟩, by omega, (by simp only [engA, engL, engT, reduceIte, reduceCtorEq, Nat.reduceLT, Nat.reduceLeDiff, Nat.reduceAdd, Nat.reduceSub, Nat.reduceMul, Nat.reduceEqDiff, Nat.reduceBneDiff, Nat.le_refl, Bool.false_eq_true, Int.reduceLT, Int.reduceLE, Int.reduceAdd, Int.reduceSub, Int.reduceMul, Int.reduceToNat, Int.reduceEq, Int.cast_ofNat_Int, Int.reduceNeg, eq_self, and_self]), by first | rfl | trivial⟩
          · skip
            refine AWp.exit ?_
            simp only [inQ, thenQ, reduceIte, Nat.reduceEqDiff]
            -- REGION 11
            (repeat refine AWp.seq ?_); refine AWp.region ?_
            refine rn 1 ?_
            refine AL.nil ?_; simp only [thenQ, inQ]
            refine AWp.ret ?_; (try simp only [inQ, thenQ]); refine rret 0 ?_
            refine ⟨?_, rfl⟩; simp only [pack]; first | (rw [heap_eq, eql_len (a := x.C) (by assumption)]; simp; done) | (rw [heap_eq, eql_ne h2 hu hv (by simpa using hb)]; simp; done) | (rw [heap_eq, eql_end h2 (by simp at hb; omega) (by simp at hb; omega)]; clear h1 h2 hb hl; simp_all; done) | (rw [heap_eq]; simp_all; done)

theorem c_ragpickerref12_Same (G : Globs) (x y : Thread) : ACall Tryz.prog G 13 [threadV x, threadV y] [] (fun r L' => r = boolv (decide (x = y)) ∧ L' = []) := by
  refine ACall.enter Tryz.func13 rfl Tryz.ntmps13 (by rw [Tryz.results13]) (Nat.le_of_ble_eq_true rfl) rfl ?_
  -- REGION 0
  (repeat refine AWp.seq ?_); refine AWp.region ?_
  refine rn 3 ?_
  refine AL.nil ?_; simp only [thenQ, inQ]
  -- REGION 1
  (repeat refine AWp.seq ?_); refine AWp.region ?_
  refine rn 4 ?_
  refine rcall Tryz.call33 (hC := c_ragpickerref06_Same G _ _) (kk := ?_); simp only [Av.put]
  refine rn 1 ?_
  refine AL.nil ?_; simp only [thenQ, inQ]
  -- REGION 2
  (repeat refine AWp.seq ?_); refine AWp.region ?_
  refine rn 4 ?_
  refine rn 2 ?_
  refine rsp 18 (fun hb => ?_) (fun hb => ?_)
  · skip
    refine rn 4 ?_
    refine reqG (fun W => eqR _ _ _ _ _ _ _ _ W) ?_; simp only [Av.put, reduceIte, reduceCtorEq]
    refine rn 2 ?_
    refine rsp 25 (fun hb => ?_) (fun hb => ?_)
    · skip
      refine rn 4 ?_
      refine rn 3 ?_
      refine rsp 32 (fun hb => ?_) (fun hb => ?_)
      · skip
        refine rn 4 ?_
        refine rn 3 ?_
        refine rsp 39 (fun hb => ?_) (fun hb => ?_)
        · skip
          refine rn 4 ?_
          refine rn 3 ?_
          refine AL.nil ?_; simp only [thenQ, inQ]
          -- REGION 3
          (repeat refine AWp.seq ?_); refine AWp.region ?_
          refine rn 3 ?_
          refine rsp 48 (fun hb => ?_) (fun hb => ?_)
          · skip
            refine rn 4 ?_
            refine rn 4 ?_
            refine rn 4 ?_
            refine rn 4 ?_
            refine rn 4 ?_
            refine rn 4 ?_
            refine rn 4 ?_
            refine rn 4 ?_
            refine rn 1 ?_
            refine AL.nil ?_; simp only [thenQ, inQ]
            (repeat refine AWp.seq ?_)
            refine rc (t := true) (fun hb => ?_) (fun hb => by cases hb)
            -- REGION 4
            (repeat refine AWp.seq ?_); refine AWp.region ?_
            refine rn 1 ?_
            refine AL.nil ?_; simp only [thenQ, inQ]
            refine AWp.ret ?_; (try simp only [inQ, thenQ]); refine rret 0 ?_
            refine ⟨?_, rfl⟩; simp only [pack]; first | (rw [thr_len (by assumption)]; done) | (rw [thr_ne h2 hu hv (by simpa using hb)]; done) | (rw [thread_eq, eql_end h2 (by simp at hb; omega) (by simp at hb; omega)]; clear h1 h2 hb hl; simp_all; done) | (rw [thread_eq]; simp_all; done) | trace_state
          · skip
            refine rn 4 ?_
            refine rsp 52 (fun hb => ?_) (fun hb => ?_)
            · skip
              refine rn 4 ?_
              refine rn 4 ?_
              refine rn 4 ?_
              refine rn 4 ?_
              refine rn 4 ?_
              refine rn 4 ?_
              refine rn 4 ?_
              refine rn 1 ?_
              refine AL.nil ?_; simp only [thenQ, inQ]
              (repeat refine AWp.seq ?_)
              refine rc (t := true) (fun hb => ?_) (fun hb => by cases hb)
              -- REGION 4
              (repeat refine AWp.seq ?_); refine AWp.region ?_
              refine rn 1 ?_
              refine AL.nil ?_; simp only [thenQ, inQ]
              refine AWp.ret ?_; (try simp only [inQ, thenQ]); refine rret 0 ?_
              refine ⟨?_, rfl⟩; simp only [pack]; first | (rw [thr_len (by assumption)]; done) | (rw [thr_ne h2 hu hv (by simpa using hb)]; done) | (rw [thread_eq, eql_end h2 (by simp at hb; omega) (by simp at hb; omega)]; clear h1 h2 hb hl; simp_all; done) | (rw [thread_eq]; simp_all; done) | trace_state
            · skip
              refine rn 4 ?_
              refine rn 3 ?_
              refine rsp 59 (fun hb => ?_) (fun hb => ?_)
              · skip
                refine rn 4 ?_
                refine rn 4 ?_
                refine rn 4 ?_
                refine rn 4 ?_
                refine rn 4 ?_
                refine rn 2 ?_
                refine AL.nil ?_; simp only [thenQ, inQ]
                (repeat refine AWp.seq ?_)
                refine rc (t := true) (fun hb => ?_) (fun hb => by cases hb)
                -- REGION 4
                (repeat refine AWp.seq ?_); refine AWp.region ?_
                refine rn 1 ?_
                refine AL.nil ?_; simp only [thenQ, inQ]
                refine AWp.ret ?_; (try simp only [inQ, thenQ]); refine rret 0 ?_
                refine ⟨?_, rfl⟩; simp only [pack]; first | (rw [thr_len (by assumption)]; done) | (rw [thr_ne h2 hu hv (by simpa using hb)]; done) | (rw [thread_eq, eql_end h2 (by simp at hb; omega) (by simp at hb; omega)]; clear h1 h2 hb hl; simp_all; done) | (rw [thread_eq]; simp_all; done) | trace_state
              · skip
                refine rn 4 ?_
                refine rn 3 ?_
                refine rsp 66 (fun hb => ?_) (fun hb => ?_)
                · skip
                  refine rn 4 ?_
                  refine rn 4 ?_
                  refine rn 4 ?_
                  refine rn 3 ?_
                  refine AL.nil ?_; simp only [thenQ, inQ]
                  (repeat refine AWp.seq ?_)
                  refine rc (t := true) (fun hb => ?_) (fun hb => by cases hb)
                  -- REGION 4
                  (repeat refine AWp.seq ?_); refine AWp.region ?_
                  refine rn 1 ?_
                  refine AL.nil ?_; simp only [thenQ, inQ]
                  refine AWp.ret ?_; (try simp only [inQ, thenQ]); refine rret 0 ?_
                  refine ⟨?_, rfl⟩; simp only [pack]; first | (rw [thr_len (by assumption)]; done) | (rw [thr_ne h2 hu hv (by simpa using hb)]; done) | (rw [thread_eq, eql_end h2 (by simp at hb; omega) (by simp at hb; omega)]; clear h1 h2 hb hl; simp_all; done) | (rw [thread_eq]; simp_all; done) | trace_state
                · skip
                  refine rn 4 ?_
                  refine rn 3 ?_
                  refine rsp 73 (fun hb => ?_) (fun hb => ?_)
                  · skip
                    refine rn 4 ?_
                    refine rn 4 ?_
                    refine AL.nil ?_; simp only [thenQ, inQ]
                    (repeat refine AWp.seq ?_)
                    refine rc (t := true) (fun hb => ?_) (fun hb => by cases hb)
                    -- REGION 4
                    (repeat refine AWp.seq ?_); refine AWp.region ?_
                    refine rn 1 ?_
                    refine AL.nil ?_; simp only [thenQ, inQ]
                    refine AWp.ret ?_; (try simp only [inQ, thenQ]); refine rret 0 ?_
                    refine ⟨?_, rfl⟩; simp only [pack]; first | (rw [thr_len (by assumption)]; done) | (rw [thr_ne h2 hu hv (by simpa using hb)]; done) | (rw [thread_eq, eql_end h2 (by simp at hb; omega) (by simp at hb; omega)]; clear h1 h2 hb hl; simp_all; done) | (rw [thread_eq]; simp_all; done) | trace_state
                  · skip
                    refine rn 4 ?_
                    refine rn 4 ?_
                    refine AL.nil ?_; simp only [thenQ, inQ]
                    (repeat refine AWp.seq ?_)
                    refine rc (fun hb => ?_) (fun hb => ?_)
                    · skip
                      -- REGION 4
                      (repeat refine AWp.seq ?_); refine AWp.region ?_
                      refine rn 1 ?_
                      refine AL.nil ?_; simp only [thenQ, inQ]
                      refine AWp.ret ?_; (try simp only [inQ, thenQ]); refine rret 0 ?_
                      refine ⟨?_, rfl⟩; simp only [pack]; first | (rw [thr_len (by assumption)]; done) | (rw [thr_ne h2 hu hv (by simpa using hb)]; done) | (rw [thread_eq, eql_end h2 (by simp at hb; omega) (by simp at hb; omega)]; clear h1 h2 hb hl; simp_all; done) | (rw [thread_eq]; simp_all; done) | trace_state
                    · skip
                      (repeat refine AWp.seq ?_)
                      refine AWp.skip ?_
                      (try simp only [inQ, thenQ])
                      refine AWp.freezeV 0 (cs := threadI x) rfl ?_; simp only [frvT, frvB, SV.frv, frvL, Blk.frv, List.map_cons, List.map_nil, reduceIte, Nat.reduceEqDiff]; refine AWp.freezeV 1 (cs := threadI y) rfl ?_; simp only [frvT, frvB, SV.frv, frvL, Blk.frv, List.map_cons, List.map_nil, reduceIte, Nat.reduceEqDiff]; refine AWp.big 75 rfl (fun hbig => ?_); replace hbig : x.do_.length ≤ 274877906944 := (by simpa [bigN] using hbig); have hl := eql_len' (a := x.do_) (b := y.do_) (by assumption)
                      (repeat refine AWp.seq ?_); refine AWp.region ?_
                      refine rn 1 ?_
                      refine AL.nil ?_; simp only [thenQ, inQ]
                      (repeat refine AWp.seq ?_)
                      refine AWp.block ?_
                      (repeat refine AWp.seq ?_)
                      refine AWp.loopS (σ := Nat) (fun i => i ≤ x.do_.length ∧ decide (x.do_ = y.do_) = decide (x.do_.drop i = y.do_.drop i)) (fun i => x.do_.length - i) (fun i => [(7, intv i), (2, .im (.pt (threadI x) 0)), (3, .im (.pt (threadI y) 0))]) (fun _ => [.dead, .dead]) 0 ⟨⟨Nat.zero_le _, rfl⟩, (by simp only [engA, engL, engT, reduceIte, reduceCtorEq, Nat.reduceLT, Nat.reduceLeDiff, Nat.reduceAdd, Nat.reduceSub, Nat.reduceMul, Nat.reduceEqDiff, Nat.reduceBneDiff, Nat.le_refl, Bool.false_eq_true, Int.reduceLT, Int.reduceLE, Int.reduceAdd, Int.reduceSub, Int.reduceMul, Int.reduceToNat, Int.reduceEq, Int.cast_ofNat_Int, Int.reduceNeg, eq_self, and_self]), rfl⟩ ?_
                      rintro i ⟨h1, h2⟩
                      -- REGION 6
                      (repeat refine AWp.seq ?_); refine AWp.region ?_
                      refine rn 4 ?_
                      refine rn 1 ?_
                      refine AL.nil ?_; simp only [thenQ, inQ]
                      (repeat refine AWp.seq ?_)
                      refine rc (fun hb => ?_) (fun hb => ?_)
                      · skip
                        (repeat refine AWp.seq ?_)
                        refine AWp.skip ?_
                        (try simp only [inQ, thenQ])
                        (repeat refine AWp.seq ?_)
                        refine AWp.block ?_
                        have hlt : i < x.do_.length := (by simp at hb; omega); obtain ⟨u, hu⟩ : ∃ u, x.do_[i]? = some u := ⟨_, List.getElem?_eq_getElem hlt⟩; obtain ⟨v, hv⟩ : ∃ v, y.do_[i]? = some v := ⟨_, List.getElem?_eq_getElem (by omega)⟩; have hc : (0 ≤ (i : Int) ∧ (i : Int) < (x.do_.length : Int)) = True := (by simp; omega); have hc2 : (0 ≤ (i : Int) ∧ (i : Int) < (y.do_.length : Int)) = True := (by simp; omega); have hw : IntKind.i64.wrap ((i : Int) + 1) = ((i + 1 : Nat) : Int) := (by rw [wrap_id _ (by omega) (by omega)]; omega) 
                        (repeat refine AWp.seq ?_); refine rdrawsO [.flo 0 0, .flo 0 0, .flo 0 0, .flo 0 0, .flo 0 0, .flo 0 0, .flo 0 0, .flo 0 0, .flo 0 0, .flo 0 0, .flo 0 0] 0 [(10, boolv (!decide (u = v)))] mixed ?_ (h0 := by simp only [trun, oev, lk, chkAll, chkFrom, tS, undefS, List.getD_cons_zero, List.getD_cons_succ, if_true, hc, hc2, hu, hv, Int.toNat_natCast, List.getElem?_map, List.length_map, Nat.mul_div_cancel _ (show 0 < 4 by decide), Nat.mul_mod_left, opI, IV.int, List.map_cons, List.map_nil, List.length_cons, List.length_nil, List.take_succ_cons, List.take_zero, engA, engL, engT, reduceIte, reduceCtorEq, Nat.reduceLT, Nat.reduceLeDiff, Nat.reduceAdd, Nat.reduceSub, Nat.reduceMul, Nat.reduceEqDiff, Nat.reduceBneDiff, Nat.le_refl, Bool.false_eq_true, Int.reduceLT, Int.reduceLE, Int.reduceAdd, Int.reduceSub, Int.reduceMul, Int.reduceToNat, Int.reduceEq, Int.cast_ofNat_Int, Int.reduceNeg] <;> rfl) (hc := by simp only [trun, oev, lk, chkAll, chkFrom, tS, undefS, List.getD_cons_zero, List.getD_cons_succ, if_true, hc, hc2, hu, hv, Int.toNat_natCast, List.getElem?_map, List.length_map, Nat.mul_div_cancel _ (show 0 < 4 by decide), Nat.mul_mod_left, opI, IV.int, List.map_cons, List.map_nil, List.length_cons, List.length_nil, List.take_succ_cons, List.take_zero, engA, engL, engT, reduceIte, reduceCtorEq, Nat.reduceLT, Nat.reduceLeDiff, Nat.reduceAdd, Nat.reduceSub, Nat.reduceMul, Nat.reduceEqDiff, Nat.reduceBneDiff, Nat.le_refl, Bool.false_eq_true, Int.reduceLT, Int.reduceLE, Int.reduceAdd, Int.reduceSub, Int.reduceMul, Int.reduceToNat, Int.reduceEq, Int.cast_ofNat_Int, Int.reduceNeg]); refine ⟨⟨reqo (fun W => eqOp _ _ _ _ _ _ _ _ W) (hz := by rw [if_neg (by decide), opn_ne]), trivial⟩, ?_⟩; simp only [thenQ, inQ, tS, List.getD_cons_zero, List.getD_cons_succ, if_true]
                        (repeat refine AWp.seq ?_)
                        refine rc (fun hb => ?_) (fun hb => ?_)
                        · skip
                          -- REGION 9
                          (repeat refine AWp.seq ?_); refine AWp.region ?_
                          refine rn 1 ?_
                          refine AL.nil ?_; simp only [thenQ, inQ]
                          refine AWp.ret ?_; (try simp only [inQ, thenQ]); refine rret 0 ?_
                          refine ⟨?_, rfl⟩; simp only [pack]; first | (rw [thr_len (by assumption)]; done) | (rw [thr_ne h2 hu hv (by simpa using hb)]; done) | (rw [thread_eq, eql_end h2 (by simp at hb; omega) (by simp at hb; omega)]; clear h1 h2 hb hl; simp_all; done) | (rw [thread_eq]; simp_all; done) | trace_state
                        · skip
                          (repeat refine AWp.seq ?_)
                          refine AWp.skip ?_
                          (try simp only [inQ, thenQ])
                          -- REGION 7
                          (repeat refine AWp.seq ?_); refine AWp.region ?_
                          refine rn 3 (k := ?_) (h := by simp (maxSteps := 3000000) only [hw, engA, engL, engT, reduceIte, reduceCtorEq, Nat.reduceLT, Nat.reduceLeDiff, Nat.reduceAdd, Nat.reduceSub, Nat.reduceMul, Nat.reduceEqDiff, Nat.reduceBneDiff, Nat.le_refl, Bool.false_eq_true, Int.reduceLT, Int.reduceLE, Int.reduceAdd, Int.reduceSub, Int.reduceMul, Int.reduceToNat, Int.reduceEq, Int.cast_ofNat_Int, Int.reduceNeg] <;> rfl)
                          refine AL.nil ?_; simp only [thenQ, inQ]
                          (try simp only [inQ, thenQ])
                          exact ⟨i + 1, ⟨hlt, eql_step h2 hu hv (by simpa using hb)⟩, by omega, (by simp only [engA, engL, engT, reduceIte, reduceCtorEq, Nat.reduceLT, Nat.reduceLeDiff, Nat.reduceAdd, Nat.reduceSub, Nat.reduceMul, Nat.reduceEqDiff, Nat.reduceBneDiff, Nat.le_refl, Bool.false_eq_true, Int.reduceLT, Int.reduceLE, Int.reduceAdd, Int.reduceSub, Int.reduceMul, Int.reduceToNat, Int.reduceEq, Int.cast_ofNat_Int, Int.reduceNeg, eq_self, and_self]), by first | rfl | trivial⟩
                      · skip
                        refine AWp.exit ?_
                        simp only [inQ, thenQ, reduceIte, Nat.reduceEqDiff]
                        -- REGION 10
                        (repeat refine AWp.seq ?_); refine AWp.region ?_
                        refine rn 1 ?_
                        refine AL.nil ?_; simp only [thenQ, inQ]
                        refine AWp.ret ?_; (try simp only [inQ, thenQ]); refine rret 0 ?_
                        refine ⟨?_, rfl⟩; simp only [pack]; first | (rw [thr_len (by assumption)]; done) | (rw [thr_ne h2 hu hv (by simpa using hb)]; done) | (rw [thread_eq, eql_end h2 (by simp at hb; omega) (by simp at hb; omega)]; clear h1 h2 hb hl; simp_all; done) | (rw [thread_eq]; simp_all; done) | trace_state
        · skip
          refine rn 4 ?_
          refine rn 3 ?_
          refine AL.nil ?_; simp only [thenQ, inQ]
          -- REGION 3
          (repeat refine AWp.seq ?_); refine AWp.region ?_
          refine rn 3 ?_
          refine rsp 48 (fun hb => ?_) (fun hb => ?_)
          · skip
            refine rn 4 ?_
            refine rn 4 ?_
            refine rn 4 ?_
            refine rn 4 ?_
            refine rn 4 ?_
            refine rn 4 ?_
            refine rn 4 ?_
            refine rn 4 ?_
            refine rn 1 ?_
            refine AL.nil ?_; simp only [thenQ, inQ]
            (repeat refine AWp.seq ?_)
            refine rc (t := true) (fun hb => ?_) (fun hb => by cases hb)
            -- REGION 4
            (repeat refine AWp.seq ?_); refine AWp.region ?_
            refine rn 1 ?_
            refine AL.nil ?_; simp only [thenQ, inQ]
            refine AWp.ret ?_; (try simp only [inQ, thenQ]); refine rret 0 ?_
            refine ⟨?_, rfl⟩; simp only [pack]; first | (rw [thr_len (by assumption)]; done) | (rw [thr_ne h2 hu hv (by simpa using hb)]; done) | (rw [thread_eq, eql_end h2 (by simp at hb; omega) (by simp at hb; omega)]; clear h1 h2 hb hl; simp_all; done) | (rw [thread_eq]; simp_all; done) | trace_state
          · skip
            refine rn 4 ?_
            refine rn 4 ?_
            refine rn 4 ?_
            refine rn 4 ?_
            refine rn 4 ?_
            refine rn 4 ?_
            refine rn 4 ?_
            refine rn 4 ?_
            refine rn 1 ?_
            refine AL.nil ?_; simp only [thenQ, inQ]
            (repeat refine AWp.seq ?_)
            refine rc (t := true) (fun hb => ?_) (fun hb => by cases hb)
            -- REGION 4
            (repeat refine AWp.seq ?_); refine AWp.region ?_
            refine rn 1 ?_
            refine AL.nil ?_; simp only [thenQ, inQ]
            refine AWp.ret ?_; (try simp only [inQ, thenQ]); refine rret 0 ?_
            refine ⟨?_, rfl⟩; simp only [pack]; first | (rw [thr_len (by assumption)]; done) | (rw [thr_ne h2 hu hv (by simpa using hb)]; done) | (rw [thread_eq, eql_end h2 (by simp at hb; omega) (by simp at hb; omega)]; clear h1 h2 hb hl; simp_all; done) | (rw [thread_eq]; simp_all; done) | trace_state
      · skip
        refine rn 4 ?_
        refine rn 4 ?_
        refine rn 4 ?_
        refine rn 2 ?_
        refine AL.nil ?_; simp only [thenQ, inQ]
        -- REGION 3
        (repeat refine AWp.seq ?_); refine AWp.region ?_
        refine rn 3 ?_
        refine rsp 48 (fun hb => ?_) (fun hb => ?_)
        · skip
          refine rn 4 ?_
          refine rn 4 ?_
          refine rn 4 ?_
          refine rn 4 ?_
          refine rn 4 ?_
          refine rn 4 ?_
          refine rn 4 ?_
          refine rn 4 ?_
          refine rn 1 ?_
          refine AL.nil ?_; simp only [thenQ, inQ]
          (repeat refine AWp.seq ?_)
          refine rc (t := true) (fun hb => ?_) (fun hb => by cases hb)
          -- REGION 4
          (repeat refine AWp.seq ?_); refine AWp.region ?_
          refine rn 1 ?_
          refine AL.nil ?_; simp only [thenQ, inQ]
          refine AWp.ret ?_; (try simp only [inQ, thenQ]); refine rret 0 ?_
          refine ⟨?_, rfl⟩; simp only [pack]; first | (rw [thr_len (by assumption)]; done) | (rw [thr_ne h2 hu hv (by simpa using hb)]; done) | (rw [thread_eq, eql_end h2 (by simp at hb; omega) (by simp at hb; omega)]; clear h1 h2 hb hl; simp_all; done) | (rw [thread_eq]; simp_all; done) | trace_state
        · skip
          refine rn 4 ?_
          refine rn 4 ?_
          refine rn 4 ?_
          refine rn 4 ?_
          refine rn 4 ?_
          refine rn 4 ?_
          refine rn 4 ?_
          refine rn 4 ?_
          refine rn 1 ?_
          refine AL.nil ?_; simp only [thenQ, inQ]
          (repeat refine AWp.seq ?_)
          refine rc (t := true) (fun hb => ?_) (fun hb => by cases hb)
          -- REGION 4
          (repeat refine AWp.seq ?_); refine AWp.region ?_
          refine rn 1 ?_
          refine AL.nil ?_; simp only [thenQ, inQ]
          refine AWp.ret ?_; (try simp only [inQ, thenQ]); refine rret 0 ?_
          refine ⟨?_, rfl⟩; simp only [pack]; first | (rw [thr_len (by assumption)]; done) | (rw [thr_ne h2 hu hv (by simpa using hb)]; done) | (rw [thread_eq, eql_end h2 (by simp at hb; omega) (by simp at hb; omega)]; clear h1 h2 hb hl; simp_all; done) | (rw [thread_eq]; simp_all; done) | trace_state
    · skip
      refine rn 4 ?_
      refine rn 4 ?_
      refine rn 4 ?_
      refine rn 4 ?_
      refine rn 4 ?_
      refine rn 1 ?_
      refine AL.nil ?_; simp only [thenQ, inQ]
      -- REGION 3
      (repeat refine AWp.seq ?_); refine AWp.region ?_
      refine rn 3 ?_
      refine rsp 48 (fun hb => ?_) (fun hb => ?_)
      · skip
        refine rn 4 ?_
        refine rn 4 ?_
        refine rn 4 ?_
        refine rn 4 ?_
        refine rn 4 ?_
        refine rn 4 ?_
        refine rn 4 ?_
        refine rn 4 ?_
        refine rn 1 ?_
        refine AL.nil ?_; simp only [thenQ, inQ]
        (repeat refine AWp.seq ?_)
        refine rc (t := true) (fun hb => ?_) (fun hb => by cases hb)
        -- REGION 4
        (repeat refine AWp.seq ?_); refine AWp.region ?_
        refine rn 1 ?_
        refine AL.nil ?_; simp only [thenQ, inQ]
        refine AWp.ret ?_; (try simp only [inQ, thenQ]); refine rret 0 ?_
        refine ⟨?_, rfl⟩; simp only [pack]; first | (rw [thr_len (by assumption)]; done) | (rw [thr_ne h2 hu hv (by simpa using hb)]; done) | (rw [thread_eq, eql_end h2 (by simp at hb; omega) (by simp at hb; omega)]; clear h1 h2 hb hl; simp_all; done) | (rw [thread_eq]; simp_all; done) | trace_state
      · skip
        refine rn 4 ?_
        refine rn 4 ?_
        refine rn 4 ?_
        refine rn 4 ?_
        refine rn 4 ?_
        refine rn 4 ?_
        refine rn 4 ?_
        refine rn 4 ?_
        refine rn 1 ?_
        refine AL.nil ?_; simp only [thenQ, inQ]
        (repeat refine AWp.seq ?_)
        refine rc (t := true) (fun hb => ?_) (fun hb => by cases hb)
        -- REGION 4
        (repeat refine AWp.seq ?_); refine AWp.region ?_
        refine rn 1 ?_
        refine AL.nil ?_; simp only [thenQ, inQ]
        refine AWp.ret ?_; (try simp only [inQ, thenQ]); refine rret 0 ?_
        refine ⟨?_, rfl⟩; simp only [pack]; first | (rw [thr_len (by assumption)]; done) | (rw [thr_ne h2 hu hv (by simpa using hb)]; done) | (rw [thread_eq, eql_end h2 (by simp at hb; omega) (by simp at hb; omega)]; clear h1 h2 hb hl; simp_all; done) | (rw [thread_eq]; simp_all; done) | trace_state
  · skip
    refine rn 4 ?_
    refine rn 4 ?_
    refine rn 4 ?_
    refine rn 4 ?_
    refine rn 4 ?_
    refine rn 4 ?_
    refine rn 4 ?_
    refine AL.nil ?_; simp only [thenQ, inQ]
    -- REGION 3
    (repeat refine AWp.seq ?_); refine AWp.region ?_
    refine rn 3 ?_
    refine rsp 48 (fun hb => ?_) (fun hb => ?_)
    · skip
      refine rn 4 ?_
      refine rn 4 ?_
      refine rn 4 ?_
      refine rn 4 ?_
      refine rn 4 ?_
      refine rn 4 ?_
      refine rn 4 ?_
      refine rn 4 ?_
      refine rn 1 ?_
      refine AL.nil ?_; simp only [thenQ, inQ]
      (repeat refine AWp.seq ?_)
      refine rc (t := true) (fun hb => ?_) (fun hb => by cases hb)
      -- REGION 4
      (repeat refine AWp.seq ?_); refine AWp.region ?_
      refine rn 1 ?_
      refine AL.nil ?_; simp only [thenQ, inQ]
      refine AWp.ret ?_; (try simp only [inQ, thenQ]); refine rret 0 ?_
      refine ⟨?_, rfl⟩; simp only [pack]; first | (rw [thr_len (by assumption)]; done) | (rw [thr_ne h2 hu hv (by simpa using hb)]; done) | (rw [thread_eq, eql_end h2 (by simp at hb; omega) (by simp at hb; omega)]; clear h1 h2 hb hl; simp_all; done) | (rw [thread_eq]; simp_all; done) | trace_state
    · skip
      refine rn 4 ?_
      refine rn 4 ?_
      refine rn 4 ?_
      refine rn 4 ?_
      refine rn 4 ?_
      refine rn 4 ?_
      refine rn 4 ?_
      refine rn 4 ?_
      refine rn 1 ?_
      refine AL.nil ?_; simp only [thenQ, inQ]
      (repeat refine AWp.seq ?_)
      refine rc (t := true) (fun hb => ?_) (fun hb => by cases hb)
      -- REGION 4
      (repeat refine AWp.seq ?_); refine AWp.region ?_
      refine rn 1 ?_
      refine AL.nil ?_; simp only [thenQ, inQ]
      refine AWp.ret ?_; (try simp only [inQ, thenQ]); refine rret 0 ?_
      refine ⟨?_, rfl⟩; simp only [pack]; first | (rw [thr_len (by assumption)]; done) | (rw [thr_ne h2 hu hv (by simpa using hb)]; done) | (rw [thread_eq, eql_end h2 (by simp at hb; omega) (by simp at hb; omega)]; clear h1 h2 hb hl; simp_all; done) | (rw [thread_eq]; simp_all; done) | trace_state

end Go.Proofs
end

section
set_option linter.unusedSimpArgs false
set_option maxRecDepth 20000
set_option maxHeartbeats 1000000
namespace Go.Proofs
open Go Av Rp
theorem c_arena_New (G : Globs) (n : Int) (h : 1 ≤ n ∧ n ≤ 64) : ACall Tryz.prog G 44 [intv n] [] (fun r L' => r = .tup [.im (ints (List.replicate (16 * n.toNat) 0)), intv 0] ∧ L' = []) := by
  refine ACall.enter Tryz.func44 rfl Tryz.ntmps44 (by rw [Tryz.results44]) (Nat.le_of_ble_eq_true rfl) rfl ?_
  -- REGION 0
  (repeat refine AWp.seq ?_); refine AWp.region ?_
  refine rn 2 ?_
  refine AL.nil ?_; simp only [thenQ, inQ]
  -- REGION 1
  (repeat refine AWp.seq ?_); refine AWp.region ?_
  refine rn 1 ?_
  refine rcall Tryz.call58 (hC := c_arena_pages G _) (kk := ?_); simp only [Av.put]
  refine rn 1 ?_
  refine AL.nil ?_; simp only [thenQ, inQ]
  (repeat refine AWp.seq ?_)
  refine rc (fun hb => ?_) (fun hb => ?_)
  · skip
    -- REGION 2
    (repeat refine AWp.seq ?_); refine AWp.region ?_
    refine rn 2 ?_
    refine AL.nil ?_; simp only [thenQ, inQ]
    refine AWp.ret ?_; (try simp only [inQ, thenQ]); refine rret 0 ?_
    refine ⟨?_, rfl⟩; first | rfl | (simp [inL] at hb; omega)
  · skip
    (repeat refine AWp.seq ?_)
    refine AWp.skip ?_
    (try simp only [inQ, thenQ])
    have hw : IntKind.i64.wrap (n * 16) = n * 16 := wrap_id _ (by omega) (by omega)
    (repeat refine AWp.seq ?_); refine AWp.region ?_
    refine rn 2 (k := ?_) (h := by simp (maxSteps := 3000000) only [hw, engA, engL, engT, reduceIte, reduceCtorEq, Nat.reduceLT, Nat.reduceLeDiff, Nat.reduceAdd, Nat.reduceSub, Nat.reduceMul, Nat.reduceEqDiff, Nat.reduceBneDiff, Nat.le_refl, Bool.false_eq_true, Int.reduceLT, Int.reduceLE, Int.reduceAdd, Int.reduceSub, Int.reduceMul, Int.reduceToNat, Int.reduceEq, Int.cast_ofNat_Int, Int.reduceNeg] <;> rfl)
    -- SPECIAL makeSlice T22 t8 t8
    refine rmakeI (n * 16) ti22 ti3 (by omega) (by omega) (hv := zeros _ (16 * n.toNat) (by omega)) ?_; simp only [Av.put]
    refine rn 2 (k := ?_) (h := by simp (maxSteps := 3000000) only [hw, engA, engL, engT, reduceIte, reduceCtorEq, Nat.reduceLT, Nat.reduceLeDiff, Nat.reduceAdd, Nat.reduceSub, Nat.reduceMul, Nat.reduceEqDiff, Nat.reduceBneDiff, Nat.le_refl, Bool.false_eq_true, Int.reduceLT, Int.reduceLE, Int.reduceAdd, Int.reduceSub, Int.reduceMul, Int.reduceToNat, Int.reduceEq, Int.cast_ofNat_Int, Int.reduceNeg] <;> rfl)
    refine AL.nil ?_; simp only [thenQ, inQ]
    refine AWp.ret ?_; (try simp only [inQ, thenQ]); refine rret 0 ?_
    refine ⟨?_, rfl⟩; first | rfl | (simp [inL] at hb; omega)

theorem c_heap_New (G : Globs) (n : Int) (h : 1 ≤ n ∧ n ≤ 64) : ACall Tryz.prog G 23 [intv n] [] (fun r L' => r = .tup [heapV (heap0 n.toNat), intv 0] ∧ L' = []) := by
  refine ACall.viewed ?_
  refine ACall.enter Tryz.func23 rfl Tryz.ntmps23 (by rw [Tryz.results23]) (Nat.le_of_ble_eq_true rfl) rfl ?_
  -- REGION 0
  (repeat refine AWp.seq ?_); refine AWp.region ?_
  refine rn 2 ?_
  refine AL.nil ?_; simp only [thenQ, inQ]
  -- REGION 1
  (repeat refine AWp.seq ?_); refine AWp.region ?_
  refine rn 1 ?_
  refine rcall Tryz.call44 (hC := c_arena_New G n h) (kk := ?_); simp only [Av.put]
  refine rn 4 ?_
  refine rn 1 ?_
  refine AL.nil ?_; simp only [thenQ, inQ]
  -- REGION 2
  (repeat refine AWp.seq ?_); refine AWp.region ?_
  refine rn 2 ?_
  refine AL.nil ?_; simp only [thenQ, inQ]
  (repeat refine AWp.seq ?_)
  refine rc (fun hb => ?_) (fun hb => ?_)
  · skip
    -- REGION 3
    (repeat refine AWp.seq ?_); refine AWp.region ?_
    refine rn 4 ?_
    refine AL.nil ?_; simp only [thenQ, inQ]
    refine AWp.ret ?_; (try simp only [inQ, thenQ]); refine rret 0 ?_
    refine ⟨?_, rfl⟩; first | (simp only [pack, engA, engL]; exact Vw.tup ⟨Vw.agg ⟨Vw.rfl', Vw.rfl', Vw_nil_ints, Vw_nil_ints, Vw_nil_ints, Vw.rfl', trivial⟩, Vw.rfl', trivial⟩) | simp at hb
  · skip
    (repeat refine AWp.seq ?_)
    refine AWp.skip ?_
    (try simp only [inQ, thenQ])
    have hw := newCards n h 
    (repeat refine AWp.seq ?_); refine rdrawsO [.flo 0 0, .flo 0 0, .flo 0 0, .flo 0 0, .flo 0 0, .flo 0 0, .flo 0 0, .flo 0 0, .eff 0, .flo 1 1] 1 [(2, .im (pages (List.replicate n.toNat ⟨0, 0⟩))), (6, .im (bools (List.replicate (2 * n.toNat) false)))] mixed ?_ (h0 := by simp only [trun, oev, lk, chkAll, chkFrom, tS, undefS, List.getD_cons_zero, List.getD_cons_succ, if_true, List.length_replicate, hw, engA, engL, engT, reduceIte, reduceCtorEq, Nat.reduceLT, Nat.reduceLeDiff, Nat.reduceAdd, Nat.reduceSub, Nat.reduceMul, Nat.reduceEqDiff, Nat.reduceBneDiff, Nat.le_refl, Bool.false_eq_true, Int.reduceLT, Int.reduceLE, Int.reduceAdd, Int.reduceSub, Int.reduceMul, Int.reduceToNat, Int.reduceEq, Int.cast_ofNat_Int, Int.reduceNeg] <;> rfl) (hc := by simp only [trun, oev, lk, chkAll, chkFrom, tS, undefS, List.getD_cons_zero, List.getD_cons_succ, if_true, List.length_replicate, hw, engA, engL, engT, reduceIte, reduceCtorEq, Nat.reduceLT, Nat.reduceLeDiff, Nat.reduceAdd, Nat.reduceSub, Nat.reduceMul, Nat.reduceEqDiff, Nat.reduceBneDiff, Nat.le_refl, Bool.false_eq_true, Int.reduceLT, Int.reduceLE, Int.reduceAdd, Int.reduceSub, Int.reduceMul, Int.reduceToNat, Int.reduceEq, Int.cast_ofNat_Int, Int.reduceNeg]); refine ⟨⟨rmko n ti23 ti80 (by omega) (by omega) (hv := pages0 _ n.toNat (by omega)), rmko (2 * n) ti26 ti4 (by omega) (by omega) (hv := falses _ (2 * n.toNat) (by omega)), trivial⟩, ?_⟩; simp only [thenQ, inQ, tS, List.getD_cons_zero, List.getD_cons_succ, if_true]
    refine AWp.ret ?_; (try simp only [inQ, thenQ]); refine rret 0 ?_
    refine ⟨?_, rfl⟩; first | (simp only [pack, engA, engL]; exact Vw.tup ⟨Vw.agg ⟨Vw.rfl', Vw.rfl', Vw_nil_ints, Vw_nil_ints, Vw_nil_ints, Vw.rfl', trivial⟩, Vw.rfl', trivial⟩) | simp at hb

end Go.Proofs
end
