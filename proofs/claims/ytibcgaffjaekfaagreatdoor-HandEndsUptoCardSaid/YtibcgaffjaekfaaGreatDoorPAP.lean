/- Part 16 of 22 of a proof: own engine, contracts and facts. -/
import Derived.Test.YtibcgaffjaekfaaGreatDoorPAJ
import Derived.Test.YtibcgaffjaekfaaGreatDoorPAK
import Derived.Test.YtibcgaffjaekfaaGreatDoorPAM
set_option linter.all false
section
set_option linter.unusedSimpArgs false
set_option maxRecDepth 20000
namespace Go.Proofs
open Go Av Rp
theorem c_head_in (G : Globs) (n hi : Int) : ACall Tryz.prog G 91 [intv n, intv hi] [] (fun r L' => r = boolv (inR n hi) ∧ L' = []) := by
  refine ACall.enter Tryz.func91 rfl Tryz.ntmps91 (by rw [Tryz.results91]) (Nat.le_of_ble_eq_true rfl) rfl ?_
  -- REGION 0
  (repeat refine AWp.seq ?_); refine AWp.region ?_
  refine rn 1 ?_
  refine AL.nil ?_; simp only [thenQ, inQ]
  -- REGION 1
  (repeat refine AWp.seq ?_); refine AWp.region ?_
  refine rn 3 ?_
  refine rsp 7 (fun hb => ?_) (fun hb => ?_)
  · skip
    refine rn 5 ?_
    refine AL.nil ?_; simp only [thenQ, inQ]
    refine AWp.ret ?_; (try simp only [inQ, thenQ]); refine rret 0 ?_
    first | exact ⟨rfl, rfl⟩ | (refine ⟨?_, rfl⟩; (try simp only [pack, engA, engL]); (try simp_all [inR]) <;> omega)
  · skip
    refine rn 5 ?_
    refine AL.nil ?_; simp only [thenQ, inQ]
    refine AWp.ret ?_; (try simp only [inQ, thenQ]); refine rret 0 ?_
    first | exact ⟨rfl, rfl⟩ | (refine ⟨?_, rfl⟩; (try simp only [pack, engA, engL]); (try simp_all [inR]) <;> omega)

theorem c_head_bit (G : Globs) (b : Bool) (v : Int) : ACall Tryz.prog G 92 [boolv b, intv v] [] (fun r L' => r = intv (bit b v) ∧ L' = []) := by
  refine ACall.enter Tryz.func92 rfl Tryz.ntmps92 (by rw [Tryz.results92]) (Nat.le_of_ble_eq_true rfl) rfl ?_
  -- REGION 0
  (repeat refine AWp.seq ?_); refine AWp.region ?_
  refine rn 1 ?_
  refine AL.nil ?_; simp only [thenQ, inQ]
  -- REGION 1
  (repeat refine AWp.seq ?_); refine AWp.region ?_
  refine rn 1 ?_
  refine AL.nil ?_; simp only [thenQ, inQ]
  (repeat refine AWp.seq ?_)
  refine rc (fun hb => ?_) (fun hb => ?_)
  · skip
    -- REGION 2
    (repeat refine AWp.seq ?_); refine AWp.region ?_
    refine rn 2 ?_
    refine AL.nil ?_; simp only [thenQ, inQ]
    refine AWp.ret ?_; (try simp only [inQ, thenQ]); refine rret 0 ?_
    first | exact ⟨rfl, rfl⟩ | (refine ⟨?_, rfl⟩; (try simp only [pack, engA, engL]); (try simp_all [bit]) <;> omega)
  · skip
    (repeat refine AWp.seq ?_)
    refine AWp.skip ?_
    (try simp only [inQ, thenQ])
    -- REGION 3
    (repeat refine AWp.seq ?_); refine AWp.region ?_
    refine rn 1 ?_
    refine AL.nil ?_; simp only [thenQ, inQ]
    refine AWp.ret ?_; (try simp only [inQ, thenQ]); refine rret 0 ?_
    first | exact ⟨rfl, rfl⟩ | (refine ⟨?_, rfl⟩; (try simp only [pack, engA, engL]); (try simp_all [bit]) <;> omega)

theorem c_head_May (G : Globs) (x : Head) : ACall Tryz.prog G 71 [headV x] [] (fun r L' => r = boolv x.may ∧ L' = []) := by
  refine ACall.enter Tryz.func71 rfl Tryz.ntmps71 (by rw [Tryz.results71]) (Nat.le_of_ble_eq_true rfl) rfl ?_
  -- REGION 0
  (repeat refine AWp.seq ?_); refine AWp.region ?_
  refine rn 2 ?_
  refine AL.nil ?_; simp only [thenQ, inQ]
  -- REGION 1
  (repeat refine AWp.seq ?_); refine AWp.region ?_
  refine rn 3 ?_
  refine AL.nil ?_; simp only [thenQ, inQ]
  (repeat refine AWp.seq ?_)
  refine rc (fun hb => ?_) (fun hb => ?_)
  · skip
    -- REGION 2
    (repeat refine AWp.seq ?_); refine AWp.region ?_
    refine rn 2 ?_
    refine req (fun W => eqHead _ _ _ _ _ _ _ _ _ _ _ _ W) ?_; simp only [Av.put, reduceIte, reduceCtorEq]
    refine rn 1 ?_
    refine AL.nil ?_; simp only [thenQ, inQ]
    refine AWp.ret ?_; (try simp only [inQ, thenQ]); refine rret 0 ?_
    refine ⟨?_, rfl⟩; (try simp only [pack, engA, engL]); (try simp_all [Head.may, Head.zero]) <;> (rcases x with ⟨_ | _, _ | _, _ | _, n, b, m⟩ <;> simp_all [Bool.and_assoc])
  · skip
    (repeat refine AWp.seq ?_)
    refine AWp.skip ?_
    (try simp only [inQ, thenQ])
    -- REGION 3
    (repeat refine AWp.seq ?_); refine AWp.region ?_
    refine rn 2 ?_
    refine rcall Tryz.call91 (hC := c_head_in G _ _) (kk := ?_); simp only [Av.put]
    refine rn 1 ?_
    refine rsp 12 (fun hb => ?_) (fun hb => ?_)
    · skip
      refine rn 2 ?_
      refine rcallG Tryz.call91 (hC := c_head_in G _ _) (kk := ?_); simp only [Av.put]
      refine rn 2 ?_
      refine rsp 17 (fun hb => ?_) (fun hb => ?_)
      · skip
        refine rn 2 ?_
        refine rcallG Tryz.call91 (hC := c_head_in G _ _) (kk := ?_); simp only [Av.put]
        refine rn 2 ?_
        refine AL.nil ?_; simp only [thenQ, inQ]
        refine AWp.ret ?_; (try simp only [inQ, thenQ]); refine rret 0 ?_
        refine ⟨?_, rfl⟩; (try simp only [pack, engA, engL]); (try simp_all [Head.may, Head.zero]) <;> (rcases x with ⟨_ | _, _ | _, _ | _, n, b, m⟩ <;> simp_all [Bool.and_assoc])
      · skip
        refine rn 5 ?_
        refine AL.nil ?_; simp only [thenQ, inQ]
        refine AWp.ret ?_; (try simp only [inQ, thenQ]); refine rret 0 ?_
        refine ⟨?_, rfl⟩; (try simp only [pack, engA, engL]); (try simp_all [Head.may, Head.zero]) <;> (rcases x with ⟨_ | _, _ | _, _ | _, n, b, m⟩ <;> simp_all [Bool.and_assoc])
    · skip
      refine rn 10 ?_
      refine AL.nil ?_; simp only [thenQ, inQ]
      refine AWp.ret ?_; (try simp only [inQ, thenQ]); refine rret 0 ?_
      refine ⟨?_, rfl⟩; (try simp only [pack, engA, engL]); (try simp_all [Head.may, Head.zero]) <;> (rcases x with ⟨_ | _, _ | _, _ | _, n, b, m⟩ <;> simp_all [Bool.and_assoc])

theorem c_head_pack (G : Globs) (x : Head) (hx : x.may = true) : ACall Tryz.prog G 72 [headV x] [] (fun r L' => r = intv x.pack ∧ L' = []) := by
  refine ACall.enter Tryz.func72 rfl Tryz.ntmps72 (by rw [Tryz.results72]) (Nat.le_of_ble_eq_true rfl) rfl ?_
  -- REGION 0
  (repeat refine AWp.seq ?_); refine AWp.region ?_
  refine rn 2 ?_
  refine AL.nil ?_; simp only [thenQ, inQ]
  -- DRAWS region 1: 2 head_bit; 5 head_bit; 9 head_bit
  (repeat refine AWp.seq ?_); refine rdraws [.flo 0 0, .flo 0 0, .flo 0 0, .flo 0 0, .flo 0 0, .flo 0 0, .flo 0 0, .flo 0 0, .flo 0 0, .flo 0 0, .flo 0 0, .flo 0 0, .flo 0 0, .flo 0 0, .flo 0 0, .flo 0 0, .flo 0 0, .flo 0 0, .flo 0 0, .flo 0 0, .flo 0 0, .flo 0 0, .flo 0 0, .flo 0 0] 0 [(2, intv (bit x.used 1)), (5, intv (bit x.old 2)), (9, intv (bit x.done 4))] mixed ?_; refine ⟨⟨rck Tryz.call92 (hC := c_head_bit G _ _), rck Tryz.call92 (hC := c_head_bit G _ _), rck Tryz.call92 (hC := c_head_bit G _ _), trivial⟩, ?_⟩; simp only [thenQ, inQ, tS, List.getD_cons_zero, List.getD_cons_succ, if_true]
  refine AWp.ret ?_; (try simp only [inQ, thenQ]); refine rret 0 ?_
  refine ⟨?_, rfl⟩; simp only [pack]; rw [← pack_or x hx]

theorem c_head_Pack (G : Globs) (x : Head) : ACall Tryz.prog G 59 [headV x] [] (fun r L' => r = .tup [intv (if x.may then x.pack else 0), intv (if x.may then 0 else 1)] ∧ L' = []) := by
  refine ACall.enter Tryz.func59 rfl Tryz.ntmps59 (by rw [Tryz.results59]) (Nat.le_of_ble_eq_true rfl) rfl ?_
  -- REGION 0
  (repeat refine AWp.seq ?_); refine AWp.region ?_
  refine rn 3 ?_
  refine AL.nil ?_; simp only [thenQ, inQ]
  -- REGION 1
  (repeat refine AWp.seq ?_); refine AWp.region ?_
  refine rn 1 ?_
  refine rcall Tryz.call71 (hC := c_head_May G _) (kk := ?_); simp only [Av.put]
  refine rn 1 ?_
  refine AL.nil ?_; simp only [thenQ, inQ]
  (repeat refine AWp.seq ?_)
  refine rc (fun hb => ?_) (fun hb => ?_)
  · skip
    -- REGION 2
    (repeat refine AWp.seq ?_); refine AWp.region ?_
    refine rn 2 ?_
    refine AL.nil ?_; simp only [thenQ, inQ]
    refine AWp.ret ?_; (try simp only [inQ, thenQ]); refine rret 0 ?_
    refine ⟨?_, rfl⟩; simp only [pack]; simp_all
  · skip
    (repeat refine AWp.seq ?_)
    refine AWp.skip ?_
    (try simp only [inQ, thenQ])
    -- REGION 3
    (repeat refine AWp.seq ?_); refine AWp.region ?_
    refine rn 1 ?_
    refine rcall Tryz.call72 (hC := c_head_pack G _ (by first | assumption | omega | simp_all)) (kk := ?_); simp only [Av.put]
    refine rn 2 ?_
    refine AL.nil ?_; simp only [thenQ, inQ]
    refine AWp.ret ?_; (try simp only [inQ, thenQ]); refine rret 0 ?_
    refine ⟨?_, rfl⟩; simp only [pack]; simp_all

theorem c_head_Unpack (G : Globs) (w : Int) : ACall Tryz.prog G 64 [intv w] [] (fun r L' => r = .tup [headV (unpack w), boolv (unpackOk w)] ∧ L' = []) := by
  refine ACall.enter Tryz.func64 rfl Tryz.ntmps64 (by rw [Tryz.results64]) (Nat.le_of_ble_eq_true rfl) rfl ?_
  -- REGION 0
  (repeat refine AWp.seq ?_); refine AWp.region ?_
  refine rn 2 ?_
  refine AL.nil ?_; simp only [thenQ, inQ]
  -- REGION 1
  (repeat refine AWp.seq ?_); refine AWp.region ?_
  refine rn 12 ?_
  refine AL.nil ?_; simp only [thenQ, inQ]
  -- REGION 2
  (repeat refine AWp.seq ?_); refine AWp.region ?_
  refine rn 5 ?_
  refine AL.nil ?_; simp only [thenQ, inQ]
  -- REGION 3
  (repeat refine AWp.seq ?_); refine AWp.region ?_
  refine rn 5 ?_
  refine AL.nil ?_; simp only [thenQ, inQ]
  -- REGION 4
  (repeat refine AWp.seq ?_); refine AWp.region ?_
  refine rn 4 ?_
  refine AL.nil ?_; simp only [thenQ, inQ]
  simp only [raw_used, raw_old, raw_done, raw_n, raw_born, raw_mark]
  (repeat refine AWp.seq ?_); refine AWp.region ?_
  refine rn 1 ?_
  refine rcall Tryz.call71 (hC := c_head_May G _) (kk := ?_); simp only [Av.put]
  refine rn 2 ?_
  refine rsp 29 (fun hb => ?_) (fun hb => ?_)
  · skip
    refine rn 5 ?_
    refine AL.nil ?_; simp only [thenQ, inQ]
    (repeat refine AWp.seq ?_)
    refine rc (t := true) (fun hb => ?_) (fun hb => by cases hb)
    -- REGION 6
    (repeat refine AWp.seq ?_); refine AWp.region ?_
    refine rn 3 ?_
    refine AL.nil ?_; simp only [thenQ, inQ]
    refine AWp.ret ?_; (try simp only [inQ, thenQ]); refine rret 0 ?_
    refine ⟨?_, rfl⟩; simp only [pack, engA, engL]; simp_all [unpack, unpackOk, Head.zero]
  · skip
    refine rn 1 ?_
    refine rcallG Tryz.call72 (hC := c_head_pack G _ (by first | assumption | omega | simp_all)) (kk := ?_); simp only [Av.put]
    refine rn 3 ?_
    refine AL.nil ?_; simp only [thenQ, inQ]
    (repeat refine AWp.seq ?_)
    refine rc (fun hb => ?_) (fun hb => ?_)
    · skip
      -- REGION 6
      (repeat refine AWp.seq ?_); refine AWp.region ?_
      refine rn 3 ?_
      refine AL.nil ?_; simp only [thenQ, inQ]
      refine AWp.ret ?_; (try simp only [inQ, thenQ]); refine rret 0 ?_
      refine ⟨?_, rfl⟩; simp only [pack, engA, engL]; simp_all [unpack, unpackOk, Head.zero]
    · skip
      (repeat refine AWp.seq ?_)
      refine AWp.skip ?_
      (try simp only [inQ, thenQ])
      -- REGION 7
      (repeat refine AWp.seq ?_); refine AWp.region ?_
      refine rn 3 ?_
      refine AL.nil ?_; simp only [thenQ, inQ]
      refine AWp.ret ?_; (try simp only [inQ, thenQ]); refine rret 0 ?_
      refine ⟨?_, rfl⟩; simp only [pack, engA, engL]; simp_all [unpack, unpackOk, Head.zero]

end Go.Proofs
end

section
set_option linter.unusedSimpArgs false
set_option maxRecDepth 20000
set_option maxHeartbeats 1000000
namespace Go.Proofs
open Go Av Rp
theorem c_heap_word (G : Globs) (h : Heap) (a : Int) (h1 : 16 ≤ a) (h2 : a - 16 < h.W.length) (h3 : a ≤ 9223372036854775807) : ACall Tryz.prog G 65 [heapV h, intv a] [] (fun r L' => r = intv (h.word a) ∧ L' = []) := by
  refine ACall.enter Tryz.func65 rfl Tryz.ntmps65 (by rw [Tryz.results65]) (Nat.le_of_ble_eq_true rfl) rfl ?_
  -- REGION 0
  (repeat refine AWp.seq ?_); refine AWp.region ?_
  refine rn 2 ?_
  refine AL.nil ?_; simp only [thenQ, inQ]
  have hw : IntKind.i64.wrap (a - 16) = a - 16 := wrap_id _ (by omega) (by omega); have hx : h.W[(a - 16).toNat]? = some (h.word a) := (by simp only [Heap.word, List.getD]; rw [List.getElem?_eq_getElem (by omega)]; rfl); have hc : (0 ≤ a - 16 ∧ a - 16 < (h.W.length : Int)) = True := (by simp; omega)
  (repeat refine AWp.seq ?_); refine AWp.region ?_
  refine rn 7 (k := ?_) (h := by simp (maxSteps := 3000000) only [hw, hc, hx, ints, List.getElem?_map, List.length_map, if_true, Nat.mul_one, Nat.div_one, Nat.mod_one, engA, engL, engT, reduceIte, reduceCtorEq, Nat.reduceLT, Nat.reduceLeDiff, Nat.reduceAdd, Nat.reduceSub, Nat.reduceMul, Nat.reduceEqDiff, Nat.reduceBneDiff, Nat.le_refl, Bool.false_eq_true, Int.reduceLT, Int.reduceLE, Int.reduceAdd, Int.reduceSub, Int.reduceMul, Int.reduceToNat, Int.reduceEq, Int.cast_ofNat_Int, Int.reduceNeg] <;> rfl)
  refine AL.nil ?_; simp only [thenQ, inQ]
  refine AWp.ret ?_; (try simp only [inQ, thenQ]); refine rret 0 ?_
  first | exact ⟨rfl, rfl⟩ | (refine ⟨?_, rfl⟩; simp only [pack])

theorem c_heap_page (G : Globs) (h : Heap) (a : Int) (h1 : 16 ≤ a) (h2 : a / 16 - 1 < h.P.length) (h3 : a ≤ 9223372036854775807) : ACall Tryz.prog G 76 [heapV h, intv a] [] (fun r L' => r = pageV (h.page a) ∧ L' = []) := by
  refine ACall.enter Tryz.func76 rfl Tryz.ntmps76 (by rw [Tryz.results76]) (Nat.le_of_ble_eq_true rfl) rfl ?_
  -- REGION 0
  (repeat refine AWp.seq ?_); refine AWp.region ?_
  refine rn 2 ?_
  refine AL.nil ?_; simp only [thenQ, inQ]
  have hq : IntKind.i64.wrap (a.tdiv 16) = a / 16 := (by rw [Int.tdiv_eq_ediv_of_nonneg (by omega)]; exact wrap_id _ (by omega) (by omega)); have hw : IntKind.i64.wrap (a / 16 - 1) = a / 16 - 1 := wrap_id _ (by omega) (by omega); have hx : h.P[(a / 16 - 1).toNat]? = some (h.page a) := (by simp only [Heap.page, List.getD]; rw [List.getElem?_eq_getElem (by omega)]; rfl); have hc : (0 ≤ a / 16 - 1 ∧ a / 16 - 1 < (h.P.length : Int)) = True := (by simp; omega)
  (repeat refine AWp.seq ?_); refine AWp.region ?_
  refine rn 8 (k := ?_) (h := by simp (maxSteps := 3000000) only [hq, hw, hc, hx, pages, List.getElem?_map, List.length_map, if_true, Nat.mul_div_cancel _ (Nat.zero_lt_two), Nat.mul_mod_left, engA, engL, engT, reduceIte, reduceCtorEq, Nat.reduceLT, Nat.reduceLeDiff, Nat.reduceAdd, Nat.reduceSub, Nat.reduceMul, Nat.reduceEqDiff, Nat.reduceBneDiff, Nat.le_refl, Bool.false_eq_true, Int.reduceLT, Int.reduceLE, Int.reduceAdd, Int.reduceSub, Int.reduceMul, Int.reduceToNat, Int.reduceEq, Int.cast_ofNat_Int, Int.reduceNeg] <;> rfl)
  refine AL.nil ?_; simp only [thenQ, inQ]
  refine AWp.ret ?_; (try simp only [inQ, thenQ]); refine rret 0 ?_
  first | exact ⟨rfl, rfl⟩ | (refine ⟨?_, rfl⟩; simp only [pack])

end Go.Proofs
end

section
set_option linter.unusedSimpArgs false
set_option maxRecDepth 20000
set_option maxHeartbeats 1000000
namespace Go.Proofs
open Go Av Rp
theorem c_cmp_isNaN_int (G : Globs) (n : Int) : ACall Tryz.prog G 132 [intv n] [] (fun r L' => r = boolv false ∧ L' = []) := by
  refine ACall.enter Tryz.func132 rfl Tryz.ntmps132 (by rw [Tryz.results132]) (Nat.le_of_ble_eq_true rfl) rfl ?_
  -- REGION 0
  (repeat refine AWp.seq ?_); refine AWp.region ?_
  refine rn 1 ?_
  refine AL.nil ?_; simp only [thenQ, inQ]
  -- REGION 1
  (repeat refine AWp.seq ?_); refine AWp.region ?_
  refine rn 4 ?_
  refine AL.nil ?_; simp only [thenQ, inQ]
  refine AWp.ret ?_; (try simp only [inQ, thenQ]); refine rret 0 ?_
  refine ⟨?_, rfl⟩; simp only [pack] <;> simp_all

theorem c_slices_isNaN_int (G : Globs) (n : Int) : ACall Tryz.prog G 116 [intv n] [] (fun r L' => r = boolv false ∧ L' = []) := by
  refine ACall.enter Tryz.func116 rfl Tryz.ntmps116 (by rw [Tryz.results116]) (Nat.le_of_ble_eq_true rfl) rfl ?_
  -- REGION 0
  (repeat refine AWp.seq ?_); refine AWp.region ?_
  refine rn 1 ?_
  refine AL.nil ?_; simp only [thenQ, inQ]
  -- REGION 1
  (repeat refine AWp.seq ?_); refine AWp.region ?_
  refine rn 4 ?_
  refine AL.nil ?_; simp only [thenQ, inQ]
  refine AWp.ret ?_; (try simp only [inQ, thenQ]); refine rret 0 ?_
  refine ⟨?_, rfl⟩; simp only [pack] <;> simp_all

theorem c_cmp_Less_int (G : Globs) (n m : Int) : ACall Tryz.prog G 115 [intv n, intv m] [] (fun r L' => r = boolv (decide (n < m)) ∧ L' = []) := by
  refine ACall.enter Tryz.func115 rfl Tryz.ntmps115 (by rw [Tryz.results115]) (Nat.le_of_ble_eq_true rfl) rfl ?_
  -- REGION 0
  (repeat refine AWp.seq ?_); refine AWp.region ?_
  refine rn 1 ?_
  refine AL.nil ?_; simp only [thenQ, inQ]
  -- REGION 1
  (repeat refine AWp.seq ?_); refine AWp.region ?_
  refine rn 1 ?_
  refine rcall Tryz.call132 (hC := c_cmp_isNaN_int G _) (kk := ?_); simp only [Av.put]
  refine rn 1 ?_
  refine rsp 7 (fun hb => ?_) (fun hb => ?_)
  · skip
    refine rn 1 ?_
    refine rcallG Tryz.call132 (hC := c_cmp_isNaN_int G _) (kk := ?_); simp only [Av.put]
    refine rn 3 ?_
    refine rsp 12 (fun hb => ?_) (fun hb => ?_)
    · skip
      refine rn 5 ?_
      refine AL.nil ?_; simp only [thenQ, inQ]
      refine AWp.ret ?_; (try simp only [inQ, thenQ]); refine rret 0 ?_
      refine ⟨?_, rfl⟩; simp only [pack] <;> simp_all
    · skip
      refine rn 5 ?_
      refine AL.nil ?_; simp only [thenQ, inQ]
      refine AWp.ret ?_; (try simp only [inQ, thenQ]); refine rret 0 ?_
      refine ⟨?_, rfl⟩; simp only [pack] <;> simp_all
  · skip
    refine rn 8 ?_
    refine rn 2 ?_
    refine AL.nil ?_; simp only [thenQ, inQ]
    refine AWp.ret ?_; (try simp only [inQ, thenQ]); refine rret 0 ?_
    refine ⟨?_, rfl⟩; simp only [pack] <;> simp_all

theorem c_slices_BinarySearch_int_int (G : Globs) (t : Int) : ACall Tryz.prog G 108 [.im (.sl 1 [[.int 2], [.int 4], [.int 8]]), intv t] [] (fun r L' => r = .tup [intv (if t ≤ 2 then 0 else if t ≤ 4 then 1 else if t ≤ 8 then 2 else 3), boolv (Bool.or (decide (t = 2)) (Bool.or (decide (t = 4)) (decide (t = 8))))] ∧ L' = []) := by
  refine ACall.enter Tryz.func108 rfl Tryz.ntmps108 (by rw [Tryz.results108]) (Nat.le_of_ble_eq_true rfl) rfl ?_
  -- REGION 0
  (repeat refine AWp.seq ?_); refine AWp.region ?_
  refine rn 2 ?_
  refine AL.nil ?_; simp only [thenQ, inQ]
  -- REGION 1
  (repeat refine AWp.seq ?_); refine AWp.region ?_
  refine rn 3 ?_
  refine AL.nil ?_; simp only [thenQ, inQ]
  -- REGION 2
  (repeat refine AWp.seq ?_); refine AWp.region ?_
  refine rn 3 ?_
  refine AL.nil ?_; simp only [thenQ, inQ]
  (repeat refine AWp.seq ?_)
  refine AWp.block ?_
  (repeat refine AWp.seq ?_)
  refine AWp.rounds 3 ?_
  refine Rounds.round ?_
  -- REGION 3
  (repeat refine AWp.seq ?_); refine AWp.region ?_
  refine rn 3 ?_
  refine AL.nil ?_; simp only [thenQ, inQ]
  (repeat refine AWp.seq ?_)
  refine rc (t := true) (fun hb => ?_) (fun hb => by cases hb)
  (repeat refine AWp.seq ?_)
  refine AWp.skip ?_
  (try simp only [inQ, thenQ])
  (repeat refine AWp.seq ?_)
  refine AWp.block ?_
  -- REGION 4
  (repeat refine AWp.seq ?_); refine AWp.region ?_
  refine rn 7 (k := ?_) (h := by simp (maxSteps := 3000000) only [Nat.min_def, IntKind.bits, Int.reducePow, Int.reduceFDiv, wrap_u, engA, engL, engT, reduceIte, reduceCtorEq, Nat.reduceLT, Nat.reduceLeDiff, Nat.reduceAdd, Nat.reduceSub, Nat.reduceMul, Nat.reduceEqDiff, Nat.reduceBneDiff, Nat.le_refl, Bool.false_eq_true, Int.reduceLT, Int.reduceLE, Int.reduceAdd, Int.reduceSub, Int.reduceMul, Int.reduceToNat, Int.reduceEq, Int.cast_ofNat_Int, Int.reduceNeg] <;> rfl)
  refine AL.nil ?_; simp only [thenQ, inQ]
  -- REGION 5
  (repeat refine AWp.seq ?_); refine AWp.region ?_
  refine rn 5 (k := ?_) (h := by simp (maxSteps := 3000000) only [Nat.reduceDiv, Nat.reduceMod, engA, engL, engT, reduceIte, reduceCtorEq, Nat.reduceLT, Nat.reduceLeDiff, Nat.reduceAdd, Nat.reduceSub, Nat.reduceMul, Nat.reduceEqDiff, Nat.reduceBneDiff, Nat.le_refl, Bool.false_eq_true, Int.reduceLT, Int.reduceLE, Int.reduceAdd, Int.reduceSub, Int.reduceMul, Int.reduceToNat, Int.reduceEq, Int.cast_ofNat_Int, Int.reduceNeg] <;> rfl)
  refine rcall Tryz.call115 (hC := c_cmp_Less_int G _ _) (kk := ?_); simp only [Av.put]
  refine AL.nil ?_; simp only [thenQ, inQ]
  (repeat refine AWp.seq ?_)
  refine rc (fun hb => ?_) (fun hb => ?_)
  · first
    | exact absurd hb (by decide)
    | (
      skip
      -- REGION 6
      (repeat refine AWp.seq ?_); refine AWp.region ?_
      refine rn 3 ?_
      refine AL.nil ?_; simp only [thenQ, inQ]
      (try simp only [inQ, thenQ])
      refine Rounds.round ?_
      -- REGION 3
      (repeat refine AWp.seq ?_); refine AWp.region ?_
      refine rn 3 ?_
      refine AL.nil ?_; simp only [thenQ, inQ]
      (repeat refine AWp.seq ?_)
      refine rc (t := true) (fun hb => ?_) (fun hb => by cases hb)
      (repeat refine AWp.seq ?_)
      refine AWp.skip ?_
      (try simp only [inQ, thenQ])
      (repeat refine AWp.seq ?_)
      refine AWp.block ?_
      -- REGION 4
      (repeat refine AWp.seq ?_); refine AWp.region ?_
      refine rn 7 (k := ?_) (h := by simp (maxSteps := 3000000) only [Nat.min_def, IntKind.bits, Int.reducePow, Int.reduceFDiv, wrap_u, engA, engL, engT, reduceIte, reduceCtorEq, Nat.reduceLT, Nat.reduceLeDiff, Nat.reduceAdd, Nat.reduceSub, Nat.reduceMul, Nat.reduceEqDiff, Nat.reduceBneDiff, Nat.le_refl, Bool.false_eq_true, Int.reduceLT, Int.reduceLE, Int.reduceAdd, Int.reduceSub, Int.reduceMul, Int.reduceToNat, Int.reduceEq, Int.cast_ofNat_Int, Int.reduceNeg] <;> rfl)
      refine AL.nil ?_; simp only [thenQ, inQ]
      -- REGION 5
      (repeat refine AWp.seq ?_); refine AWp.region ?_
      refine rn 5 (k := ?_) (h := by simp (maxSteps := 3000000) only [Nat.reduceDiv, Nat.reduceMod, engA, engL, engT, reduceIte, reduceCtorEq, Nat.reduceLT, Nat.reduceLeDiff, Nat.reduceAdd, Nat.reduceSub, Nat.reduceMul, Nat.reduceEqDiff, Nat.reduceBneDiff, Nat.le_refl, Bool.false_eq_true, Int.reduceLT, Int.reduceLE, Int.reduceAdd, Int.reduceSub, Int.reduceMul, Int.reduceToNat, Int.reduceEq, Int.cast_ofNat_Int, Int.reduceNeg] <;> rfl)
      refine rcall Tryz.call115 (hC := c_cmp_Less_int G _ _) (kk := ?_); simp only [Av.put]
      refine AL.nil ?_; simp only [thenQ, inQ]
      (repeat refine AWp.seq ?_)
      refine rc (fun hb => ?_) (fun hb => ?_)
      · first
        | exact absurd hb (by decide)
        | (
          skip
          -- REGION 6
          (repeat refine AWp.seq ?_); refine AWp.region ?_
          refine rn 3 ?_
          refine AL.nil ?_; simp only [thenQ, inQ]
          (try simp only [inQ, thenQ])
          refine Rounds.round ?_
          -- REGION 3
          (repeat refine AWp.seq ?_); refine AWp.region ?_
          refine rn 3 ?_
          refine AL.nil ?_; simp only [thenQ, inQ]
          (repeat refine AWp.seq ?_)
          refine rc (t := false) (fun hb => by cases hb) (fun hb => ?_)
          refine AWp.exit ?_
          simp only [inQ, thenQ, reduceIte, Nat.reduceEqDiff]
          -- REGION 8
          (repeat refine AWp.seq ?_); refine AWp.region ?_
          refine rn 5 (k := ?_) (h := by simp (maxSteps := 3000000) only [Nat.reduceDiv, Nat.reduceMod, engA, engL, engT, reduceIte, reduceCtorEq, Nat.reduceLT, Nat.reduceLeDiff, Nat.reduceAdd, Nat.reduceSub, Nat.reduceMul, Nat.reduceEqDiff, Nat.reduceBneDiff, Nat.le_refl, Bool.false_eq_true, Int.reduceLT, Int.reduceLE, Int.reduceAdd, Int.reduceSub, Int.reduceMul, Int.reduceToNat, Int.reduceEq, Int.cast_ofNat_Int, Int.reduceNeg] <;> rfl)
          refine rsp 35 (fun hb => ?_) (fun hb => ?_)
          · first
            | exact absurd hb (by decide)
            | (
              skip
              refine rn 7 (k := ?_) (h := by simp (maxSteps := 3000000) only [Nat.reduceDiv, Nat.reduceMod, engA, engL, engT, reduceIte, reduceCtorEq, Nat.reduceLT, Nat.reduceLeDiff, Nat.reduceAdd, Nat.reduceSub, Nat.reduceMul, Nat.reduceEqDiff, Nat.reduceBneDiff, Nat.le_refl, Bool.false_eq_true, Int.reduceLT, Int.reduceLE, Int.reduceAdd, Int.reduceSub, Int.reduceMul, Int.reduceToNat, Int.reduceEq, Int.cast_ofNat_Int, Int.reduceNeg] <;> rfl)
              refine rsp 42 (fun hb => ?_) (fun hb => ?_)
              · first
                | exact absurd hb (by decide)
                | (
                  skip
                  refine rn 10 (k := ?_) (h := by simp (maxSteps := 3000000) only [Nat.reduceDiv, Nat.reduceMod, engA, engL, engT, reduceIte, reduceCtorEq, Nat.reduceLT, Nat.reduceLeDiff, Nat.reduceAdd, Nat.reduceSub, Nat.reduceMul, Nat.reduceEqDiff, Nat.reduceBneDiff, Nat.le_refl, Bool.false_eq_true, Int.reduceLT, Int.reduceLE, Int.reduceAdd, Int.reduceSub, Int.reduceMul, Int.reduceToNat, Int.reduceEq, Int.cast_ofNat_Int, Int.reduceNeg] <;> rfl)
                  refine rn 3 (k := ?_) (h := by simp (maxSteps := 3000000) only [Nat.reduceDiv, Nat.reduceMod, engA, engL, engT, reduceIte, reduceCtorEq, Nat.reduceLT, Nat.reduceLeDiff, Nat.reduceAdd, Nat.reduceSub, Nat.reduceMul, Nat.reduceEqDiff, Nat.reduceBneDiff, Nat.le_refl, Bool.false_eq_true, Int.reduceLT, Int.reduceLE, Int.reduceAdd, Int.reduceSub, Int.reduceMul, Int.reduceToNat, Int.reduceEq, Int.cast_ofNat_Int, Int.reduceNeg] <;> rfl)
                  refine AL.nil ?_; simp only [thenQ, inQ]
                  refine AWp.ret ?_; (try simp only [inQ, thenQ]); refine rret 0 ?_
                  refine ⟨?_, rfl⟩; simp only [pack]; simp_all <;> omega)
              · first
                | exact absurd hb (by decide)
                | (
                  skip
                  refine rn 4 (k := ?_) (h := by simp (maxSteps := 3000000) only [Nat.reduceDiv, Nat.reduceMod, engA, engL, engT, reduceIte, reduceCtorEq, Nat.reduceLT, Nat.reduceLeDiff, Nat.reduceAdd, Nat.reduceSub, Nat.reduceMul, Nat.reduceEqDiff, Nat.reduceBneDiff, Nat.le_refl, Bool.false_eq_true, Int.reduceLT, Int.reduceLE, Int.reduceAdd, Int.reduceSub, Int.reduceMul, Int.reduceToNat, Int.reduceEq, Int.cast_ofNat_Int, Int.reduceNeg] <;> rfl)
                  refine rcallG Tryz.call116 (hC := c_slices_isNaN_int G _) (kk := ?_); simp only [Av.put]
                  refine rn 1 (k := ?_) (h := by simp (maxSteps := 3000000) only [Nat.reduceDiv, Nat.reduceMod, engA, engL, engT, reduceIte, reduceCtorEq, Nat.reduceLT, Nat.reduceLeDiff, Nat.reduceAdd, Nat.reduceSub, Nat.reduceMul, Nat.reduceEqDiff, Nat.reduceBneDiff, Nat.le_refl, Bool.false_eq_true, Int.reduceLT, Int.reduceLE, Int.reduceAdd, Int.reduceSub, Int.reduceMul, Int.reduceToNat, Int.reduceEq, Int.cast_ofNat_Int, Int.reduceNeg] <;> rfl)
                  refine rsp 48 (fun hb => ?_) (fun hb => ?_)
                  · first
                    | exact absurd hb (by decide)
                    | (
                      skip
                      refine rn 1 (k := ?_) (h := by simp (maxSteps := 3000000) only [Nat.reduceDiv, Nat.reduceMod, engA, engL, engT, reduceIte, reduceCtorEq, Nat.reduceLT, Nat.reduceLeDiff, Nat.reduceAdd, Nat.reduceSub, Nat.reduceMul, Nat.reduceEqDiff, Nat.reduceBneDiff, Nat.le_refl, Bool.false_eq_true, Int.reduceLT, Int.reduceLE, Int.reduceAdd, Int.reduceSub, Int.reduceMul, Int.reduceToNat, Int.reduceEq, Int.cast_ofNat_Int, Int.reduceNeg] <;> rfl)
                      refine rcallG Tryz.call116 (hC := c_slices_isNaN_int G _) (kk := ?_); simp only [Av.put]
                      refine rn 5 (k := ?_) (h := by simp (maxSteps := 3000000) only [Nat.reduceDiv, Nat.reduceMod, engA, engL, engT, reduceIte, reduceCtorEq, Nat.reduceLT, Nat.reduceLeDiff, Nat.reduceAdd, Nat.reduceSub, Nat.reduceMul, Nat.reduceEqDiff, Nat.reduceBneDiff, Nat.le_refl, Bool.false_eq_true, Int.reduceLT, Int.reduceLE, Int.reduceAdd, Int.reduceSub, Int.reduceMul, Int.reduceToNat, Int.reduceEq, Int.cast_ofNat_Int, Int.reduceNeg] <;> rfl)
                      refine AL.nil ?_; simp only [thenQ, inQ]
                      refine AWp.ret ?_; (try simp only [inQ, thenQ]); refine rret 0 ?_
                      refine ⟨?_, rfl⟩; simp only [pack]; simp_all <;> omega)
                  · first
                    | exact absurd hb (by decide)
                    | (
                      skip
                      refine rn 7 (k := ?_) (h := by simp (maxSteps := 3000000) only [Nat.reduceDiv, Nat.reduceMod, engA, engL, engT, reduceIte, reduceCtorEq, Nat.reduceLT, Nat.reduceLeDiff, Nat.reduceAdd, Nat.reduceSub, Nat.reduceMul, Nat.reduceEqDiff, Nat.reduceBneDiff, Nat.le_refl, Bool.false_eq_true, Int.reduceLT, Int.reduceLE, Int.reduceAdd, Int.reduceSub, Int.reduceMul, Int.reduceToNat, Int.reduceEq, Int.cast_ofNat_Int, Int.reduceNeg] <;> rfl)
                      refine AL.nil ?_; simp only [thenQ, inQ]
                      refine AWp.ret ?_; (try simp only [inQ, thenQ]); refine rret 0 ?_
                      refine ⟨?_, rfl⟩; simp only [pack]; simp_all <;> omega)))
          · first
            | exact absurd hb (by decide)
            | (
              skip
              refine rn 18 (k := ?_) (h := by simp (maxSteps := 3000000) only [Nat.reduceDiv, Nat.reduceMod, engA, engL, engT, reduceIte, reduceCtorEq, Nat.reduceLT, Nat.reduceLeDiff, Nat.reduceAdd, Nat.reduceSub, Nat.reduceMul, Nat.reduceEqDiff, Nat.reduceBneDiff, Nat.le_refl, Bool.false_eq_true, Int.reduceLT, Int.reduceLE, Int.reduceAdd, Int.reduceSub, Int.reduceMul, Int.reduceToNat, Int.reduceEq, Int.cast_ofNat_Int, Int.reduceNeg] <;> rfl)
              refine rn 2 (k := ?_) (h := by simp (maxSteps := 3000000) only [Nat.reduceDiv, Nat.reduceMod, engA, engL, engT, reduceIte, reduceCtorEq, Nat.reduceLT, Nat.reduceLeDiff, Nat.reduceAdd, Nat.reduceSub, Nat.reduceMul, Nat.reduceEqDiff, Nat.reduceBneDiff, Nat.le_refl, Bool.false_eq_true, Int.reduceLT, Int.reduceLE, Int.reduceAdd, Int.reduceSub, Int.reduceMul, Int.reduceToNat, Int.reduceEq, Int.cast_ofNat_Int, Int.reduceNeg] <;> rfl)
              refine AL.nil ?_; simp only [thenQ, inQ]
              refine AWp.ret ?_; (try simp only [inQ, thenQ]); refine rret 0 ?_
              refine ⟨?_, rfl⟩; simp only [pack]; simp_all <;> omega))
      · first
        | exact absurd hb (by decide)
        | (
          skip
          -- REGION 7
          (repeat refine AWp.seq ?_); refine AWp.region ?_
          refine rn 2 ?_
          refine AL.nil ?_; simp only [thenQ, inQ]
          (try simp only [inQ, thenQ])
          refine Rounds.round ?_
          -- REGION 3
          (repeat refine AWp.seq ?_); refine AWp.region ?_
          refine rn 3 ?_
          refine AL.nil ?_; simp only [thenQ, inQ]
          (repeat refine AWp.seq ?_)
          refine rc (t := false) (fun hb => by cases hb) (fun hb => ?_)
          refine AWp.exit ?_
          simp only [inQ, thenQ, reduceIte, Nat.reduceEqDiff]
          -- REGION 8
          (repeat refine AWp.seq ?_); refine AWp.region ?_
          refine rn 5 (k := ?_) (h := by simp (maxSteps := 3000000) only [Nat.reduceDiv, Nat.reduceMod, engA, engL, engT, reduceIte, reduceCtorEq, Nat.reduceLT, Nat.reduceLeDiff, Nat.reduceAdd, Nat.reduceSub, Nat.reduceMul, Nat.reduceEqDiff, Nat.reduceBneDiff, Nat.le_refl, Bool.false_eq_true, Int.reduceLT, Int.reduceLE, Int.reduceAdd, Int.reduceSub, Int.reduceMul, Int.reduceToNat, Int.reduceEq, Int.cast_ofNat_Int, Int.reduceNeg] <;> rfl)
          refine rsp 35 (fun hb => ?_) (fun hb => ?_)
          · first
            | exact absurd hb (by decide)
            | (
              skip
              refine rn 7 (k := ?_) (h := by simp (maxSteps := 3000000) only [Nat.reduceDiv, Nat.reduceMod, engA, engL, engT, reduceIte, reduceCtorEq, Nat.reduceLT, Nat.reduceLeDiff, Nat.reduceAdd, Nat.reduceSub, Nat.reduceMul, Nat.reduceEqDiff, Nat.reduceBneDiff, Nat.le_refl, Bool.false_eq_true, Int.reduceLT, Int.reduceLE, Int.reduceAdd, Int.reduceSub, Int.reduceMul, Int.reduceToNat, Int.reduceEq, Int.cast_ofNat_Int, Int.reduceNeg] <;> rfl)
              refine rsp 42 (fun hb => ?_) (fun hb => ?_)
              · first
                | exact absurd hb (by decide)
                | (
                  skip
                  refine rn 10 (k := ?_) (h := by simp (maxSteps := 3000000) only [Nat.reduceDiv, Nat.reduceMod, engA, engL, engT, reduceIte, reduceCtorEq, Nat.reduceLT, Nat.reduceLeDiff, Nat.reduceAdd, Nat.reduceSub, Nat.reduceMul, Nat.reduceEqDiff, Nat.reduceBneDiff, Nat.le_refl, Bool.false_eq_true, Int.reduceLT, Int.reduceLE, Int.reduceAdd, Int.reduceSub, Int.reduceMul, Int.reduceToNat, Int.reduceEq, Int.cast_ofNat_Int, Int.reduceNeg] <;> rfl)
                  refine rn 3 (k := ?_) (h := by simp (maxSteps := 3000000) only [Nat.reduceDiv, Nat.reduceMod, engA, engL, engT, reduceIte, reduceCtorEq, Nat.reduceLT, Nat.reduceLeDiff, Nat.reduceAdd, Nat.reduceSub, Nat.reduceMul, Nat.reduceEqDiff, Nat.reduceBneDiff, Nat.le_refl, Bool.false_eq_true, Int.reduceLT, Int.reduceLE, Int.reduceAdd, Int.reduceSub, Int.reduceMul, Int.reduceToNat, Int.reduceEq, Int.cast_ofNat_Int, Int.reduceNeg] <;> rfl)
                  refine AL.nil ?_; simp only [thenQ, inQ]
                  refine AWp.ret ?_; (try simp only [inQ, thenQ]); refine rret 0 ?_
                  refine ⟨?_, rfl⟩; simp only [pack]; simp_all <;> omega)
              · first
                | exact absurd hb (by decide)
                | (
                  skip
                  refine rn 4 (k := ?_) (h := by simp (maxSteps := 3000000) only [Nat.reduceDiv, Nat.reduceMod, engA, engL, engT, reduceIte, reduceCtorEq, Nat.reduceLT, Nat.reduceLeDiff, Nat.reduceAdd, Nat.reduceSub, Nat.reduceMul, Nat.reduceEqDiff, Nat.reduceBneDiff, Nat.le_refl, Bool.false_eq_true, Int.reduceLT, Int.reduceLE, Int.reduceAdd, Int.reduceSub, Int.reduceMul, Int.reduceToNat, Int.reduceEq, Int.cast_ofNat_Int, Int.reduceNeg] <;> rfl)
                  refine rcallG Tryz.call116 (hC := c_slices_isNaN_int G _) (kk := ?_); simp only [Av.put]
                  refine rn 1 (k := ?_) (h := by simp (maxSteps := 3000000) only [Nat.reduceDiv, Nat.reduceMod, engA, engL, engT, reduceIte, reduceCtorEq, Nat.reduceLT, Nat.reduceLeDiff, Nat.reduceAdd, Nat.reduceSub, Nat.reduceMul, Nat.reduceEqDiff, Nat.reduceBneDiff, Nat.le_refl, Bool.false_eq_true, Int.reduceLT, Int.reduceLE, Int.reduceAdd, Int.reduceSub, Int.reduceMul, Int.reduceToNat, Int.reduceEq, Int.cast_ofNat_Int, Int.reduceNeg] <;> rfl)
                  refine rsp 48 (fun hb => ?_) (fun hb => ?_)
                  · first
                    | exact absurd hb (by decide)
                    | (
                      skip
                      refine rn 1 (k := ?_) (h := by simp (maxSteps := 3000000) only [Nat.reduceDiv, Nat.reduceMod, engA, engL, engT, reduceIte, reduceCtorEq, Nat.reduceLT, Nat.reduceLeDiff, Nat.reduceAdd, Nat.reduceSub, Nat.reduceMul, Nat.reduceEqDiff, Nat.reduceBneDiff, Nat.le_refl, Bool.false_eq_true, Int.reduceLT, Int.reduceLE, Int.reduceAdd, Int.reduceSub, Int.reduceMul, Int.reduceToNat, Int.reduceEq, Int.cast_ofNat_Int, Int.reduceNeg] <;> rfl)
                      refine rcallG Tryz.call116 (hC := c_slices_isNaN_int G _) (kk := ?_); simp only [Av.put]
                      refine rn 5 (k := ?_) (h := by simp (maxSteps := 3000000) only [Nat.reduceDiv, Nat.reduceMod, engA, engL, engT, reduceIte, reduceCtorEq, Nat.reduceLT, Nat.reduceLeDiff, Nat.reduceAdd, Nat.reduceSub, Nat.reduceMul, Nat.reduceEqDiff, Nat.reduceBneDiff, Nat.le_refl, Bool.false_eq_true, Int.reduceLT, Int.reduceLE, Int.reduceAdd, Int.reduceSub, Int.reduceMul, Int.reduceToNat, Int.reduceEq, Int.cast_ofNat_Int, Int.reduceNeg] <;> rfl)
                      refine AL.nil ?_; simp only [thenQ, inQ]
                      refine AWp.ret ?_; (try simp only [inQ, thenQ]); refine rret 0 ?_
                      refine ⟨?_, rfl⟩; simp only [pack]; simp_all <;> omega)
                  · first
                    | exact absurd hb (by decide)
                    | (
                      skip
                      refine rn 7 (k := ?_) (h := by simp (maxSteps := 3000000) only [Nat.reduceDiv, Nat.reduceMod, engA, engL, engT, reduceIte, reduceCtorEq, Nat.reduceLT, Nat.reduceLeDiff, Nat.reduceAdd, Nat.reduceSub, Nat.reduceMul, Nat.reduceEqDiff, Nat.reduceBneDiff, Nat.le_refl, Bool.false_eq_true, Int.reduceLT, Int.reduceLE, Int.reduceAdd, Int.reduceSub, Int.reduceMul, Int.reduceToNat, Int.reduceEq, Int.cast_ofNat_Int, Int.reduceNeg] <;> rfl)
                      refine AL.nil ?_; simp only [thenQ, inQ]
                      refine AWp.ret ?_; (try simp only [inQ, thenQ]); refine rret 0 ?_
                      refine ⟨?_, rfl⟩; simp only [pack]; simp_all <;> omega)))
          · first
            | exact absurd hb (by decide)
            | (
              skip
              refine rn 18 (k := ?_) (h := by simp (maxSteps := 3000000) only [Nat.reduceDiv, Nat.reduceMod, engA, engL, engT, reduceIte, reduceCtorEq, Nat.reduceLT, Nat.reduceLeDiff, Nat.reduceAdd, Nat.reduceSub, Nat.reduceMul, Nat.reduceEqDiff, Nat.reduceBneDiff, Nat.le_refl, Bool.false_eq_true, Int.reduceLT, Int.reduceLE, Int.reduceAdd, Int.reduceSub, Int.reduceMul, Int.reduceToNat, Int.reduceEq, Int.cast_ofNat_Int, Int.reduceNeg] <;> rfl)
              refine rn 2 (k := ?_) (h := by simp (maxSteps := 3000000) only [Nat.reduceDiv, Nat.reduceMod, engA, engL, engT, reduceIte, reduceCtorEq, Nat.reduceLT, Nat.reduceLeDiff, Nat.reduceAdd, Nat.reduceSub, Nat.reduceMul, Nat.reduceEqDiff, Nat.reduceBneDiff, Nat.le_refl, Bool.false_eq_true, Int.reduceLT, Int.reduceLE, Int.reduceAdd, Int.reduceSub, Int.reduceMul, Int.reduceToNat, Int.reduceEq, Int.cast_ofNat_Int, Int.reduceNeg] <;> rfl)
              refine AL.nil ?_; simp only [thenQ, inQ]
              refine AWp.ret ?_; (try simp only [inQ, thenQ]); refine rret 0 ?_
              refine ⟨?_, rfl⟩; simp only [pack]; simp_all <;> omega)))
  · first
    | exact absurd hb (by decide)
    | (
      skip
      -- REGION 7
      (repeat refine AWp.seq ?_); refine AWp.region ?_
      refine rn 2 ?_
      refine AL.nil ?_; simp only [thenQ, inQ]
      (try simp only [inQ, thenQ])
      refine Rounds.round ?_
      -- REGION 3
      (repeat refine AWp.seq ?_); refine AWp.region ?_
      refine rn 3 ?_
      refine AL.nil ?_; simp only [thenQ, inQ]
      (repeat refine AWp.seq ?_)
      refine rc (t := true) (fun hb => ?_) (fun hb => by cases hb)
      (repeat refine AWp.seq ?_)
      refine AWp.skip ?_
      (try simp only [inQ, thenQ])
      (repeat refine AWp.seq ?_)
      refine AWp.block ?_
      -- REGION 4
      (repeat refine AWp.seq ?_); refine AWp.region ?_
      refine rn 7 (k := ?_) (h := by simp (maxSteps := 3000000) only [Nat.min_def, IntKind.bits, Int.reducePow, Int.reduceFDiv, wrap_u, engA, engL, engT, reduceIte, reduceCtorEq, Nat.reduceLT, Nat.reduceLeDiff, Nat.reduceAdd, Nat.reduceSub, Nat.reduceMul, Nat.reduceEqDiff, Nat.reduceBneDiff, Nat.le_refl, Bool.false_eq_true, Int.reduceLT, Int.reduceLE, Int.reduceAdd, Int.reduceSub, Int.reduceMul, Int.reduceToNat, Int.reduceEq, Int.cast_ofNat_Int, Int.reduceNeg] <;> rfl)
      refine AL.nil ?_; simp only [thenQ, inQ]
      -- REGION 5
      (repeat refine AWp.seq ?_); refine AWp.region ?_
      refine rn 5 (k := ?_) (h := by simp (maxSteps := 3000000) only [Nat.reduceDiv, Nat.reduceMod, engA, engL, engT, reduceIte, reduceCtorEq, Nat.reduceLT, Nat.reduceLeDiff, Nat.reduceAdd, Nat.reduceSub, Nat.reduceMul, Nat.reduceEqDiff, Nat.reduceBneDiff, Nat.le_refl, Bool.false_eq_true, Int.reduceLT, Int.reduceLE, Int.reduceAdd, Int.reduceSub, Int.reduceMul, Int.reduceToNat, Int.reduceEq, Int.cast_ofNat_Int, Int.reduceNeg] <;> rfl)
      refine rcall Tryz.call115 (hC := c_cmp_Less_int G _ _) (kk := ?_); simp only [Av.put]
      refine AL.nil ?_; simp only [thenQ, inQ]
      (repeat refine AWp.seq ?_)
      refine rc (fun hb => ?_) (fun hb => ?_)
      · first
        | exact absurd hb (by decide)
        | (
          skip
          -- REGION 6
          (repeat refine AWp.seq ?_); refine AWp.region ?_
          refine rn 3 ?_
          refine AL.nil ?_; simp only [thenQ, inQ]
          (try simp only [inQ, thenQ])
          refine Rounds.round ?_
          -- REGION 3
          (repeat refine AWp.seq ?_); refine AWp.region ?_
          refine rn 3 ?_
          refine AL.nil ?_; simp only [thenQ, inQ]
          (repeat refine AWp.seq ?_)
          refine rc (t := false) (fun hb => by cases hb) (fun hb => ?_)
          refine AWp.exit ?_
          simp only [inQ, thenQ, reduceIte, Nat.reduceEqDiff]
          -- REGION 8
          (repeat refine AWp.seq ?_); refine AWp.region ?_
          refine rn 5 (k := ?_) (h := by simp (maxSteps := 3000000) only [Nat.reduceDiv, Nat.reduceMod, engA, engL, engT, reduceIte, reduceCtorEq, Nat.reduceLT, Nat.reduceLeDiff, Nat.reduceAdd, Nat.reduceSub, Nat.reduceMul, Nat.reduceEqDiff, Nat.reduceBneDiff, Nat.le_refl, Bool.false_eq_true, Int.reduceLT, Int.reduceLE, Int.reduceAdd, Int.reduceSub, Int.reduceMul, Int.reduceToNat, Int.reduceEq, Int.cast_ofNat_Int, Int.reduceNeg] <;> rfl)
          refine rsp 35 (fun hb => ?_) (fun hb => ?_)
          · first
            | exact absurd hb (by decide)
            | (
              skip
              refine rn 7 (k := ?_) (h := by simp (maxSteps := 3000000) only [Nat.reduceDiv, Nat.reduceMod, engA, engL, engT, reduceIte, reduceCtorEq, Nat.reduceLT, Nat.reduceLeDiff, Nat.reduceAdd, Nat.reduceSub, Nat.reduceMul, Nat.reduceEqDiff, Nat.reduceBneDiff, Nat.le_refl, Bool.false_eq_true, Int.reduceLT, Int.reduceLE, Int.reduceAdd, Int.reduceSub, Int.reduceMul, Int.reduceToNat, Int.reduceEq, Int.cast_ofNat_Int, Int.reduceNeg] <;> rfl)
              refine rsp 42 (fun hb => ?_) (fun hb => ?_)
              · first
                | exact absurd hb (by decide)
                | (
                  skip
                  refine rn 10 (k := ?_) (h := by simp (maxSteps := 3000000) only [Nat.reduceDiv, Nat.reduceMod, engA, engL, engT, reduceIte, reduceCtorEq, Nat.reduceLT, Nat.reduceLeDiff, Nat.reduceAdd, Nat.reduceSub, Nat.reduceMul, Nat.reduceEqDiff, Nat.reduceBneDiff, Nat.le_refl, Bool.false_eq_true, Int.reduceLT, Int.reduceLE, Int.reduceAdd, Int.reduceSub, Int.reduceMul, Int.reduceToNat, Int.reduceEq, Int.cast_ofNat_Int, Int.reduceNeg] <;> rfl)
                  refine rn 3 (k := ?_) (h := by simp (maxSteps := 3000000) only [Nat.reduceDiv, Nat.reduceMod, engA, engL, engT, reduceIte, reduceCtorEq, Nat.reduceLT, Nat.reduceLeDiff, Nat.reduceAdd, Nat.reduceSub, Nat.reduceMul, Nat.reduceEqDiff, Nat.reduceBneDiff, Nat.le_refl, Bool.false_eq_true, Int.reduceLT, Int.reduceLE, Int.reduceAdd, Int.reduceSub, Int.reduceMul, Int.reduceToNat, Int.reduceEq, Int.cast_ofNat_Int, Int.reduceNeg] <;> rfl)
                  refine AL.nil ?_; simp only [thenQ, inQ]
                  refine AWp.ret ?_; (try simp only [inQ, thenQ]); refine rret 0 ?_
                  refine ⟨?_, rfl⟩; simp only [pack]; simp_all <;> omega)
              · first
                | exact absurd hb (by decide)
                | (
                  skip
                  refine rn 4 (k := ?_) (h := by simp (maxSteps := 3000000) only [Nat.reduceDiv, Nat.reduceMod, engA, engL, engT, reduceIte, reduceCtorEq, Nat.reduceLT, Nat.reduceLeDiff, Nat.reduceAdd, Nat.reduceSub, Nat.reduceMul, Nat.reduceEqDiff, Nat.reduceBneDiff, Nat.le_refl, Bool.false_eq_true, Int.reduceLT, Int.reduceLE, Int.reduceAdd, Int.reduceSub, Int.reduceMul, Int.reduceToNat, Int.reduceEq, Int.cast_ofNat_Int, Int.reduceNeg] <;> rfl)
                  refine rcallG Tryz.call116 (hC := c_slices_isNaN_int G _) (kk := ?_); simp only [Av.put]
                  refine rn 1 (k := ?_) (h := by simp (maxSteps := 3000000) only [Nat.reduceDiv, Nat.reduceMod, engA, engL, engT, reduceIte, reduceCtorEq, Nat.reduceLT, Nat.reduceLeDiff, Nat.reduceAdd, Nat.reduceSub, Nat.reduceMul, Nat.reduceEqDiff, Nat.reduceBneDiff, Nat.le_refl, Bool.false_eq_true, Int.reduceLT, Int.reduceLE, Int.reduceAdd, Int.reduceSub, Int.reduceMul, Int.reduceToNat, Int.reduceEq, Int.cast_ofNat_Int, Int.reduceNeg] <;> rfl)
                  refine rsp 48 (fun hb => ?_) (fun hb => ?_)
                  · first
                    | exact absurd hb (by decide)
                    | (
                      skip
                      refine rn 1 (k := ?_) (h := by simp (maxSteps := 3000000) only [Nat.reduceDiv, Nat.reduceMod, engA, engL, engT, reduceIte, reduceCtorEq, Nat.reduceLT, Nat.reduceLeDiff, Nat.reduceAdd, Nat.reduceSub, Nat.reduceMul, Nat.reduceEqDiff, Nat.reduceBneDiff, Nat.le_refl, Bool.false_eq_true, Int.reduceLT, Int.reduceLE, Int.reduceAdd, Int.reduceSub, Int.reduceMul, Int.reduceToNat, Int.reduceEq, Int.cast_ofNat_Int, Int.reduceNeg] <;> rfl)
                      refine rcallG Tryz.call116 (hC := c_slices_isNaN_int G _) (kk := ?_); simp only [Av.put]
                      refine rn 5 (k := ?_) (h := by simp (maxSteps := 3000000) only [Nat.reduceDiv, Nat.reduceMod, engA, engL, engT, reduceIte, reduceCtorEq, Nat.reduceLT, Nat.reduceLeDiff, Nat.reduceAdd, Nat.reduceSub, Nat.reduceMul, Nat.reduceEqDiff, Nat.reduceBneDiff, Nat.le_refl, Bool.false_eq_true, Int.reduceLT, Int.reduceLE, Int.reduceAdd, Int.reduceSub, Int.reduceMul, Int.reduceToNat, Int.reduceEq, Int.cast_ofNat_Int, Int.reduceNeg] <;> rfl)
                      refine AL.nil ?_; simp only [thenQ, inQ]
                      refine AWp.ret ?_; (try simp only [inQ, thenQ]); refine rret 0 ?_
                      refine ⟨?_, rfl⟩; simp only [pack]; simp_all <;> omega)
                  · first
                    | exact absurd hb (by decide)
                    | (
                      skip
                      refine rn 7 (k := ?_) (h := by simp (maxSteps := 3000000) only [Nat.reduceDiv, Nat.reduceMod, engA, engL, engT, reduceIte, reduceCtorEq, Nat.reduceLT, Nat.reduceLeDiff, Nat.reduceAdd, Nat.reduceSub, Nat.reduceMul, Nat.reduceEqDiff, Nat.reduceBneDiff, Nat.le_refl, Bool.false_eq_true, Int.reduceLT, Int.reduceLE, Int.reduceAdd, Int.reduceSub, Int.reduceMul, Int.reduceToNat, Int.reduceEq, Int.cast_ofNat_Int, Int.reduceNeg] <;> rfl)
                      refine AL.nil ?_; simp only [thenQ, inQ]
                      refine AWp.ret ?_; (try simp only [inQ, thenQ]); refine rret 0 ?_
                      refine ⟨?_, rfl⟩; simp only [pack]; simp_all <;> omega)))
          · first
            | exact absurd hb (by decide)
            | (
              skip
              refine rn 18 (k := ?_) (h := by simp (maxSteps := 3000000) only [Nat.reduceDiv, Nat.reduceMod, engA, engL, engT, reduceIte, reduceCtorEq, Nat.reduceLT, Nat.reduceLeDiff, Nat.reduceAdd, Nat.reduceSub, Nat.reduceMul, Nat.reduceEqDiff, Nat.reduceBneDiff, Nat.le_refl, Bool.false_eq_true, Int.reduceLT, Int.reduceLE, Int.reduceAdd, Int.reduceSub, Int.reduceMul, Int.reduceToNat, Int.reduceEq, Int.cast_ofNat_Int, Int.reduceNeg] <;> rfl)
              refine rn 2 (k := ?_) (h := by simp (maxSteps := 3000000) only [Nat.reduceDiv, Nat.reduceMod, engA, engL, engT, reduceIte, reduceCtorEq, Nat.reduceLT, Nat.reduceLeDiff, Nat.reduceAdd, Nat.reduceSub, Nat.reduceMul, Nat.reduceEqDiff, Nat.reduceBneDiff, Nat.le_refl, Bool.false_eq_true, Int.reduceLT, Int.reduceLE, Int.reduceAdd, Int.reduceSub, Int.reduceMul, Int.reduceToNat, Int.reduceEq, Int.cast_ofNat_Int, Int.reduceNeg] <;> rfl)
              refine AL.nil ?_; simp only [thenQ, inQ]
              refine AWp.ret ?_; (try simp only [inQ, thenQ]); refine rret 0 ?_
              refine ⟨?_, rfl⟩; simp only [pack]; simp_all <;> omega))
      · first
        | exact absurd hb (by decide)
        | (
          skip
          -- REGION 7
          (repeat refine AWp.seq ?_); refine AWp.region ?_
          refine rn 2 ?_
          refine AL.nil ?_; simp only [thenQ, inQ]
          (try simp only [inQ, thenQ])
          refine Rounds.round ?_
          -- REGION 3
          (repeat refine AWp.seq ?_); refine AWp.region ?_
          refine rn 3 ?_
          refine AL.nil ?_; simp only [thenQ, inQ]
          (repeat refine AWp.seq ?_)
          refine rc (t := false) (fun hb => by cases hb) (fun hb => ?_)
          refine AWp.exit ?_
          simp only [inQ, thenQ, reduceIte, Nat.reduceEqDiff]
          -- REGION 8
          (repeat refine AWp.seq ?_); refine AWp.region ?_
          refine rn 5 (k := ?_) (h := by simp (maxSteps := 3000000) only [Nat.reduceDiv, Nat.reduceMod, engA, engL, engT, reduceIte, reduceCtorEq, Nat.reduceLT, Nat.reduceLeDiff, Nat.reduceAdd, Nat.reduceSub, Nat.reduceMul, Nat.reduceEqDiff, Nat.reduceBneDiff, Nat.le_refl, Bool.false_eq_true, Int.reduceLT, Int.reduceLE, Int.reduceAdd, Int.reduceSub, Int.reduceMul, Int.reduceToNat, Int.reduceEq, Int.cast_ofNat_Int, Int.reduceNeg] <;> rfl)
          refine rsp 35 (fun hb => ?_) (fun hb => ?_)
          · first
            | exact absurd hb (by decide)
            | (
              skip
              refine rn 7 (k := ?_) (h := by simp (maxSteps := 3000000) only [Nat.reduceDiv, Nat.reduceMod, engA, engL, engT, reduceIte, reduceCtorEq, Nat.reduceLT, Nat.reduceLeDiff, Nat.reduceAdd, Nat.reduceSub, Nat.reduceMul, Nat.reduceEqDiff, Nat.reduceBneDiff, Nat.le_refl, Bool.false_eq_true, Int.reduceLT, Int.reduceLE, Int.reduceAdd, Int.reduceSub, Int.reduceMul, Int.reduceToNat, Int.reduceEq, Int.cast_ofNat_Int, Int.reduceNeg] <;> rfl)
              refine rsp 42 (fun hb => ?_) (fun hb => ?_)
              · first
                | exact absurd hb (by decide)
                | (
                  skip
                  refine rn 10 (k := ?_) (h := by simp (maxSteps := 3000000) only [Nat.reduceDiv, Nat.reduceMod, engA, engL, engT, reduceIte, reduceCtorEq, Nat.reduceLT, Nat.reduceLeDiff, Nat.reduceAdd, Nat.reduceSub, Nat.reduceMul, Nat.reduceEqDiff, Nat.reduceBneDiff, Nat.le_refl, Bool.false_eq_true, Int.reduceLT, Int.reduceLE, Int.reduceAdd, Int.reduceSub, Int.reduceMul, Int.reduceToNat, Int.reduceEq, Int.cast_ofNat_Int, Int.reduceNeg] <;> rfl)
                  refine rn 3 (k := ?_) (h := by simp (maxSteps := 3000000) only [Nat.reduceDiv, Nat.reduceMod, engA, engL, engT, reduceIte, reduceCtorEq, Nat.reduceLT, Nat.reduceLeDiff, Nat.reduceAdd, Nat.reduceSub, Nat.reduceMul, Nat.reduceEqDiff, Nat.reduceBneDiff, Nat.le_refl, Bool.false_eq_true, Int.reduceLT, Int.reduceLE, Int.reduceAdd, Int.reduceSub, Int.reduceMul, Int.reduceToNat, Int.reduceEq, Int.cast_ofNat_Int, Int.reduceNeg] <;> rfl)
                  refine AL.nil ?_; simp only [thenQ, inQ]
                  refine AWp.ret ?_; (try simp only [inQ, thenQ]); refine rret 0 ?_
                  refine ⟨?_, rfl⟩; simp only [pack]; simp_all <;> omega)
              · first
                | exact absurd hb (by decide)
                | (
                  skip
                  refine rn 4 (k := ?_) (h := by simp (maxSteps := 3000000) only [Nat.reduceDiv, Nat.reduceMod, engA, engL, engT, reduceIte, reduceCtorEq, Nat.reduceLT, Nat.reduceLeDiff, Nat.reduceAdd, Nat.reduceSub, Nat.reduceMul, Nat.reduceEqDiff, Nat.reduceBneDiff, Nat.le_refl, Bool.false_eq_true, Int.reduceLT, Int.reduceLE, Int.reduceAdd, Int.reduceSub, Int.reduceMul, Int.reduceToNat, Int.reduceEq, Int.cast_ofNat_Int, Int.reduceNeg] <;> rfl)
                  refine rcallG Tryz.call116 (hC := c_slices_isNaN_int G _) (kk := ?_); simp only [Av.put]
                  refine rn 1 (k := ?_) (h := by simp (maxSteps := 3000000) only [Nat.reduceDiv, Nat.reduceMod, engA, engL, engT, reduceIte, reduceCtorEq, Nat.reduceLT, Nat.reduceLeDiff, Nat.reduceAdd, Nat.reduceSub, Nat.reduceMul, Nat.reduceEqDiff, Nat.reduceBneDiff, Nat.le_refl, Bool.false_eq_true, Int.reduceLT, Int.reduceLE, Int.reduceAdd, Int.reduceSub, Int.reduceMul, Int.reduceToNat, Int.reduceEq, Int.cast_ofNat_Int, Int.reduceNeg] <;> rfl)
                  refine rsp 48 (fun hb => ?_) (fun hb => ?_)
                  · first
                    | exact absurd hb (by decide)
                    | (
                      skip
                      refine rn 1 (k := ?_) (h := by simp (maxSteps := 3000000) only [Nat.reduceDiv, Nat.reduceMod, engA, engL, engT, reduceIte, reduceCtorEq, Nat.reduceLT, Nat.reduceLeDiff, Nat.reduceAdd, Nat.reduceSub, Nat.reduceMul, Nat.reduceEqDiff, Nat.reduceBneDiff, Nat.le_refl, Bool.false_eq_true, Int.reduceLT, Int.reduceLE, Int.reduceAdd, Int.reduceSub, Int.reduceMul, Int.reduceToNat, Int.reduceEq, Int.cast_ofNat_Int, Int.reduceNeg] <;> rfl)
                      refine rcallG Tryz.call116 (hC := c_slices_isNaN_int G _) (kk := ?_); simp only [Av.put]
                      refine rn 5 (k := ?_) (h := by simp (maxSteps := 3000000) only [Nat.reduceDiv, Nat.reduceMod, engA, engL, engT, reduceIte, reduceCtorEq, Nat.reduceLT, Nat.reduceLeDiff, Nat.reduceAdd, Nat.reduceSub, Nat.reduceMul, Nat.reduceEqDiff, Nat.reduceBneDiff, Nat.le_refl, Bool.false_eq_true, Int.reduceLT, Int.reduceLE, Int.reduceAdd, Int.reduceSub, Int.reduceMul, Int.reduceToNat, Int.reduceEq, Int.cast_ofNat_Int, Int.reduceNeg] <;> rfl)
                      refine AL.nil ?_; simp only [thenQ, inQ]
                      refine AWp.ret ?_; (try simp only [inQ, thenQ]); refine rret 0 ?_
                      refine ⟨?_, rfl⟩; simp only [pack]; simp_all <;> omega)
                  · first
                    | exact absurd hb (by decide)
                    | (
                      skip
                      refine rn 7 (k := ?_) (h := by simp (maxSteps := 3000000) only [Nat.reduceDiv, Nat.reduceMod, engA, engL, engT, reduceIte, reduceCtorEq, Nat.reduceLT, Nat.reduceLeDiff, Nat.reduceAdd, Nat.reduceSub, Nat.reduceMul, Nat.reduceEqDiff, Nat.reduceBneDiff, Nat.le_refl, Bool.false_eq_true, Int.reduceLT, Int.reduceLE, Int.reduceAdd, Int.reduceSub, Int.reduceMul, Int.reduceToNat, Int.reduceEq, Int.cast_ofNat_Int, Int.reduceNeg] <;> rfl)
                      refine AL.nil ?_; simp only [thenQ, inQ]
                      refine AWp.ret ?_; (try simp only [inQ, thenQ]); refine rret 0 ?_
                      refine ⟨?_, rfl⟩; simp only [pack]; simp_all <;> omega)))
          · first
            | exact absurd hb (by decide)
            | (
              skip
              refine rn 18 (k := ?_) (h := by simp (maxSteps := 3000000) only [Nat.reduceDiv, Nat.reduceMod, engA, engL, engT, reduceIte, reduceCtorEq, Nat.reduceLT, Nat.reduceLeDiff, Nat.reduceAdd, Nat.reduceSub, Nat.reduceMul, Nat.reduceEqDiff, Nat.reduceBneDiff, Nat.le_refl, Bool.false_eq_true, Int.reduceLT, Int.reduceLE, Int.reduceAdd, Int.reduceSub, Int.reduceMul, Int.reduceToNat, Int.reduceEq, Int.cast_ofNat_Int, Int.reduceNeg] <;> rfl)
              refine rn 2 (k := ?_) (h := by simp (maxSteps := 3000000) only [Nat.reduceDiv, Nat.reduceMod, engA, engL, engT, reduceIte, reduceCtorEq, Nat.reduceLT, Nat.reduceLeDiff, Nat.reduceAdd, Nat.reduceSub, Nat.reduceMul, Nat.reduceEqDiff, Nat.reduceBneDiff, Nat.le_refl, Bool.false_eq_true, Int.reduceLT, Int.reduceLE, Int.reduceAdd, Int.reduceSub, Int.reduceMul, Int.reduceToNat, Int.reduceEq, Int.cast_ofNat_Int, Int.reduceNeg] <;> rfl)
              refine AL.nil ?_; simp only [thenQ, inQ]
              refine AWp.ret ?_; (try simp only [inQ, thenQ]); refine rret 0 ?_
              refine ⟨?_, rfl⟩; simp only [pack]; simp_all <;> omega)))

end Go.Proofs
end
