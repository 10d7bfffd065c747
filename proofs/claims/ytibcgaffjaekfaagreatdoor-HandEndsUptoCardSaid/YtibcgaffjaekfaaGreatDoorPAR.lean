/- Part 18 of 22 of a proof: own engine, contracts and facts. -/
import Derived.Test.YtibcgaffjaekfaaGreatDoorPAI
import Derived.Test.YtibcgaffjaekfaaGreatDoorPAJ
import Derived.Test.YtibcgaffjaekfaaGreatDoorPAQ
set_option linter.all false
section
set_option linter.unusedSimpArgs false
set_option maxRecDepth 20000
set_option maxHeartbeats 1000000
namespace Go.Proofs
open Go Av Rp
theorem c_heap_May (G : Globs) (h : Heap) (cs : List Lists) (hG : List.lookup 0 G = some wordsI) (ht : (allLists (h.F :: cs)).length ≤ 1000000) (hn : cs.length ≤ 1000000) : ACall Tryz.prog G 62 [heapV h, .im (listss cs)] [] (fun r L' => r = boolv (h.may cs) ∧ L' = []) := by
  refine ACall.enter Tryz.func62 rfl Tryz.ntmps62 (by rw [Tryz.results62]) (Nat.le_of_ble_eq_true rfl) rfl ?_
  refine AWp.big 1 rfl (fun hbig => ?_)
  replace hbig : cs.length ≤ 274877906944 := by simpa [bigN] using hbig
  -- REGION 0
  (repeat refine AWp.seq ?_); refine AWp.region ?_
  refine rn 2 ?_
  refine AL.nil ?_; simp only [thenQ, inQ]
  -- REGION 1
  (repeat refine AWp.seq ?_); refine AWp.region ?_
  refine rn 1 ?_
  refine rcall Tryz.call74 (hC := c_heap_shaped G _) (kk := ?_); simp only [Av.put]
  refine rn 1 ?_
  refine AL.nil ?_; simp only [thenQ, inQ]
  (repeat refine AWp.seq ?_)
  refine rc (fun hb => ?_) (fun hb => ?_)
  · have hs : h.shaped = false := by simpa using hb
    -- REGION 2
    (repeat refine AWp.seq ?_); refine AWp.region ?_
    refine rn 1 ?_
    refine AL.nil ?_; simp only [thenQ, inQ]
    refine AWp.ret ?_; (try simp only [inQ, thenQ]); refine rret 0 ?_
    exact ⟨by simp only [pack, Heap.may, hs, Bool.false_and], rfl⟩
  have hs : h.shaped = true := by simpa using hb
  (repeat refine AWp.seq ?_)
  refine AWp.skip ?_
  (try simp only [inQ, thenQ])
  refine AWp.freezeV 0 (cs := heapI h) rfl ?_; simp only [frvT, frvB, SV.frv, frvL, Blk.frv, List.map_cons, List.map_nil, reduceIte, Nat.reduceEqDiff]
  -- REGION 3
  (repeat refine AWp.seq ?_); refine AWp.region ?_
  refine rn 2 ?_
  refine AL.nil ?_; simp only [thenQ, inQ]
  -- REGION 4
  (repeat refine AWp.seq ?_); refine AWp.region ?_
  refine rn 2 ?_
  refine rbuildA ti100 ti25 ?_
  simp only [Av.put, List.length_cons, List.length_nil, List.cons_append, List.nil_append]
  refine rn 1 ?_
  refine rappI (es := [listsI h.F]) (ys := cs.map listsI) 1 ti100 ti25 (by simp only [List.length_map, List.length_cons, List.length_nil, bigN]; omega) (Nat.zero_le _) ?_ (hoc := oc_listsl cs)
  refine rn 1 ?_
  refine AL.nil ?_; simp only [thenQ, inQ]
  refine AWp.freeze 1 rfl (by simp only [List.length_map, List.length_cons, List.length_nil, List.length_append, bigN]; omega) ?_
  simp only [frzT, frzB, SV.frz, frzL, Blk.frz, engA, engL, engT, reduceIte, reduceCtorEq, Nat.reduceLT, Nat.reduceLeDiff, Nat.reduceAdd, Nat.reduceSub, Nat.reduceMul, Nat.reduceEqDiff, Nat.reduceBneDiff, Nat.le_refl, Bool.false_eq_true, Int.reduceLT, Int.reduceLE, Int.reduceAdd, Int.reduceSub, Int.reduceMul, Int.reduceToNat, Int.reduceEq, Int.cast_ofNat_Int, Int.reduceNeg, List.map_cons, List.map_nil]
  try simp only [listsI]
  generalize hal : IV.sl 3 _ = al
  obtain rfl : al = listss (h.F :: cs) := hal.symm
  obtain ⟨l, hl⟩ : ∃ l, l = h.F :: cs := ⟨_, rfl⟩
  have hll : l.length ≤ 1000001 := by rw [hl]; simp; omega
  have hmay : h.may cs = (l.all h.listed && (cellsAll h.P).all h.cellOk && apart l) := by rw [hl]; simp only [Heap.may, hs, Bool.true_and]
  rw [hmay]
  rw [← hl] at ht ⊢
  clear hal hl hmay
  -- REGION 5
  (repeat refine AWp.seq ?_); refine AWp.region ?_
  refine rn 3 ?_
  refine AL.nil ?_; simp only [thenQ, inQ]
  (repeat refine AWp.seq ?_)
  refine AWp.block ?_
  (repeat refine AWp.seq ?_)
  refine AWp.loopC (σ := Nat) (fun i => i ≤ l.length ∧ l.all h.listed = (l.drop i).all h.listed) (fun i => l.length - i) (fun i => [(20, intv i), (19, intv l.length), (18, .im (listss l)), (6, .im (listss l)), (5, .im (.fn 75 [] [.pt (heapI h) 0])), (2, .im (.pt (heapI h) 0))]) (fun _ => [.dead, .dead]) 0 2 (Nat.zero_le _) (Nat.zero_le _) (fun _ => rfl) (fun _ => rfl) ⟨⟨Nat.zero_le _, rfl⟩, ⟨rfl, rfl, rfl, rfl, rfl, rfl, trivial⟩, rfl⟩ ?_
  rintro i ⟨h1, h2⟩
  -- REGION 6
  (repeat refine AWp.seq ?_); refine AWp.region ?_
  refine rn 1 ?_
  refine AL.nil ?_; simp only [thenQ, inQ]
  (repeat refine AWp.seq ?_)
  refine rc (fun hb => ?_) (fun hb => ?_)
  · have hlt : i < l.length := by simp at hb; omega
    obtain ⟨x, hx⟩ : ∃ x, l[i]? = some x := ⟨_, List.getElem?_eq_getElem hlt⟩
    have hc : (0 ≤ (i : Int) ∧ (i : Int) < (l.length : Int)) = True := by simp; omega
    have hw : IntKind.i64.wrap ((i : Int) + 1) = ((i + 1 : Nat) : Int) := by rw [wrap_id _ (by omega) (by omega)]; omega
    rw [drop_cons hx, List.all_cons] at h2
    (repeat refine AWp.seq ?_)
    refine AWp.skip ?_
    (try simp only [inQ, thenQ])
    (repeat refine AWp.seq ?_)
    refine AWp.block ?_
    -- REGION 7
    (repeat refine AWp.seq ?_); refine AWp.region ?_
    refine rn 4 (k := ?_) (h := by simp (maxSteps := 3000000) only [hc, hx, Int.toNat_natCast, List.getElem?_map, Nat.mul_div_cancel _ (show 0 < 3 by decide), Nat.mul_mod_left, engA, engL, engT, reduceIte, reduceCtorEq, Nat.reduceLT, Nat.reduceLeDiff, Nat.reduceAdd, Nat.reduceSub, Nat.reduceMul, Nat.reduceEqDiff, Nat.reduceBneDiff, Nat.le_refl, Bool.false_eq_true, Int.reduceLT, Int.reduceLE, Int.reduceAdd, Int.reduceSub, Int.reduceMul, Int.reduceToNat, Int.reduceEq, Int.cast_ofNat_Int, Int.reduceNeg] <;> rfl)
    refine AL.nil ?_; simp only [thenQ, inQ]
    -- REGION 8
    (repeat refine AWp.seq ?_); refine AWp.region ?_
    refine rn 2 ?_
    refine rcall Tryz.call78 (hC := c_heap_listed G h x hs hG) (kk := ?_); simp only [Av.put]
    refine rn 1 ?_
    refine AL.nil ?_; simp only [thenQ, inQ]
    (repeat refine AWp.seq ?_)
    refine rc (fun hb => ?_) (fun hb => ?_)
    · have hxl : h.listed x = false := by simpa using hb
      -- REGION 9
      (repeat refine AWp.seq ?_); refine AWp.region ?_
      refine rn 1 ?_
      refine AL.nil ?_; simp only [thenQ, inQ]
      refine AWp.ret ?_; (try simp only [inQ, thenQ]); refine rret 0 ?_
      exact ⟨by simp only [pack, h2, hxl, Bool.false_and], rfl⟩
    · have hxl : h.listed x = true := by simpa using hb
      (repeat refine AWp.seq ?_)
      refine AWp.skip ?_
      (try simp only [inQ, thenQ])
      -- REGION 10
      (repeat refine AWp.seq ?_); refine AWp.region ?_
      refine rn 2 (k := ?_) (h := by simp (maxSteps := 3000000) only [hw, engA, engL, engT, reduceIte, reduceCtorEq, Nat.reduceLT, Nat.reduceLeDiff, Nat.reduceAdd, Nat.reduceSub, Nat.reduceMul, Nat.reduceEqDiff, Nat.reduceBneDiff, Nat.le_refl, Bool.false_eq_true, Int.reduceLT, Int.reduceLE, Int.reduceAdd, Int.reduceSub, Int.reduceMul, Int.reduceToNat, Int.reduceEq, Int.cast_ofNat_Int, Int.reduceNeg] <;> rfl)
      refine AL.nil ?_; simp only [thenQ, inQ]
      (try simp only [inQ, thenQ])
      exact ⟨i + 1, ⟨hlt, by rw [h2, hxl, Bool.true_and]⟩, by omega, (by simp only [engA, engL, engT, reduceIte, reduceCtorEq, Nat.reduceLT, Nat.reduceLeDiff, Nat.reduceAdd, Nat.reduceSub, Nat.reduceMul, Nat.reduceEqDiff, Nat.reduceBneDiff, Nat.le_refl, Bool.false_eq_true, Int.reduceLT, Int.reduceLE, Int.reduceAdd, Int.reduceSub, Int.reduceMul, Int.reduceToNat, Int.reduceEq, Int.cast_ofNat_Int, Int.reduceNeg, eq_self, and_self]), rfl, rfl⟩
  · have hi : i = l.length := by simp at hb; omega
    have hla : l.all h.listed = true := by rw [h2, hi, List.drop_length]; rfl
    refine AWp.exit ?_
    simp only [inQ, thenQ, reduceIte, Nat.reduceEqDiff]
    -- REGION 11
    (repeat refine AWp.seq ?_); refine AWp.region ?_
    refine rn 2 ?_
    refine rcall Tryz.call80 (hC := c_cells_All G h.P hG) (kk := ?_); simp only [Av.put]
    refine rn 1 ?_
    refine rcall Tryz.call79 (hC := c_heap_every G (cellsAll h.P) 75 [] [.pt (heapI h) 0] h.cellOk Tryz.call75 (fun a ha => c_heap_May_1 G h a (cell_range hs ha).1 (cell_range hs ha).2.1 (cell_range hs ha).2.2.1 (cell_range hs ha).2.2.2 hG)) (kk := ?_); simp only [Av.put]
    refine rn 1 ?_
    refine rsp 34 (fun hb => ?_) (fun hb => ?_)
    · refine rn 1 ?_
      refine rcallG Tryz.call81 (hC := c_lists_Apart G l ht) (kk := ?_); simp only [Av.put]
      refine rn 2 ?_
      refine AL.nil ?_; simp only [thenQ, inQ]
      refine AWp.ret ?_; (try simp only [inQ, thenQ]); refine rret 0 ?_
      exact ⟨by simp only [pack, hla, hb, Bool.true_and], rfl⟩
    · refine rn 2 ?_
      refine rn 2 ?_
      refine AL.nil ?_; simp only [thenQ, inQ]
      refine AWp.ret ?_; (try simp only [inQ, thenQ]); refine rret 0 ?_
      exact ⟨by simp only [pack, hla, hb, Bool.false_and, Bool.and_false], rfl⟩
end Go.Proofs
end

section
set_option linter.unusedSimpArgs false
set_option maxRecDepth 20000
set_option maxHeartbeats 1000000
namespace Go.Proofs
open Go Av Rp
theorem c_heap_May_nil (G : Globs) (h : Heap) (hG : List.lookup 0 G = some wordsI) (ht : h.F.all.length ≤ 1000000) : ACall Tryz.prog G 62 [heapV h, .im (.v (.slice none 0 0))] [] (fun r L' => r = boolv (h.may []) ∧ L' = []) :=
  (c_heap_May G h [] hG (by simpa [allLists] using ht) (by simp)).args rfl (fun j x y hx hy => match j, hx, hy with
    | 0, hx, hy => by cases hx; cases hy; exact Vw.rfl'
    | 1, hx, hy => by cases hx; cases hy; exact Vw_nil_listss
    | j + 2, hx, _ => by simp at hx)
theorem c_heap_Head (G : Globs) (h : Heap) (a : Int) (hG : List.lookup 0 G = some wordsI) (ht : h.F.all.length ≤ 1000000) : ACall Tryz.prog G 53 [heapV h, intv a] [] (fun r L' => r = .tup [headV (h.head a).1, intv (h.head a).2] ∧ L' = []) := by
  refine ACall.enter Tryz.func53 rfl Tryz.ntmps53 (by rw [Tryz.results53]) (Nat.le_of_ble_eq_true rfl) rfl ?_
  -- REGION 0
  (repeat refine AWp.seq ?_); refine AWp.region ?_
  refine rn 3 ?_
  refine AL.nil ?_; simp only [thenQ, inQ]
  (repeat refine AWp.seq ?_)
  refine AWp.block ?_
  -- REGION 1
  (repeat refine AWp.seq ?_); refine AWp.region ?_
  refine rn 1 ?_
  refine rcall Tryz.call62 (hC := c_heap_May_nil G h hG ht) (kk := ?_); simp only [Av.put]
  refine rn 2 ?_
  refine AL.nil ?_; simp only [thenQ, inQ]
  (repeat refine AWp.seq ?_)
  refine rc (fun hb => ?_) (fun hb => ?_)
  · skip
    -- REGION 2
    (repeat refine AWp.seq ?_); refine AWp.region ?_
    refine rn 3 ?_
    refine AL.nil ?_; simp only [thenQ, inQ]
    refine AWp.ret ?_; (try simp only [inQ, thenQ]); refine rret 0 ?_
    refine ⟨?_, rfl⟩; simp only [pack, engA, engL]; first | (rw [head_1 (by assumption)]; try rfl) | (rw [head_2 (by assumption) (by assumption)]; try rfl) | (rw [head_3 (by assumption) (by assumption) (by assumption)]; try rfl) | (rw [head_ok (by assumption) (by assumption) (by assumption)]; try rfl)
  · skip
    -- REGION 3
    (repeat refine AWp.seq ?_); refine AWp.region ?_
    refine rn 3 ?_
    refine rcall Tryz.call63 (hC := c_cells_Room G _ _ (by first | assumption | omega | simp_all)) (kk := ?_); simp only [Av.put]
    refine rn 2 ?_
    refine AL.nil ?_; simp only [thenQ, inQ]
    (repeat refine AWp.seq ?_)
    refine rc (fun hb => ?_) (fun hb => ?_)
    · skip
      -- REGION 4
      (repeat refine AWp.seq ?_); refine AWp.region ?_
      refine rn 3 ?_
      refine AL.nil ?_; simp only [thenQ, inQ]
      refine AWp.ret ?_; (try simp only [inQ, thenQ]); refine rret 0 ?_
      refine ⟨?_, rfl⟩; simp only [pack, engA, engL]; first | (rw [head_1 (by assumption)]; try rfl) | (rw [head_2 (by assumption) (by assumption)]; try rfl) | (rw [head_3 (by assumption) (by assumption) (by assumption)]; try rfl) | (rw [head_ok (by assumption) (by assumption) (by assumption)]; try rfl)
    · skip
      (repeat refine AWp.seq ?_)
      refine AWp.skip ?_
      (try simp only [inQ, thenQ])
      obtain ⟨h1, h2, h3, h4⟩ := head_range (by assumption) (by assumption)
      (repeat refine AWp.seq ?_); refine AWp.region ?_
      refine rn 2 ?_
      refine rcall Tryz.call65 (hC := c_heap_word G h a h1 h2 h4) (kk := ?_); simp only [Av.put]
      refine rcall Tryz.call64 (hC := c_head_Unpack G _) (kk := ?_); simp only [Av.put]
      refine rn 4 ?_
      refine rn 2 ?_
      refine AL.nil ?_; simp only [thenQ, inQ]
      -- REGION 6
      (repeat refine AWp.seq ?_); refine AWp.region ?_
      refine rn 3 ?_
      refine AL.nil ?_; simp only [thenQ, inQ]
      (repeat refine AWp.seq ?_)
      refine rc (fun hb => ?_) (fun hb => ?_)
      · skip
        -- REGION 7
        (repeat refine AWp.seq ?_); refine AWp.region ?_
        refine rn 3 ?_
        refine AL.nil ?_; simp only [thenQ, inQ]
        refine AWp.ret ?_; (try simp only [inQ, thenQ]); refine rret 0 ?_
        refine ⟨?_, rfl⟩; simp only [pack, engA, engL]; first | (rw [head_1 (by assumption)]; try rfl) | (rw [head_2 (by assumption) (by assumption)]; try rfl) | (rw [head_3 (by assumption) (by assumption) (by assumption)]; try rfl) | (rw [head_ok (by assumption) (by assumption) (by assumption)]; try rfl)
      · skip
        (repeat refine AWp.seq ?_)
        refine AWp.skip ?_
        (try simp only [inQ, thenQ])
        -- REGION 8
        (repeat refine AWp.seq ?_); refine AWp.region ?_
        refine rn 3 ?_
        refine AL.nil ?_; simp only [thenQ, inQ]
        refine AWp.ret ?_; (try simp only [inQ, thenQ]); refine rret 0 ?_
        refine ⟨?_, rfl⟩; simp only [pack, engA, engL]; first | (rw [head_1 (by assumption)]; try rfl) | (rw [head_2 (by assumption) (by assumption)]; try rfl) | (rw [head_3 (by assumption) (by assumption) (by assumption)]; try rfl) | (rw [head_ok (by assumption) (by assumption) (by assumption)]; try rfl)

end Go.Proofs
end

section
set_option linter.unusedSimpArgs false
set_option maxRecDepth 20000
set_option maxHeartbeats 1000000
namespace Go.Proofs
open Go Av Rp
theorem c_slices_Clone_own (G : Globs) (l : List Int) (hl : l ≠ []) : ACall Tryz.prog G 46 [.im (ints l)] [] (fun r L' => r = .app 0 ∧ L' = [.app 1 (intRow l) 3]) := by
  refine ACall.enter Tryz.func46 rfl Tryz.ntmps46 (by rw [Tryz.results46]) (Nat.le_of_ble_eq_true rfl) rfl ?_
  refine AWp.big 0 rfl (fun hbig => ?_)
  replace hbig : l.length ≤ 274877906944 := by simpa [bigN] using hbig
  (repeat refine AWp.seq ?_); refine AWp.region ?_
  refine rn 1 ?_
  refine AL.nil ?_; simp only [thenQ, inQ]
  (repeat refine AWp.seq ?_); refine AWp.region ?_
  refine rn 1 ?_
  refine AL.cons (OpTo.eqNil (es := l.map (fun n => [IV.int n])) rfl rfl ti22 rfl (by simp only [engA, engL, engT, reduceIte, reduceCtorEq, Nat.reduceLT, Nat.reduceLeDiff, Nat.reduceAdd, Nat.reduceSub, Nat.reduceMul, Nat.reduceEqDiff, Nat.reduceBneDiff, Nat.le_refl, Bool.false_eq_true, Int.reduceLT, Int.reduceLE, Int.reduceAdd, Int.reduceSub, Int.reduceMul, Int.reduceToNat, Int.reduceEq, Int.cast_ofNat_Int, Int.reduceNeg]; rfl)) rfl ?_
  rintro T' L' ⟨b, hb, rfl, rfl⟩
  obtain rfl : b = false := hb (by simpa using hl)
  simp only [Av.put]
  refine AL.nil ?_; simp only [thenQ, inQ]
  (repeat refine AWp.seq ?_)
  refine rc (t := false) (fun hb => by cases hb) (fun hb => ?_)
  (repeat refine AWp.seq ?_)
  refine AWp.skip ?_
  simp only [inQ, thenQ]
  (repeat refine AWp.seq ?_); refine AWp.region ?_
  refine AL.consEq (OpTo.build0 rfl rfl ti22 rfl ti3) rfl ?_
  simp only [Av.put]
  refine rn 1 ?_
  refine AL.consEq (OpTo.appendF (ys := intRow l) (xv := .im .e0) rfl rfl ti22 rfl ti3 rfl rfl (by decide) (by decide) (by simp only [engA, engL, engT, reduceIte, reduceCtorEq, Nat.reduceLT, Nat.reduceLeDiff, Nat.reduceAdd, Nat.reduceSub, Nat.reduceMul, Nat.reduceEqDiff, Nat.reduceBneDiff, Nat.le_refl, Bool.false_eq_true, Int.reduceLT, Int.reduceLE, Int.reduceAdd, Int.reduceSub, Int.reduceMul, Int.reduceToNat, Int.reduceEq, Int.cast_ofNat_Int, Int.reduceNeg] <;> rfl) (.inl rfl) (by simp only [engA, engL, engT, reduceIte, reduceCtorEq, Nat.reduceLT, Nat.reduceLeDiff, Nat.reduceAdd, Nat.reduceSub, Nat.reduceMul, Nat.reduceEqDiff, Nat.reduceBneDiff, Nat.le_refl, Bool.false_eq_true, Int.reduceLT, Int.reduceLE, Int.reduceAdd, Int.reduceSub, Int.reduceMul, Int.reduceToNat, Int.reduceEq, Int.cast_ofNat_Int, Int.reduceNeg] <;> rfl) (by simp only [intRow, List.length_map, bigN]; omega) (oc_intl l)) rfl ?_
  simp only [Av.put, List.length_nil, List.nil_append]
  refine rn 1 ?_
  refine AL.nil ?_; simp only [thenQ, inQ]
  refine AWp.ret ?_; (try simp only [inQ, thenQ]); refine rret 1 ?_
  exact ⟨rfl, rfl⟩
theorem c_arena_May_own (G : Globs) (w : List Int) (hw : arenaMay w = true) : ACall Tryz.prog G 93 [.app 0] [.app 1 (intRow w) 3] (fun r L' => r = boolv true ∧ L' = [.app 1 (intRow w) 3]) := by
  refine ACall.enter Tryz.func93 rfl Tryz.ntmps93 (by rw [Tryz.results93]) (Nat.le_of_ble_eq_true rfl) rfl ?_
  have hlen := arenaMay_len hw
  have f1 : decide ((w.length : Int).tmod 16 = 0) = true := by rw [Int.tmod_eq_emod_of_nonneg (by omega)]; simp; omega
  have f2 : IntKind.i64.wrap ((w.length : Int).tdiv 16) = (w.length : Int) / 16 := by rw [Int.tdiv_eq_ediv_of_nonneg (by omega), wrap_id _ (by omega) (by omega)]
  have f3 : inL ((w.length : Int) / 16) 1 64 = true := by simp [inL]; omega
  -- REGION 0
  (repeat refine AWp.seq ?_); refine AWp.region ?_
  refine rn 1 ?_
  refine AL.nil ?_; simp only [thenQ, inQ]
  -- REGION 1
  (repeat refine AWp.seq ?_); refine AWp.region ?_
  refine rn 4 (k := ?_) (h := by simp (maxSteps := 3000000) only [intRow, List.length_map, f1, engA, engL, engT, reduceIte, reduceCtorEq, Nat.reduceLT, Nat.reduceLeDiff, Nat.reduceAdd, Nat.reduceSub, Nat.reduceMul, Nat.reduceEqDiff, Nat.reduceBneDiff, Nat.le_refl, Bool.false_eq_true, Int.reduceLT, Int.reduceLE, Int.reduceAdd, Int.reduceSub, Int.reduceMul, Int.reduceToNat, Int.reduceEq, Int.cast_ofNat_Int, Int.reduceNeg] <;> rfl)
  refine rn 1 (k := ?_) (h := by simp (maxSteps := 3000000) only [intRow, List.length_map, f1, engA, engL, engT, reduceIte, reduceCtorEq, Nat.reduceLT, Nat.reduceLeDiff, Nat.reduceAdd, Nat.reduceSub, Nat.reduceMul, Nat.reduceEqDiff, Nat.reduceBneDiff, Nat.le_refl, Bool.false_eq_true, Int.reduceLT, Int.reduceLE, Int.reduceAdd, Int.reduceSub, Int.reduceMul, Int.reduceToNat, Int.reduceEq, Int.cast_ofNat_Int, Int.reduceNeg] <;> rfl)
  refine rn 3 (k := ?_) (h := by simp (maxSteps := 3000000) only [intRow, List.length_map, f2, engA, engL, engT, reduceIte, reduceCtorEq, Nat.reduceLT, Nat.reduceLeDiff, Nat.reduceAdd, Nat.reduceSub, Nat.reduceMul, Nat.reduceEqDiff, Nat.reduceBneDiff, Nat.le_refl, Bool.false_eq_true, Int.reduceLT, Int.reduceLE, Int.reduceAdd, Int.reduceSub, Int.reduceMul, Int.reduceToNat, Int.reduceEq, Int.cast_ofNat_Int, Int.reduceNeg] <;> rfl)
  refine rcallG Tryz.call58 (hC := c_arena_pages G _) (kk := ?_); simp only [Av.put]
  refine rn 2 (k := ?_) (h := by simp (maxSteps := 3000000) only [f3, engA, engL, engT, reduceIte, reduceCtorEq, Nat.reduceLT, Nat.reduceLeDiff, Nat.reduceAdd, Nat.reduceSub, Nat.reduceMul, Nat.reduceEqDiff, Nat.reduceBneDiff, Nat.le_refl, Bool.false_eq_true, Int.reduceLT, Int.reduceLE, Int.reduceAdd, Int.reduceSub, Int.reduceMul, Int.reduceToNat, Int.reduceEq, Int.cast_ofNat_Int, Int.reduceNeg] <;> rfl)
  refine AL.nil ?_; simp only [thenQ, inQ]
  refine AWp.ret ?_; (try simp only [inQ, thenQ]); refine rret 1 (hm := Nat.le_refl _) ?_
  exact ⟨by simp only [pack, f3], rfl⟩
theorem c_arena_part_own (G : Globs) (w : List Int) (a n : Int) (hw : arenaMay w = true) (hn : 1 ≤ n) (h1 : 16 ≤ a) (h2 : a - 16 + n ≤ w.length) : ACall Tryz.prog G 73 [.app 0, intv a, intv n] [.app 1 (intRow w) 3] (fun r L' => r = .tup [.sub 0 1 (a - 16).toNat (a - 16 + n).toNat 0, intv 0] ∧ L' = [.app 1 (intRow w) 3]) := by
  refine ACall.enter Tryz.func73 rfl Tryz.ntmps73 (by rw [Tryz.results73]) (Nat.le_of_ble_eq_true rfl) rfl ?_
  have hlen := arenaMay_len hw
  have e1 : IntKind.i64.wrap (a - 16) = a - 16 := wrap_id _ (by omega) (by omega)
  have e2 : IntKind.i64.wrap ((w.length : Int) - (a - 16)) = (w.length : Int) - (a - 16) := wrap_id _ (by omega) (by omega)
  have d1 : decide (n < 0) = false := by simp; omega
  have d2 : decide (0 < n) = true := by simp; omega
  have d3 : decide (a < 16) = false := by simp; omega
  have d4 : decide ((w.length : Int) ≤ a - 16) = false := by simp; omega
  have d5 : decide ((w.length : Int) - (a - 16) < n) = false := by simp; omega
  have d6 : decide (n = 0) = false := by simp; omega
  -- REGION 0
  (repeat refine AWp.seq ?_); refine AWp.region ?_
  refine rn 2 ?_
  refine AL.nil ?_; simp only [thenQ, inQ]
  (repeat refine AWp.seq ?_)
  refine AWp.block ?_
  -- REGION 1
  (repeat refine AWp.seq ?_); refine AWp.region ?_
  refine rn 1 ?_
  refine rcallL Tryz.call93 (hK := Nat.le_refl _) (hF := Nat.le_refl _) (hnm := rfl) (hC := c_arena_May_own G w hw) (kk := ?_)
  simp only [Av.put]
  refine rn 2 ?_
  refine AL.nil ?_; simp only [thenQ, inQ]
  (repeat refine AWp.seq ?_)
  refine rc (t := false) (fun hb => by cases hb) (fun hb => ?_)
  -- REGION 2
  (repeat refine AWp.seq ?_); refine AWp.region ?_
  refine rn 3 (k := ?_) (h := by simp (maxSteps := 3000000) only [d1, engA, engL, engT, reduceIte, reduceCtorEq, Nat.reduceLT, Nat.reduceLeDiff, Nat.reduceAdd, Nat.reduceSub, Nat.reduceMul, Nat.reduceEqDiff, Nat.reduceBneDiff, Nat.le_refl, Bool.false_eq_true, Int.reduceLT, Int.reduceLE, Int.reduceAdd, Int.reduceSub, Int.reduceMul, Int.reduceToNat, Int.reduceEq, Int.cast_ofNat_Int, Int.reduceNeg] <;> rfl)
  refine AL.nil ?_; simp only [thenQ, inQ]
  (repeat refine AWp.seq ?_)
  refine rc (t := false) (fun hb => by cases hb) (fun hb => ?_)
  -- REGION 4
  (repeat refine AWp.seq ?_); refine AWp.region ?_
  refine rn 4 (k := ?_) (h := by simp (maxSteps := 3000000) only [d2, d3, d4, d5, e1, e2, intRow, List.length_map, engA, engL, engT, reduceIte, reduceCtorEq, Nat.reduceLT, Nat.reduceLeDiff, Nat.reduceAdd, Nat.reduceSub, Nat.reduceMul, Nat.reduceEqDiff, Nat.reduceBneDiff, Nat.le_refl, Bool.false_eq_true, Int.reduceLT, Int.reduceLE, Int.reduceAdd, Int.reduceSub, Int.reduceMul, Int.reduceToNat, Int.reduceEq, Int.cast_ofNat_Int, Int.reduceNeg] <;> rfl)
  refine rn 4 (k := ?_) (h := by simp (maxSteps := 3000000) only [d2, d3, d4, d5, e1, e2, intRow, List.length_map, engA, engL, engT, reduceIte, reduceCtorEq, Nat.reduceLT, Nat.reduceLeDiff, Nat.reduceAdd, Nat.reduceSub, Nat.reduceMul, Nat.reduceEqDiff, Nat.reduceBneDiff, Nat.le_refl, Bool.false_eq_true, Int.reduceLT, Int.reduceLE, Int.reduceAdd, Int.reduceSub, Int.reduceMul, Int.reduceToNat, Int.reduceEq, Int.cast_ofNat_Int, Int.reduceNeg] <;> rfl)
  refine rn 4 (k := ?_) (h := by simp (maxSteps := 3000000) only [d2, d3, d4, d5, e1, e2, intRow, List.length_map, engA, engL, engT, reduceIte, reduceCtorEq, Nat.reduceLT, Nat.reduceLeDiff, Nat.reduceAdd, Nat.reduceSub, Nat.reduceMul, Nat.reduceEqDiff, Nat.reduceBneDiff, Nat.le_refl, Bool.false_eq_true, Int.reduceLT, Int.reduceLE, Int.reduceAdd, Int.reduceSub, Int.reduceMul, Int.reduceToNat, Int.reduceEq, Int.cast_ofNat_Int, Int.reduceNeg] <;> rfl)
  refine rn 4 (k := ?_) (h := by simp (maxSteps := 3000000) only [d2, d3, d4, d5, e1, e2, intRow, List.length_map, engA, engL, engT, reduceIte, reduceCtorEq, Nat.reduceLT, Nat.reduceLeDiff, Nat.reduceAdd, Nat.reduceSub, Nat.reduceMul, Nat.reduceEqDiff, Nat.reduceBneDiff, Nat.le_refl, Bool.false_eq_true, Int.reduceLT, Int.reduceLE, Int.reduceAdd, Int.reduceSub, Int.reduceMul, Int.reduceToNat, Int.reduceEq, Int.cast_ofNat_Int, Int.reduceNeg] <;> rfl)
  refine rn 4 (k := ?_) (h := by simp (maxSteps := 3000000) only [d2, d3, d4, d5, e1, e2, intRow, List.length_map, engA, engL, engT, reduceIte, reduceCtorEq, Nat.reduceLT, Nat.reduceLeDiff, Nat.reduceAdd, Nat.reduceSub, Nat.reduceMul, Nat.reduceEqDiff, Nat.reduceBneDiff, Nat.le_refl, Bool.false_eq_true, Int.reduceLT, Int.reduceLE, Int.reduceAdd, Int.reduceSub, Int.reduceMul, Int.reduceToNat, Int.reduceEq, Int.cast_ofNat_Int, Int.reduceNeg] <;> rfl)
  refine rn 3 (k := ?_) (h := by simp (maxSteps := 3000000) only [d2, d3, d4, d5, e1, e2, intRow, List.length_map, engA, engL, engT, reduceIte, reduceCtorEq, Nat.reduceLT, Nat.reduceLeDiff, Nat.reduceAdd, Nat.reduceSub, Nat.reduceMul, Nat.reduceEqDiff, Nat.reduceBneDiff, Nat.le_refl, Bool.false_eq_true, Int.reduceLT, Int.reduceLE, Int.reduceAdd, Int.reduceSub, Int.reduceMul, Int.reduceToNat, Int.reduceEq, Int.cast_ofNat_Int, Int.reduceNeg] <;> rfl)
  refine AL.nil ?_; simp only [thenQ, inQ]
  (repeat refine AWp.seq ?_)
  refine rc (t := false) (fun hb => by cases hb) (fun hb => ?_)
  -- REGION 6
  (repeat refine AWp.seq ?_); refine AWp.region ?_
  refine rn 3 (k := ?_) (h := by simp (maxSteps := 3000000) only [d6, engA, engL, engT, reduceIte, reduceCtorEq, Nat.reduceLT, Nat.reduceLeDiff, Nat.reduceAdd, Nat.reduceSub, Nat.reduceMul, Nat.reduceEqDiff, Nat.reduceBneDiff, Nat.le_refl, Bool.false_eq_true, Int.reduceLT, Int.reduceLE, Int.reduceAdd, Int.reduceSub, Int.reduceMul, Int.reduceToNat, Int.reduceEq, Int.cast_ofNat_Int, Int.reduceNeg] <;> rfl)
  refine AL.nil ?_; simp only [thenQ, inQ]
  (repeat refine AWp.seq ?_)
  refine rc (t := false) (fun hb => by cases hb) (fun hb => ?_)
  (repeat refine AWp.seq ?_)
  refine AWp.skip ?_
  (try simp only [inQ, thenQ])
  obtain ⟨k, hk⟩ : ∃ k : Nat, a - 16 = (k : Int) := ⟨(a - 16).toNat, by omega⟩
  obtain ⟨m, hm⟩ : ∃ m : Nat, n = (m : Int) := ⟨n.toNat, by omega⟩
  subst hm
  have hkm : k + m ≤ w.length := by omega
  have hm1 : 1 ≤ m := by omega
  have t1 : (a - 16).toNat = k := by omega
  have t2 : (a - 16 + (m : Int)).toNat = k + m := by omega
  rw [t1, t2]
  rw [hk] at e1
  -- REGION 8
  (repeat refine AWp.seq ?_); refine AWp.region ?_
  refine rn 3 (k := ?_) (h := by simp (maxSteps := 3000000) only [hk, e1, engA, engL, engT, reduceIte, reduceCtorEq, Nat.reduceLT, Nat.reduceLeDiff, Nat.reduceAdd, Nat.reduceSub, Nat.reduceMul, Nat.reduceEqDiff, Nat.reduceBneDiff, Nat.le_refl, Bool.false_eq_true, Int.reduceLT, Int.reduceLE, Int.reduceAdd, Int.reduceSub, Int.reduceMul, Int.reduceToNat, Int.reduceEq, Int.cast_ofNat_Int, Int.reduceNeg] <;> rfl)
  refine AL.consEq (OpTo.sliceA (l := k) (h := w.length) rfl rfl ti22 rfl ti3 (by simp only [engA, engL, engT, reduceIte, reduceCtorEq, Nat.reduceLT, Nat.reduceLeDiff, Nat.reduceAdd, Nat.reduceSub, Nat.reduceMul, Nat.reduceEqDiff, Nat.reduceBneDiff, Nat.le_refl, Bool.false_eq_true, Int.reduceLT, Int.reduceLE, Int.reduceAdd, Int.reduceSub, Int.reduceMul, Int.reduceToNat, Int.reduceEq, Int.cast_ofNat_Int, Int.reduceNeg] <;> rfl) (by simp only [engA, engL, engT, reduceIte, reduceCtorEq, Nat.reduceLT, Nat.reduceLeDiff, Nat.reduceAdd, Nat.reduceSub, Nat.reduceMul, Nat.reduceEqDiff, Nat.reduceBneDiff, Nat.le_refl, Bool.false_eq_true, Int.reduceLT, Int.reduceLE, Int.reduceAdd, Int.reduceSub, Int.reduceMul, Int.reduceToNat, Int.reduceEq, Int.cast_ofNat_Int, Int.reduceNeg] <;> rfl) (by simp only [bnd, engA, engL, engT, reduceIte, reduceCtorEq, Nat.reduceLT, Nat.reduceLeDiff, Nat.reduceAdd, Nat.reduceSub, Nat.reduceMul, Nat.reduceEqDiff, Nat.reduceBneDiff, Nat.le_refl, Bool.false_eq_true, Int.reduceLT, Int.reduceLE, Int.reduceAdd, Int.reduceSub, Int.reduceMul, Int.reduceToNat, Int.reduceEq, Int.cast_ofNat_Int, Int.reduceNeg]; rw [if_pos (by omega)]; rfl) (by simp only [bnd, intRow, List.length_map]) (by omega) (by simp [intRow]) (by simp [intRow]; omega)) rfl ?_
  simp only [Av.put]
  refine rn 2 ?_
  refine AL.consEq (OpTo.sliceS (l := 0) (h := m) (m := m) rfl rfl ti22 rfl ti3 (by simp only [engA, engL, engT, reduceIte, reduceCtorEq, Nat.reduceLT, Nat.reduceLeDiff, Nat.reduceAdd, Nat.reduceSub, Nat.reduceMul, Nat.reduceEqDiff, Nat.reduceBneDiff, Nat.le_refl, Bool.false_eq_true, Int.reduceLT, Int.reduceLE, Int.reduceAdd, Int.reduceSub, Int.reduceMul, Int.reduceToNat, Int.reduceEq, Int.cast_ofNat_Int, Int.reduceNeg] <;> rfl) (by simp only [bnd]) (by simp only [bnd, engA, engL, engT, reduceIte, reduceCtorEq, Nat.reduceLT, Nat.reduceLeDiff, Nat.reduceAdd, Nat.reduceSub, Nat.reduceMul, Nat.reduceEqDiff, Nat.reduceBneDiff, Nat.le_refl, Bool.false_eq_true, Int.reduceLT, Int.reduceLE, Int.reduceAdd, Int.reduceSub, Int.reduceMul, Int.reduceToNat, Int.reduceEq, Int.cast_ofNat_Int, Int.reduceNeg]; rw [if_pos (by omega)]; rfl) (by simp) (by simp only [bnd, engA, engL, engT, reduceIte, reduceCtorEq, Nat.reduceLT, Nat.reduceLeDiff, Nat.reduceAdd, Nat.reduceSub, Nat.reduceMul, Nat.reduceEqDiff, Nat.reduceBneDiff, Nat.le_refl, Bool.false_eq_true, Int.reduceLT, Int.reduceLE, Int.reduceAdd, Int.reduceSub, Int.reduceMul, Int.reduceToNat, Int.reduceEq, Int.cast_ofNat_Int, Int.reduceNeg]; rw [if_pos (by omega)]; rfl) (Nat.zero_le _) (Nat.le_refl _) (by omega) hm1) rfl ?_
  simp only [Av.put]
  refine rn 2 ?_
  refine AL.nil ?_; simp only [thenQ, inQ]
  refine AWp.ret ?_; (try simp only [inQ, thenQ]); refine rret 1 (hm := Nat.le_refl _) ?_
  exact ⟨rfl, rfl⟩
theorem c_arena_Put (G : Globs) (w : List Int) (a v : Int) (hw : arenaMay w = true) (h1 : 16 ≤ a) (h2 : a - 16 < w.length) : ACall Tryz.prog G 61 [.im (ints w), intv a, intv v] [] (fun r L' => r = .tup [.im (ints (w.set (a - 16).toNat v)), intv 0] ∧ L' = []) := by
  refine ACall.enter Tryz.func61 rfl Tryz.ntmps61 (by rw [Tryz.results61]) (Nat.le_of_ble_eq_true rfl) rfl ?_
  have hlen := arenaMay_len hw
  obtain ⟨k, hk⟩ : ∃ k : Nat, a - 16 = (k : Int) := ⟨(a - 16).toNat, by omega⟩
  have t1 : (a - 16).toNat = k := by omega
  have t2 : (a - 16 + 1).toNat = k + 1 := by omega
  have hkl : k < w.length := by omega
  have hp := c_arena_part_own G w a 1 hw (by omega) h1 (by omega)
  rw [t1, t2] at hp
  rw [t1]
  -- REGION 0
  (repeat refine AWp.seq ?_); refine AWp.region ?_
  refine rn 2 ?_
  refine AL.nil ?_; simp only [thenQ, inQ]
  -- REGION 1
  (repeat refine AWp.seq ?_); refine AWp.region ?_
  refine rn 1 ?_
  refine rcallO Tryz.call46 (hC := c_slices_Clone_own G w (by rintro rfl; simp at hlen)) (kk := ?_)
  simp only [Av.put, List.nil_append]
  refine rn 1 ?_
  refine AL.nil ?_; simp only [thenQ, inQ]
  -- REGION 2
  (repeat refine AWp.seq ?_); refine AWp.region ?_
  refine rn 2 ?_
  refine rcallL Tryz.call73 (hK := Nat.zero_le _) (hF := Nat.zero_le _) (hnm := rfl) (hC := hp) (kk := ?_)
  simp only [Av.put]
  refine rn 4 ?_
  refine rn 1 ?_
  refine AL.nil ?_; simp only [thenQ, inQ]
  -- REGION 3
  (repeat refine AWp.seq ?_); refine AWp.region ?_
  refine rn 2 ?_
  refine AL.nil ?_; simp only [thenQ, inQ]
  (repeat refine AWp.seq ?_)
  refine rc (fun hb => ?_) (fun hb => ?_)
  · exact absurd hb (by decide)
  (repeat refine AWp.seq ?_)
  refine AWp.skip ?_
  (try simp only [inQ, thenQ])
  -- REGION 5
  (repeat refine AWp.seq ?_); refine AWp.region ?_
  refine rn 2 ?_
  refine AL.consEq (OpTo.idxS (n := 0) rfl rfl ti22 rfl ti3 (by simp only [engA, engL, engT, reduceIte, reduceCtorEq, Nat.reduceLT, Nat.reduceLeDiff, Nat.reduceAdd, Nat.reduceSub, Nat.reduceMul, Nat.reduceEqDiff, Nat.reduceBneDiff, Nat.le_refl, Bool.false_eq_true, Int.reduceLT, Int.reduceLE, Int.reduceAdd, Int.reduceSub, Int.reduceMul, Int.reduceToNat, Int.reduceEq, Int.cast_ofNat_Int, Int.reduceNeg] <;> rfl) (by simp only [engA, engL, engT, reduceIte, reduceCtorEq, Nat.reduceLT, Nat.reduceLeDiff, Nat.reduceAdd, Nat.reduceSub, Nat.reduceMul, Nat.reduceEqDiff, Nat.reduceBneDiff, Nat.le_refl, Bool.false_eq_true, Int.reduceLT, Int.reduceLE, Int.reduceAdd, Int.reduceSub, Int.reduceMul, Int.reduceToNat, Int.reduceEq, Int.cast_ofNat_Int, Int.reduceNeg] <;> rfl) (by omega)) rfl ?_
  simp only [Av.put, Nat.add_zero]
  refine AL.consEq (OpTo.storeAp (es := intRow w) (n := k) (cs := [intv v]) (ivs := [.int v]) rfl rfl ti3 (by simp only [engA, engL, engT, reduceIte, reduceCtorEq, Nat.reduceLT, Nat.reduceLeDiff, Nat.reduceAdd, Nat.reduceSub, Nat.reduceMul, Nat.reduceEqDiff, Nat.reduceBneDiff, Nat.le_refl, Bool.false_eq_true, Int.reduceLT, Int.reduceLE, Int.reduceAdd, Int.reduceSub, Int.reduceMul, Int.reduceToNat, Int.reduceEq, Int.cast_ofNat_Int, Int.reduceNeg] <;> rfl) (by simp only [engA, engL, engT, reduceIte, reduceCtorEq, Nat.reduceLT, Nat.reduceLeDiff, Nat.reduceAdd, Nat.reduceSub, Nat.reduceMul, Nat.reduceEqDiff, Nat.reduceBneDiff, Nat.le_refl, Bool.false_eq_true, Int.reduceLT, Int.reduceLE, Int.reduceAdd, Int.reduceSub, Int.reduceMul, Int.reduceToNat, Int.reduceEq, Int.cast_ofNat_Int, Int.reduceNeg] <;> rfl) (by simpa [intRow] using hkl) (by simp only [engA, engL, engT, reduceIte, reduceCtorEq, Nat.reduceLT, Nat.reduceLeDiff, Nat.reduceAdd, Nat.reduceSub, Nat.reduceMul, Nat.reduceEqDiff, Nat.reduceBneDiff, Nat.le_refl, Bool.false_eq_true, Int.reduceLT, Int.reduceLE, Int.reduceAdd, Int.reduceSub, Int.reduceMul, Int.reduceToNat, Int.reduceEq, Int.cast_ofNat_Int, Int.reduceNeg] <;> rfl) rfl rfl rfl (by intro c hc; simp only [List.mem_singleton] at hc; subst hc; rfl)) rfl ?_
  simp only [Av.put, List.set_cons_zero]
  refine AL.nil ?_; simp only [thenQ, inQ]
  refine AWp.freeze 0 rfl (by simp [intRow, bigN]; omega) ?_
  simp only [frzT, frzB, SV.frz, frzL, Blk.frz, engA, engL, engT, reduceIte, reduceCtorEq, Nat.reduceLT, Nat.reduceLeDiff, Nat.reduceAdd, Nat.reduceSub, Nat.reduceMul, Nat.reduceEqDiff, Nat.reduceBneDiff, Nat.le_refl, Bool.false_eq_true, Int.reduceLT, Int.reduceLE, Int.reduceAdd, Int.reduceSub, Int.reduceMul, Int.reduceToNat, Int.reduceEq, Int.cast_ofNat_Int, Int.reduceNeg, List.map_cons, List.map_nil]
  have hset : IV.sl 1 ((intRow w).set k [.v (.int .i64 v)]) = ints (w.set k v) := by unfold intRow ints; rw [List.map_set]
  simp only [hset]
  -- REGION 6
  (repeat refine AWp.seq ?_); refine AWp.region ?_
  refine rn 3 ?_
  refine AL.nil ?_; simp only [thenQ, inQ]
  refine AWp.ret ?_; (try simp only [inQ, thenQ]); refine rret 0 ?_
  exact ⟨rfl, rfl⟩
end Go.Proofs
end

section
set_option linter.unusedSimpArgs false
set_option maxRecDepth 20000
namespace Go.Proofs
open Go Av Rp
theorem c_slices_Clone_int_int (G : Globs) (l : List Int) : ACall Tryz.prog G 46 [.im (ints l)] [] (fun r L' => r = .im (ints l) ∧ L' = []) := by
  refine ACall.enter Tryz.func46 rfl Tryz.ntmps46 (by rw [Tryz.results46]) (Nat.le_of_ble_eq_true rfl) rfl ?_
  (repeat refine AWp.seq ?_); refine AWp.region ?_
  refine rn 1 ?_
  refine AL.nil ?_; simp only [thenQ, inQ]
  (repeat refine AWp.seq ?_); refine AWp.region ?_
  refine rn 1 ?_
  refine AL.cons (OpTo.eqNil (es := l.map (fun n => [IV.int n])) rfl rfl ti22 rfl (by simp only [engA, engL, engT, reduceIte, reduceCtorEq, Nat.reduceLT, Nat.reduceLeDiff, Nat.reduceAdd, Nat.reduceSub, Nat.reduceMul, Nat.reduceEqDiff, Nat.reduceBneDiff, Nat.le_refl, Bool.false_eq_true, Int.reduceLT, Int.reduceLE, Int.reduceAdd, Int.reduceSub, Int.reduceMul, Int.reduceToNat, Int.reduceEq, Int.cast_ofNat_Int, Int.reduceNeg]; rfl)) rfl ?_
  rintro T' L' ⟨b, hb, rfl, rfl⟩
  simp only [Av.put]
  refine AL.nil ?_; simp only [thenQ, inQ]
  (repeat refine AWp.seq ?_)
  refine AWp.cond (by simp only [engA, engL, engT, reduceIte, reduceCtorEq, Nat.reduceLT, Nat.reduceLeDiff, Nat.reduceAdd, Nat.reduceSub, Nat.reduceMul, Nat.reduceEqDiff, Nat.reduceBneDiff, Nat.le_refl, Bool.false_eq_true, Int.reduceLT, Int.reduceLE, Int.reduceAdd, Int.reduceSub, Int.reduceMul, Int.reduceToNat, Int.reduceEq, Int.cast_ofNat_Int, Int.reduceNeg]; rfl) (fun hb1 => ?_) (fun hb2 => ?_)
  · skip
    (repeat refine AWp.seq ?_); refine AWp.region ?_
    refine rn 1 ?_
    refine AL.nil ?_; simp only [thenQ, inQ]
    have hl : l = [] := by
      rcases l with _ | ⟨x, l⟩
      · rfl
      · have := hb (by simp); simp_all
    subst hl
    refine AWp.view [(2, .im (.sl 1 []))] ?_ ?_
    · intro k y hk
      simp only [Av.get] at hk
      split at hk
      · rename_i e; subst e; cases hk; exact ⟨_, by simp only [engA, engL, engT, reduceIte, reduceCtorEq, Nat.reduceLT, Nat.reduceLeDiff, Nat.reduceAdd, Nat.reduceSub, Nat.reduceMul, Nat.reduceEqDiff, Nat.reduceBneDiff, Nat.le_refl, Bool.false_eq_true, Int.reduceLT, Int.reduceLE, Int.reduceAdd, Int.reduceSub, Int.reduceMul, Int.reduceToNat, Int.reduceEq, Int.cast_ofNat_Int, Int.reduceNeg]; rfl, Vw.nil⟩
      · cases hk
    refine AWp.ret ?_; (try simp only [inQ, thenQ]); refine rret 0 ?_
    exact ⟨rfl, rfl⟩
  · skip
    (repeat refine AWp.seq ?_)
    refine AWp.skip ?_
    simp only [inQ, thenQ]
    (repeat refine AWp.seq ?_); refine AWp.region ?_
    refine AL.cons (OpTo.build0 rfl rfl ti22 rfl ti3) rfl ?_
    rintro T' L' ⟨rfl, rfl⟩
    simp only [Av.put]
    refine rn 1 ?_
    refine AL.cons (OpTo.append0 (es := l.map (fun n => [IV.int n])) (te := _) rfl rfl ti22 rfl ti3 rfl ?a1 ?a4 ?a2 ?a3) rfl ?_
    case a1 => decide
    case a4 => decide
    case a2 => simp only [engA, engL, engT, reduceIte, reduceCtorEq, Nat.reduceLT, Nat.reduceLeDiff, Nat.reduceAdd, Nat.reduceSub, Nat.reduceMul, Nat.reduceEqDiff, Nat.reduceBneDiff, Nat.le_refl, Bool.false_eq_true, Int.reduceLT, Int.reduceLE, Int.reduceAdd, Int.reduceSub, Int.reduceMul, Int.reduceToNat, Int.reduceEq, Int.cast_ofNat_Int, Int.reduceNeg]
    case a3 => simp only [engA, engL, engT, reduceIte, reduceCtorEq, Nat.reduceLT, Nat.reduceLeDiff, Nat.reduceAdd, Nat.reduceSub, Nat.reduceMul, Nat.reduceEqDiff, Nat.reduceBneDiff, Nat.le_refl, Bool.false_eq_true, Int.reduceLT, Int.reduceLE, Int.reduceAdd, Int.reduceSub, Int.reduceMul, Int.reduceToNat, Int.reduceEq, Int.cast_ofNat_Int, Int.reduceNeg]; rfl
    rintro T' L' ⟨rfl, rfl⟩
    simp only [Av.put]
    refine rn 1 ?_
    refine AL.nil ?_; simp only [thenQ, inQ]
    refine AWp.ret ?_; (try simp only [inQ, thenQ]); refine rret 0 ?_
    exact ⟨rfl, rfl⟩

theorem c_slices_Clone_api_Page_api_Page (G : Globs) (l : List Page) : ACall Tryz.prog G 47 [.im (pages l)] [] (fun r L' => r = .im (pages l) ∧ L' = []) := by
  refine ACall.enter Tryz.func47 rfl Tryz.ntmps47 (by rw [Tryz.results47]) (Nat.le_of_ble_eq_true rfl) rfl ?_
  (repeat refine AWp.seq ?_); refine AWp.region ?_
  refine rn 1 ?_
  refine AL.nil ?_; simp only [thenQ, inQ]
  (repeat refine AWp.seq ?_); refine AWp.region ?_
  refine rn 1 ?_
  refine AL.cons (OpTo.eqNil (es := l.map pageI) rfl rfl ti23 rfl (by simp only [engA, engL, engT, reduceIte, reduceCtorEq, Nat.reduceLT, Nat.reduceLeDiff, Nat.reduceAdd, Nat.reduceSub, Nat.reduceMul, Nat.reduceEqDiff, Nat.reduceBneDiff, Nat.le_refl, Bool.false_eq_true, Int.reduceLT, Int.reduceLE, Int.reduceAdd, Int.reduceSub, Int.reduceMul, Int.reduceToNat, Int.reduceEq, Int.cast_ofNat_Int, Int.reduceNeg]; rfl)) rfl ?_
  rintro T' L' ⟨b, hb, rfl, rfl⟩
  simp only [Av.put]
  refine AL.nil ?_; simp only [thenQ, inQ]
  (repeat refine AWp.seq ?_)
  refine AWp.cond (by simp only [engA, engL, engT, reduceIte, reduceCtorEq, Nat.reduceLT, Nat.reduceLeDiff, Nat.reduceAdd, Nat.reduceSub, Nat.reduceMul, Nat.reduceEqDiff, Nat.reduceBneDiff, Nat.le_refl, Bool.false_eq_true, Int.reduceLT, Int.reduceLE, Int.reduceAdd, Int.reduceSub, Int.reduceMul, Int.reduceToNat, Int.reduceEq, Int.cast_ofNat_Int, Int.reduceNeg]; rfl) (fun hb1 => ?_) (fun hb2 => ?_)
  · skip
    (repeat refine AWp.seq ?_); refine AWp.region ?_
    refine rn 1 ?_
    refine AL.nil ?_; simp only [thenQ, inQ]
    have hl : l = [] := by
      rcases l with _ | ⟨x, l⟩
      · rfl
      · have := hb (by simp); simp_all
    subst hl
    refine AWp.view [(2, .im (.sl 2 []))] ?_ ?_
    · intro k y hk
      simp only [Av.get] at hk
      split at hk
      · rename_i e; subst e; cases hk; exact ⟨_, by simp only [engA, engL, engT, reduceIte, reduceCtorEq, Nat.reduceLT, Nat.reduceLeDiff, Nat.reduceAdd, Nat.reduceSub, Nat.reduceMul, Nat.reduceEqDiff, Nat.reduceBneDiff, Nat.le_refl, Bool.false_eq_true, Int.reduceLT, Int.reduceLE, Int.reduceAdd, Int.reduceSub, Int.reduceMul, Int.reduceToNat, Int.reduceEq, Int.cast_ofNat_Int, Int.reduceNeg]; rfl, Vw.nil⟩
      · cases hk
    refine AWp.ret ?_; (try simp only [inQ, thenQ]); refine rret 0 ?_
    exact ⟨rfl, rfl⟩
  · skip
    (repeat refine AWp.seq ?_)
    refine AWp.skip ?_
    simp only [inQ, thenQ]
    (repeat refine AWp.seq ?_); refine AWp.region ?_
    refine AL.cons (OpTo.build0 rfl rfl ti23 rfl ti80) rfl ?_
    rintro T' L' ⟨rfl, rfl⟩
    simp only [Av.put]
    refine rn 1 ?_
    refine AL.cons (OpTo.append0 (es := l.map pageI) (te := _) rfl rfl ti23 rfl ti80 rfl ?a1 ?a4 ?a2 ?a3) rfl ?_
    case a1 => decide
    case a4 => decide
    case a2 => simp only [engA, engL, engT, reduceIte, reduceCtorEq, Nat.reduceLT, Nat.reduceLeDiff, Nat.reduceAdd, Nat.reduceSub, Nat.reduceMul, Nat.reduceEqDiff, Nat.reduceBneDiff, Nat.le_refl, Bool.false_eq_true, Int.reduceLT, Int.reduceLE, Int.reduceAdd, Int.reduceSub, Int.reduceMul, Int.reduceToNat, Int.reduceEq, Int.cast_ofNat_Int, Int.reduceNeg]
    case a3 => simp only [engA, engL, engT, reduceIte, reduceCtorEq, Nat.reduceLT, Nat.reduceLeDiff, Nat.reduceAdd, Nat.reduceSub, Nat.reduceMul, Nat.reduceEqDiff, Nat.reduceBneDiff, Nat.le_refl, Bool.false_eq_true, Int.reduceLT, Int.reduceLE, Int.reduceAdd, Int.reduceSub, Int.reduceMul, Int.reduceToNat, Int.reduceEq, Int.cast_ofNat_Int, Int.reduceNeg]; rfl
    rintro T' L' ⟨rfl, rfl⟩
    simp only [Av.put]
    refine rn 1 ?_
    refine AL.nil ?_; simp only [thenQ, inQ]
    refine AWp.ret ?_; (try simp only [inQ, thenQ]); refine rret 0 ?_
    exact ⟨rfl, rfl⟩

theorem c_slices_Clone_bool_bool (G : Globs) (l : List Bool) : ACall Tryz.prog G 48 [.im (bools l)] [] (fun r L' => r = .im (bools l) ∧ L' = []) := by
  refine ACall.enter Tryz.func48 rfl Tryz.ntmps48 (by rw [Tryz.results48]) (Nat.le_of_ble_eq_true rfl) rfl ?_
  (repeat refine AWp.seq ?_); refine AWp.region ?_
  refine rn 1 ?_
  refine AL.nil ?_; simp only [thenQ, inQ]
  (repeat refine AWp.seq ?_); refine AWp.region ?_
  refine rn 1 ?_
  refine AL.cons (OpTo.eqNil (es := l.map (fun n => [IV.bool n])) rfl rfl ti26 rfl (by simp only [engA, engL, engT, reduceIte, reduceCtorEq, Nat.reduceLT, Nat.reduceLeDiff, Nat.reduceAdd, Nat.reduceSub, Nat.reduceMul, Nat.reduceEqDiff, Nat.reduceBneDiff, Nat.le_refl, Bool.false_eq_true, Int.reduceLT, Int.reduceLE, Int.reduceAdd, Int.reduceSub, Int.reduceMul, Int.reduceToNat, Int.reduceEq, Int.cast_ofNat_Int, Int.reduceNeg]; rfl)) rfl ?_
  rintro T' L' ⟨b, hb, rfl, rfl⟩
  simp only [Av.put]
  refine AL.nil ?_; simp only [thenQ, inQ]
  (repeat refine AWp.seq ?_)
  refine AWp.cond (by simp only [engA, engL, engT, reduceIte, reduceCtorEq, Nat.reduceLT, Nat.reduceLeDiff, Nat.reduceAdd, Nat.reduceSub, Nat.reduceMul, Nat.reduceEqDiff, Nat.reduceBneDiff, Nat.le_refl, Bool.false_eq_true, Int.reduceLT, Int.reduceLE, Int.reduceAdd, Int.reduceSub, Int.reduceMul, Int.reduceToNat, Int.reduceEq, Int.cast_ofNat_Int, Int.reduceNeg]; rfl) (fun hb1 => ?_) (fun hb2 => ?_)
  · skip
    (repeat refine AWp.seq ?_); refine AWp.region ?_
    refine rn 1 ?_
    refine AL.nil ?_; simp only [thenQ, inQ]
    have hl : l = [] := by
      rcases l with _ | ⟨x, l⟩
      · rfl
      · have := hb (by simp); simp_all
    subst hl
    refine AWp.view [(2, .im (.sl 1 []))] ?_ ?_
    · intro k y hk
      simp only [Av.get] at hk
      split at hk
      · rename_i e; subst e; cases hk; exact ⟨_, by simp only [engA, engL, engT, reduceIte, reduceCtorEq, Nat.reduceLT, Nat.reduceLeDiff, Nat.reduceAdd, Nat.reduceSub, Nat.reduceMul, Nat.reduceEqDiff, Nat.reduceBneDiff, Nat.le_refl, Bool.false_eq_true, Int.reduceLT, Int.reduceLE, Int.reduceAdd, Int.reduceSub, Int.reduceMul, Int.reduceToNat, Int.reduceEq, Int.cast_ofNat_Int, Int.reduceNeg]; rfl, Vw.nil⟩
      · cases hk
    refine AWp.ret ?_; (try simp only [inQ, thenQ]); refine rret 0 ?_
    exact ⟨rfl, rfl⟩
  · skip
    (repeat refine AWp.seq ?_)
    refine AWp.skip ?_
    simp only [inQ, thenQ]
    (repeat refine AWp.seq ?_); refine AWp.region ?_
    refine AL.cons (OpTo.build0 rfl rfl ti26 rfl ti4) rfl ?_
    rintro T' L' ⟨rfl, rfl⟩
    simp only [Av.put]
    refine rn 1 ?_
    refine AL.cons (OpTo.append0 (es := l.map (fun n => [IV.bool n])) (te := _) rfl rfl ti26 rfl ti4 rfl ?a1 ?a4 ?a2 ?a3) rfl ?_
    case a1 => decide
    case a4 => decide
    case a2 => simp only [engA, engL, engT, reduceIte, reduceCtorEq, Nat.reduceLT, Nat.reduceLeDiff, Nat.reduceAdd, Nat.reduceSub, Nat.reduceMul, Nat.reduceEqDiff, Nat.reduceBneDiff, Nat.le_refl, Bool.false_eq_true, Int.reduceLT, Int.reduceLE, Int.reduceAdd, Int.reduceSub, Int.reduceMul, Int.reduceToNat, Int.reduceEq, Int.cast_ofNat_Int, Int.reduceNeg]
    case a3 => simp only [engA, engL, engT, reduceIte, reduceCtorEq, Nat.reduceLT, Nat.reduceLeDiff, Nat.reduceAdd, Nat.reduceSub, Nat.reduceMul, Nat.reduceEqDiff, Nat.reduceBneDiff, Nat.le_refl, Bool.false_eq_true, Int.reduceLT, Int.reduceLE, Int.reduceAdd, Int.reduceSub, Int.reduceMul, Int.reduceToNat, Int.reduceEq, Int.cast_ofNat_Int, Int.reduceNeg]; rfl
    rintro T' L' ⟨rfl, rfl⟩
    simp only [Av.put]
    refine rn 1 ?_
    refine AL.nil ?_; simp only [thenQ, inQ]
    refine AWp.ret ?_; (try simp only [inQ, thenQ]); refine rret 0 ?_
    exact ⟨rfl, rfl⟩

theorem c_slices_Clone_api_Op_api_Op (G : Globs) (l : List Opn) : ACall Tryz.prog G 49 [.im (opsI l)] [] (fun r L' => r = .im (opsI l) ∧ L' = []) := by
  refine ACall.enter Tryz.func49 rfl Tryz.ntmps49 (by rw [Tryz.results49]) (Nat.le_of_ble_eq_true rfl) rfl ?_
  (repeat refine AWp.seq ?_); refine AWp.region ?_
  refine rn 1 ?_
  refine AL.nil ?_; simp only [thenQ, inQ]
  (repeat refine AWp.seq ?_); refine AWp.region ?_
  refine rn 1 ?_
  refine AL.cons (OpTo.eqNil (es := l.map opI) rfl rfl ti32 rfl (by simp only [engA, engL, engT, reduceIte, reduceCtorEq, Nat.reduceLT, Nat.reduceLeDiff, Nat.reduceAdd, Nat.reduceSub, Nat.reduceMul, Nat.reduceEqDiff, Nat.reduceBneDiff, Nat.le_refl, Bool.false_eq_true, Int.reduceLT, Int.reduceLE, Int.reduceAdd, Int.reduceSub, Int.reduceMul, Int.reduceToNat, Int.reduceEq, Int.cast_ofNat_Int, Int.reduceNeg]; rfl)) rfl ?_
  rintro T' L' ⟨b, hb, rfl, rfl⟩
  simp only [Av.put]
  refine AL.nil ?_; simp only [thenQ, inQ]
  (repeat refine AWp.seq ?_)
  refine AWp.cond (by simp only [engA, engL, engT, reduceIte, reduceCtorEq, Nat.reduceLT, Nat.reduceLeDiff, Nat.reduceAdd, Nat.reduceSub, Nat.reduceMul, Nat.reduceEqDiff, Nat.reduceBneDiff, Nat.le_refl, Bool.false_eq_true, Int.reduceLT, Int.reduceLE, Int.reduceAdd, Int.reduceSub, Int.reduceMul, Int.reduceToNat, Int.reduceEq, Int.cast_ofNat_Int, Int.reduceNeg]; rfl) (fun hb1 => ?_) (fun hb2 => ?_)
  · skip
    (repeat refine AWp.seq ?_); refine AWp.region ?_
    refine rn 1 ?_
    refine AL.nil ?_; simp only [thenQ, inQ]
    have hl : l = [] := by
      rcases l with _ | ⟨x, l⟩
      · rfl
      · have := hb (by simp); simp_all
    subst hl
    refine AWp.view [(2, .im (.sl 4 []))] ?_ ?_
    · intro k y hk
      simp only [Av.get] at hk
      split at hk
      · rename_i e; subst e; cases hk; exact ⟨_, by simp only [engA, engL, engT, reduceIte, reduceCtorEq, Nat.reduceLT, Nat.reduceLeDiff, Nat.reduceAdd, Nat.reduceSub, Nat.reduceMul, Nat.reduceEqDiff, Nat.reduceBneDiff, Nat.le_refl, Bool.false_eq_true, Int.reduceLT, Int.reduceLE, Int.reduceAdd, Int.reduceSub, Int.reduceMul, Int.reduceToNat, Int.reduceEq, Int.cast_ofNat_Int, Int.reduceNeg]; rfl, Vw.nil⟩
      · cases hk
    refine AWp.ret ?_; (try simp only [inQ, thenQ]); refine rret 0 ?_
    exact ⟨rfl, rfl⟩
  · skip
    (repeat refine AWp.seq ?_)
    refine AWp.skip ?_
    simp only [inQ, thenQ]
    (repeat refine AWp.seq ?_); refine AWp.region ?_
    refine AL.cons (OpTo.build0 rfl rfl ti32 rfl ti64) rfl ?_
    rintro T' L' ⟨rfl, rfl⟩
    simp only [Av.put]
    refine rn 1 ?_
    refine AL.cons (OpTo.append0 (es := l.map opI) (te := _) rfl rfl ti32 rfl ti64 rfl ?a1 ?a4 ?a2 ?a3) rfl ?_
    case a1 => decide
    case a4 => decide
    case a2 => simp only [engA, engL, engT, reduceIte, reduceCtorEq, Nat.reduceLT, Nat.reduceLeDiff, Nat.reduceAdd, Nat.reduceSub, Nat.reduceMul, Nat.reduceEqDiff, Nat.reduceBneDiff, Nat.le_refl, Bool.false_eq_true, Int.reduceLT, Int.reduceLE, Int.reduceAdd, Int.reduceSub, Int.reduceMul, Int.reduceToNat, Int.reduceEq, Int.cast_ofNat_Int, Int.reduceNeg]
    case a3 => simp only [engA, engL, engT, reduceIte, reduceCtorEq, Nat.reduceLT, Nat.reduceLeDiff, Nat.reduceAdd, Nat.reduceSub, Nat.reduceMul, Nat.reduceEqDiff, Nat.reduceBneDiff, Nat.le_refl, Bool.false_eq_true, Int.reduceLT, Int.reduceLE, Int.reduceAdd, Int.reduceSub, Int.reduceMul, Int.reduceToNat, Int.reduceEq, Int.cast_ofNat_Int, Int.reduceNeg]; rfl
    rintro T' L' ⟨rfl, rfl⟩
    simp only [Av.put]
    refine rn 1 ?_
    refine AL.nil ?_; simp only [thenQ, inQ]
    refine AWp.ret ?_; (try simp only [inQ, thenQ]); refine rret 0 ?_
    exact ⟨rfl, rfl⟩

end Go.Proofs
end
