/- Part 15 of 22 of a proof: own engine, contracts and facts. -/
import Derived.Test.YtibcgaffjaekfaaGreatDoorPAJ
import Derived.Test.YtibcgaffjaekfaaGreatDoorPAM
import Derived.Test.YtibcgaffjaekfaaGreatDoorPAN
set_option linter.all false
section
set_option linter.unusedSimpArgs false
set_option maxRecDepth 20000
set_option maxHeartbeats 1000000
namespace Go.Proofs
open Go Av Rp
theorem s_all1 (G : Globs) (hG : List.lookup 0 G = some wordsI) (l : List Page) : SeqC Tryz.prog G 110 [] [.pt [pages l] 0] ((allCells l).map cellV) := by
  intro σ st step I K iy n hst hiy hK hy s0 hI
  have hlen : ∀ s, (st s).length = n := fun s => (hst s).1
  refine ACallK.enter Tryz.func110 rfl Tryz.ntmps110 (by rw [Tryz.results110]) (Nat.le_of_ble_eq_true rfl) (hst s0).2.1 (by rw [hlen]; exact hK) ?_
  have g0 : ∀ (s : σ) (B : List Blk), (st s ++ B)[n]? = B[0]? := fun s B => pre_get0 (hlen s)
  -- REGION 0
  (repeat refine AWp.seq ?_); refine AWp.region ?_
  refine rn 1 (k := ?_) (h := by simp (maxSteps := 3000000) only [hlen, engA, engL, engT, reduceIte, reduceCtorEq, Nat.reduceLT, Nat.reduceLeDiff, Nat.reduceAdd, Nat.reduceSub, Nat.reduceMul, Nat.reduceEqDiff, Nat.reduceBneDiff, Nat.le_refl, Bool.false_eq_true, Int.reduceLT, Int.reduceLE, Int.reduceAdd, Int.reduceSub, Int.reduceMul, Int.reduceToNat, Int.reduceEq, Int.cast_ofNat_Int, Int.reduceNeg] <;> rfl)
  refine AL.nil ?_; simp only [thenQ, inQ]
  -- REGION 1
  (repeat refine AWp.seq ?_); refine AWp.region ?_
  refine rn 1 ?_
  refine rcall Tryz.call94 (hC := c_pages_May G _) (kk := ?_); simp only [Av.put]
  refine rn 1 ?_
  refine AL.nil ?_; simp only [thenQ, inQ]
  (repeat refine AWp.seq ?_)
  refine rc (fun hb => ?_) (fun hb => ?_)
  · have hm : pagesMay l = false := by simpa using hb
    rw [allCells_off hm]
    refine AWp.ret ?_; (try simp only [inQ, thenQ])
    exact rretM (hlen s0) (hlen _) (hst _).2.1 (hst _).2.2 rfl rfl ⟨rfl, rfl⟩
  have hm : pagesMay l = true := by simpa using hb
  obtain ⟨hl1, hl64⟩ := pagesMay_len hm
  obtain ⟨cs, hcs⟩ : ∃ cs, cs = (allCells l).map cellV := ⟨_, rfl⟩
  have hcs' := hcs
  rw [allCells_on hm] at hcs'
  rw [← hcs] at hy ⊢
  obtain ⟨f, hf⟩ : ∃ f : Page × Nat → List SV, f = fun q => (onPage q.2 q.1).map cellV := ⟨_, rfl⟩
  have hcsf : cs = l.zipIdx.flatMap f := by rw [hcs', hf, List.map_flatMap]
  (repeat refine AWp.seq ?_)
  refine AWp.skip ?_
  (try simp only [inQ, thenQ])
  -- REGION 2
  (repeat refine AWp.seq ?_); refine AWp.region ?_
  refine rn 3 ?_
  refine AL.nil ?_; simp only [thenQ, inQ]
  (repeat refine AWp.seq ?_)
  refine AWp.block ?_
  (repeat refine AWp.seq ?_)
  refine AWp.loopS (σ := Nat × σ) (fun q => q.1 ≤ l.length ∧ I ((l.zipIdx.take q.1).flatMap f).length q.2 ∧ (runS step s0 cs).1 = (runS step q.2 ((l.zipIdx.drop q.1).flatMap f)).1) (fun q => l.length - q.1)
    (fun q => [(10, intv q.1), (9, intv l.length), (2, .loc n 0), (1, .im (.pt [pages l] 0))]) (fun q => st q.2 ++ (Blk.vars [.yl iy] 111 :: List.replicate q.1 .mark)) (0, s0) ⟨⟨Nat.zero_le _, hI, by rw [hcsf]; rfl⟩, (by simp only [engA, engL, engT, reduceIte, reduceCtorEq, Nat.reduceLT, Nat.reduceLeDiff, Nat.reduceAdd, Nat.reduceSub, Nat.reduceMul, Nat.reduceEqDiff, Nat.reduceBneDiff, Nat.le_refl, Bool.false_eq_true, Int.reduceLT, Int.reduceLE, Int.reduceAdd, Int.reduceSub, Int.reduceMul, Int.reduceToNat, Int.reduceEq, Int.cast_ofNat_Int, Int.reduceNeg, eq_self, and_self]), rfl⟩ ?_
  rintro ⟨i, s⟩ ⟨h1, h2, h3⟩
  simp only at h1 h2 h3 ⊢
  -- REGION 3
  (repeat refine AWp.seq ?_); refine AWp.region ?_
  refine rn 1 ?_
  refine AL.nil ?_; simp only [thenQ, inQ]
  (repeat refine AWp.seq ?_)
  refine rc (fun hb3 => ?_) (fun hb3 => ?_)
  · have hlt : i < l.length := by simp at hb3; omega
    obtain ⟨p, hx⟩ : ∃ p, l[i]? = some p := ⟨_, List.getElem?_eq_getElem hlt⟩
    have hz : l.zipIdx[i]? = some (p, i) := by simp [List.getElem?_zipIdx, hx]
    have hd : l.zipIdx.drop i = (p, i) :: l.zipIdx.drop (i + 1) := drop_cons hz
    have htk : l.zipIdx.take (i + 1) = l.zipIdx.take i ++ [(p, i)] := by rw [List.take_add_one, hz]; rfl
    have hfp : f (p, i) = (onPage i p).map cellV := by rw [hf]
    have hget : ∀ (j : Nat) (x : SV), (f (p, i))[j]? = some x → cs[((l.zipIdx.take i).flatMap f).length + j]? = some x := by
      intro j x hj
      have e : cs = (l.zipIdx.take i).flatMap f ++ (f (p, i) ++ (l.zipIdx.drop (i + 1)).flatMap f) := by
        rw [hcsf, ← List.flatMap_cons, ← hd, ← List.flatMap_append, List.take_append_drop]
      rw [e, List.getElem?_append_right (by omega), Nat.add_sub_cancel_left, List.getElem?_append_left (List.getElem?_eq_some_iff.1 hj).1]; exact hj
    have hrun := runS_append step (f (p, i)) ((l.zipIdx.drop (i + 1)).flatMap f) s
    rw [hd, List.flatMap_cons, hrun] at h3
    have e3 : IntKind.i64.wrap ((i : Int) + 1) = ((i + 1 : Nat) : Int) := by rw [wrap_id _ (by omega) (by omega)]; omega
    (repeat refine AWp.seq ?_)
    refine AWp.skip ?_
    (try simp only [inQ, thenQ])
    (repeat refine AWp.seq ?_)
    refine AWp.block ?_
    -- REGION 4
    (repeat refine AWp.seq ?_); refine AWp.region ?_
    refine rn 2 ?_
    refine AL.nil ?_; simp only [thenQ, inQ]
    -- REGION 5
    (repeat refine AWp.seq ?_); refine AWp.region ?_
    refine rn 2 ?_
    refine rcall Tryz.call111 (hC := c_cells_on G _ _) (kk := ?_); simp only [Av.put]
    refine AL.nil ?_; simp only [thenQ, inQ]
    (repeat refine AWp.seq ?_)
    refine AWp.block ?_
    refine AWp.keepE [15, 10, 9, 2, 1] (by simp only [keepT, engA, engL, engT, reduceIte, reduceCtorEq, Nat.reduceLT, Nat.reduceLeDiff, Nat.reduceAdd, Nat.reduceSub, Nat.reduceMul, Nat.reduceEqDiff, Nat.reduceBneDiff, Nat.le_refl, Bool.false_eq_true, Int.reduceLT, Int.reduceLE, Int.reduceAdd, Int.reduceSub, Int.reduceMul, Int.reduceToNat, Int.reduceEq, Int.cast_ofNat_Int, Int.reduceNeg] <;> rfl) ?_
    have hnm : ∀ s, noMarks (st s) = true := fun s => (hst s).2.1
    have hln : ∀ s, (st s ++ (Blk.vars [.yl iy] 111 :: List.replicate i .mark)).length = n + 1 + i := fun s => by simp [hlen]; omega
    refine AWp.rangeFunc (fun s => st s ++ (Blk.vars [.yl iy] 111 :: List.replicate i .mark)) step (fun j s => I (((l.zipIdx.take i).flatMap f).length + j) s) s (n + 1 + i) rfl rfl Tryz.call117
      (s_on1 G hG l i p hx (by omega) (fun hk => by have := pagesMay_arg hm p (List.mem_of_getElem? hx) hk; omega)) rfl (fun s' => ⟨hln s', ?_, ?_⟩) (Nat.le_trans hK (by omega)) (by show (st s0).length ≤ _; rw [hlen]; omega) (by show (16 : Nat) < 22; decide) ?_ ?_ h2 ?_ ?_ ?_
    · simp [nomark_map (hnm s'), nomark_map (hnm s), hlen]
    · rw [List.all_append]
      simp only [List.all_cons, Bool.and_eq_true]
      refine ⟨?_, ?_, ?_⟩
      · rw [List.all_eq_true]; intro k hk
        exact Blk.lt_mono (by omega) (List.all_eq_true.1 (hst s').2.2 k hk)
      · simp [Blk.lt, ltL, SV.lt]; omega
      · rw [List.all_eq_true]; intro k hk
        have := List.eq_of_mem_replicate hk; subst this; rfl
    · simp [boT, SV.bo]
    · simp [allT, SV.lt]; omega
    · rw [← hfp]
      intro j x s1 hj hI1
      obtain ⟨r1, r2⟩ := hy _ x s1 (hget j x hj) hI1
      refine ⟨r1, fun b => ?_⟩
      -- the round: all blocks laid out flat
      have hh : ∀ s', hideL (st s' ++ (Blk.vars [.yl iy] 111 :: List.replicate i .mark)) = st s' ++ (Blk.vars [.yl iy] 111 :: List.replicate i (.obj (.deferred (some [])))) := by
        intro s'
        have := hideL_id (hnm s')
        unfold hideL at this ⊢
        rw [List.map_append, this]; simp [Blk.hide]
      simp only [hh]
      obtain ⟨c, hc⟩ : ∃ c, x = cellV c := by
        rw [hfp, List.getElem?_map, Option.map_eq_some_iff] at hj
        obtain ⟨c, _, rfl⟩ := hj; exact ⟨c, rfl⟩
      generalize hlr : Blk.lp _ { N := _, s := LoopState.ready, p := _, ps := _, asg := _, body := _ } = lr
      generalize hlb : Blk.lp _ { N := _, s := LoopState.busy, p := _, ps := _, asg := _, body := _ } = lb
      have hlrl : ∀ T d, lr = Blk.lp T d → True := fun _ _ _ => trivial
      have hbo : Blk.bo n lb = true := by rw [← hlb]; simp [Blk.bo, allT, SV.bo]
      obtain ⟨c1, c2⟩ := c
      subst hc
      obtain ⟨R0, hR0⟩ : ∃ R0 : List Blk, R0 = List.replicate i (.obj (.deferred (some []))) ++ [.obj (.deferred (some []))] := ⟨_, rfl⟩
      have hR0l : R0.length = i + 1 := by simp [hR0]
      have hR0b : R0.all (Blk.bo n) = true := by
        rw [hR0, List.all_append, List.all_replicate]; simp [Blk.bo]
      have flat : ∀ (s' : σ) (k : Blk), st s' ++ Blk.vars [.yl iy] 111 :: List.replicate i (.obj (.deferred (some []))) ++ [.obj (.deferred (some []))] ++ [k] = (st s' ++ (Blk.vars [.yl iy] 111 :: R0)) ++ [k] := by
        intro s' k; rw [hR0]; simp
      simp only [flat]
      obtain ⟨m, hmm⟩ : ∃ m, m = n + 1 + i + 2 := ⟨_, rfl⟩
      have hm1 : n + 1 + i + 1 = m - 1 := by omega
      have hP : ∀ (s' : σ) (k : Blk), ((st s' ++ (Blk.vars [.yl iy] 111 :: R0)) ++ [k]).length = m := by intro s' k; simp [hlen, hR0l]; omega
      have hP0 : ∀ (s' : σ), (st s' ++ (Blk.vars [.yl iy] 111 :: R0)).length = n + 1 + i + 1 := by intro s'; simp [hlen, hR0l]; omega
      have p0 : ∀ (s' : σ) (k : Blk) (B : List Blk), (((st s' ++ (Blk.vars [.yl iy] 111 :: R0)) ++ [k]) ++ B)[m]? = B[0]? := fun s' k B => pre_get0 (hP s' k)
      have ps0 : ∀ (s' : σ) (k : Blk) (B : List Blk) (x : Blk), (((st s' ++ (Blk.vars [.yl iy] 111 :: R0)) ++ [k]) ++ B).set m x = ((st s' ++ (Blk.vars [.yl iy] 111 :: R0)) ++ [k]) ++ B.set 0 x := fun s' k B x => pre_set0 (hP s' k) x
      rw [← hmm]
      -- REGION 6
      (repeat refine AWp.seq ?_); refine AWp.region ?_
      refine rn 2 (k := ?_) (h := by simp (maxSteps := 3000000) only [hP, p0, ps0, engA, engL, engT, reduceIte, reduceCtorEq, Nat.reduceLT, Nat.reduceLeDiff, Nat.reduceAdd, Nat.reduceSub, Nat.reduceMul, Nat.reduceEqDiff, Nat.reduceBneDiff, Nat.le_refl, Bool.false_eq_true, Int.reduceLT, Int.reduceLE, Int.reduceAdd, Int.reduceSub, Int.reduceMul, Int.reduceToNat, Int.reduceEq, Int.cast_ofNat_Int, Int.reduceNeg] <;> rfl)
      refine AL.nil ?_; simp only [thenQ, inQ]
      refine ⟨trivial, ?_, ?_⟩
      · rw [List.append_assoc, List.getElem?_append_right (by rw [hP0]; omega), hP0]; simp
      have hset : ∀ B : List Blk, (((st s1 ++ (Blk.vars [.yl iy] 111 :: R0)) ++ [lr]) ++ B).set (n + 1 + i + 1) lb = st s1 ++ (Blk.vars [.yl iy] 111 :: (R0 ++ lb :: B)) := by
        intro B
        rw [List.append_assoc, List.set_append_right _ _ (by rw [hP0]; omega), hP0]; simp
      rw [hset]
      generalize hR : R0 ++ lb :: _ = R
      have hget : ∀ s', (st s' ++ (Blk.vars [.yl iy] 111 :: R))[m]? = some (.vars [intv c1, intv c2] 108) := by
        intro s'
        rw [← hR, show st s' ++ (Blk.vars [.yl iy] 111 :: (R0 ++ lb :: [Blk.vars [intv c1, intv c2] 108])) = ((st s' ++ (Blk.vars [.yl iy] 111 :: R0)) ++ [lb]) ++ [Blk.vars [intv c1, intv c2] 108] by simp]
        rw [p0]; rfl
      have hRb : (Blk.vars [SV.yl iy] 111 :: R).all (Blk.bo n) = true := by
        rw [← hR, List.all_cons, List.all_append, List.all_cons, hR0b, hbo]; rfl
      have htake : ∀ s', List.take m (st s' ++ (Blk.vars [.yl iy] 111 :: R)) = st s' ++ (Blk.vars [.yl iy] 111 :: R0) ++ [lb] := by
        intro s'
        rw [← hR, show st s' ++ (Blk.vars [.yl iy] 111 :: (R0 ++ lb :: [Blk.vars [intv c1, intv c2] 108])) = ((st s' ++ (Blk.vars [.yl iy] 111 :: R0)) ++ [lb]) ++ [Blk.vars [intv c1, intv c2] 108] by simp]
        rw [List.take_left' (hP s' lb)]
      refine AWp.block ?_
      -- REGION 7
      (repeat refine AWp.seq ?_); refine AWp.region ?_
      refine rn 2 (k := ?_) (h := by simp (maxSteps := 3000000) only [g0, hget, engA, engL, engT, reduceIte, reduceCtorEq, Nat.reduceLT, Nat.reduceLeDiff, Nat.reduceAdd, Nat.reduceSub, Nat.reduceMul, Nat.reduceEqDiff, Nat.reduceBneDiff, Nat.le_refl, Bool.false_eq_true, Int.reduceLT, Int.reduceLE, Int.reduceAdd, Int.reduceSub, Int.reduceMul, Int.reduceToNat, Int.reduceEq, Int.cast_ofNat_Int, Int.reduceNeg] <;> rfl)
      refine ryield r2 ?_ (hlen s1) hiy hK (hst s1).2.1 (hst s1).2.2 (hLx := hRb)
      simp only [Av.put]
      refine rn 1 ?_
      refine AL.nil ?_; simp only [thenQ, inQ]
      (repeat refine AWp.seq ?_)
      refine rc (fun hb4 => ?_) (fun hb4 => ?_)
      · have hgo : (step s1 (cellV (c1, c2))).2 = false := by have e : (!(step s1 (cellV (c1, c2))).2) = true := hb4; simpa using e
        refine AWp.ret ?_; simp only [inQ, thenQ]
        exact ⟨by rw [hgo]; rfl, htake _⟩
      · have hgo : (step s1 (cellV (c1, c2))).2 = true := by have e : (!(step s1 (cellV (c1, c2))).2) = false := hb4; simpa using e
        refine AWp.skip ?_; simp only [inQ, thenQ]
        exact ⟨by rw [hgo]; rfl, htake _⟩
    · rw [← hfp]
      intro hgo
      rw [hgo] at h3
      simp only [inQ, thenQ]
      -- REGION 8
      (repeat refine AWp.seq ?_); refine AWp.region ?_
      refine rn 2 (k := ?_) (h := by simp (maxSteps := 3000000) only [e3, engA, engL, engT, reduceIte, reduceCtorEq, Nat.reduceLT, Nat.reduceLeDiff, Nat.reduceAdd, Nat.reduceSub, Nat.reduceMul, Nat.reduceEqDiff, Nat.reduceBneDiff, Nat.le_refl, Bool.false_eq_true, Int.reduceLT, Int.reduceLE, Int.reduceAdd, Int.reduceSub, Int.reduceMul, Int.reduceToNat, Int.reduceEq, Int.cast_ofNat_Int, Int.reduceNeg] <;> rfl)
      refine AL.nil ?_; simp only [thenQ, inQ]
      (try simp only [inQ, thenQ])
      refine ⟨(i + 1, (runS step s (f (p, i))).1), ⟨hlt, ?_, ?_⟩, by simp only; omega, (by simp only [engA, engL, engT, reduceIte, reduceCtorEq, Nat.reduceLT, Nat.reduceLeDiff, Nat.reduceAdd, Nat.reduceSub, Nat.reduceMul, Nat.reduceEqDiff, Nat.reduceBneDiff, Nat.le_refl, Bool.false_eq_true, Int.reduceLT, Int.reduceLE, Int.reduceAdd, Int.reduceSub, Int.reduceMul, Int.reduceToNat, Int.reduceEq, Int.cast_ofNat_Int, Int.reduceNeg, eq_self, and_self]), by simp [List.replicate_succ']⟩
      · simp only
        rw [htk, List.flatMap_append, List.length_append]
        have := runS_inv step (fun j s => I (((l.zipIdx.take i).flatMap f).length + j) s) (f (p, i)) s h2 (fun j x s1 hj hI1 hgo1 => (hy _ x s1 (hget j x hj) hI1).1 hgo1) hgo
        simpa using this
      · exact h3
    · rw [← hfp]
      intro hgo
      rw [hgo] at h3
      simp only [inQ, thenQ]
      rw [List.append_assoc]
      refine rretM (hlen s0) (hlen _) (hst _).2.1 (hst _).2.2 rfl rfl ⟨rfl, ?_⟩
      rw [h3]; rfl
  · have hN : i = l.length := by simp at hb3; omega
    refine AWp.exit ?_
    simp only [inQ, thenQ, reduceIte, Nat.reduceEqDiff]
    refine rnorM (hlen s0) (hlen _) (hst _).2.1 (hst _).2.2 rfl rfl ⟨rfl, ?_⟩
    rw [h3, hN, List.drop_of_length_le (by simp)]; rfl
end Go.Proofs
end

section
set_option linter.unusedSimpArgs false
set_option maxRecDepth 20000
set_option maxHeartbeats 1000000
namespace Go.Proofs
open Go Av Rp
theorem c_cells_All (G : Globs) (l : List Page) (hG : List.lookup 0 G = some wordsI) : ACall Tryz.prog G 80 [.im (pages l)] [] (fun r L' => r = .im (ints (cellsAll l)) ∧ L' = []) := by
  refine ACallK.toC (ACallK.enter Tryz.func80 rfl Tryz.ntmps80 (by rw [Tryz.results80]) (Nat.le_of_ble_eq_true rfl) rfl (Nat.le_refl _) ?_)
  -- REGION 0
  (repeat refine AWp.seq ?_); refine AWp.region ?_
  refine rn 1 ?_
  refine AL.nil ?_; simp only [thenQ, inQ]
  -- REGION 1
  (repeat refine AWp.seq ?_); refine AWp.region ?_
  refine rn 1 ?_
  refine AL.nil ?_; simp only [thenQ, inQ]
  -- REGION 2
  (repeat refine AWp.seq ?_); refine AWp.region ?_
  refine rn 1 ?_
  refine rcall Tryz.call100 (hC := c_cells_all G _) (kk := ?_); simp only [Av.put]
  refine AL.nil ?_; simp only [thenQ, inQ]
  (repeat refine AWp.seq ?_)
  refine AWp.newAppV 1 3 0 0 rfl rfl ?_
  simp only [engA, engL, engT, reduceIte, reduceCtorEq, Nat.reduceLT, Nat.reduceLeDiff, Nat.reduceAdd, Nat.reduceSub, Nat.reduceMul, Nat.reduceEqDiff, Nat.reduceBneDiff, Nat.le_refl, Bool.false_eq_true, Int.reduceLT, Int.reduceLE, Int.reduceAdd, Int.reduceSub, Int.reduceMul, Int.reduceToNat, Int.reduceEq, Int.cast_ofNat_Int, Int.reduceNeg]
  refine AWp.block ?_
  refine AWp.keepE [6, 3] (by simp only [engA, engL, engT, reduceIte, reduceCtorEq, Nat.reduceLT, Nat.reduceLeDiff, Nat.reduceAdd, Nat.reduceSub, Nat.reduceMul, Nat.reduceEqDiff, Nat.reduceBneDiff, Nat.le_refl, Bool.false_eq_true, Int.reduceLT, Int.reduceLE, Int.reduceAdd, Int.reduceSub, Int.reduceMul, Int.reduceToNat, Int.reduceEq, Int.cast_ofNat_Int, Int.reduceNeg] <;> rfl) ?_
  refine AWp.rangeFunc (fun es : List Int => [.vars [.app 1] 22, .app 1 (es.map fun n => [.int n]) 3]) (fun es x => (es ++ [headInt x], true)) (fun j es => es = (cellsAll l).take j) [] 2 rfl rfl Tryz.call110
    (s_all1 G hG l) rfl (fun s' => ⟨rfl, rfl, rfl⟩) (Nat.zero_le _) (Nat.zero_le _) (by show (7 : Nat) < 14; decide) rfl rfl rfl ?_ ?_ ?_
  · intro j x es hj hes
    rw [List.getElem?_map, Option.map_eq_some_iff] at hj
    obtain ⟨c, hjc, rfl⟩ := hj
    have hjl : j < (allCells l).length := (List.getElem?_eq_some_iff.1 hjc).1
    have hl := allCells_len l
    refine ⟨fun _ => ?_, fun b => ?_⟩
    · rw [hes, headInt_cell, List.take_add_one]; simp [cellsAll, hjc]
    have hel : es.length ≤ 512 := by rw [hes]; simp [cellsAll]; omega
    clear hes
    rw [headInt_cell]
    obtain ⟨c1, c2⟩ := c
    generalize hlr : Blk.lp _ { N := _, s := LoopState.ready, p := _, ps := _, asg := _, body := _ } = lr
    generalize hlb : Blk.lp _ { N := _, s := LoopState.busy, p := _, ps := _, asg := _, body := _ } = lb
    have hkl : ∀ n, Blk.kl 1 n lb = lb := by intro n; rw [← hlb]; rfl
    simp only [engA, engL, engT, reduceIte, reduceCtorEq, Nat.reduceLT, Nat.reduceLeDiff, Nat.reduceAdd, Nat.reduceSub, Nat.reduceMul, Nat.reduceEqDiff, Nat.reduceBneDiff, Nat.le_refl, Bool.false_eq_true, Int.reduceLT, Int.reduceLE, Int.reduceAdd, Int.reduceSub, Int.reduceMul, Int.reduceToNat, Int.reduceEq, Int.cast_ofNat_Int, Int.reduceNeg, cellV, cellI, aggI]
    -- REGION 3
    (repeat refine AWp.seq ?_); refine AWp.region ?_
    refine rn 2 ?_
    refine AL.nil ?_; simp only [thenQ, inQ]
    refine ⟨trivial, rfl, ?_⟩
    simp only [engA, engL, engT, reduceIte, reduceCtorEq, Nat.reduceLT, Nat.reduceLeDiff, Nat.reduceAdd, Nat.reduceSub, Nat.reduceMul, Nat.reduceEqDiff, Nat.reduceBneDiff, Nat.le_refl, Bool.false_eq_true, Int.reduceLT, Int.reduceLE, Int.reduceAdd, Int.reduceSub, Int.reduceMul, Int.reduceToNat, Int.reduceEq, Int.cast_ofNat_Int, Int.reduceNeg]
    refine AWp.block ?_
    -- REGION 4
    (repeat refine AWp.seq ?_); refine AWp.region ?_
    refine rn 3 ?_
    refine rbuildN ti22 ti3 ?_
    simp only [Av.put]
    refine rappI (es := es.map fun n => [.int n]) (ys := [[.int c1]]) 1 ti22 ti3 (by simp [bigN]; omega) (Nat.zero_le _) ?_ (hLq := by simp only [hkl, engA, engL, engT, reduceIte, reduceCtorEq, Nat.reduceLT, Nat.reduceLeDiff, Nat.reduceAdd, Nat.reduceSub, Nat.reduceMul, Nat.reduceEqDiff, Nat.reduceBneDiff, Nat.le_refl, Bool.false_eq_true, Int.reduceLT, Int.reduceLE, Int.reduceAdd, Int.reduceSub, Int.reduceMul, Int.reduceToNat, Int.reduceEq, Int.cast_ofNat_Int, Int.reduceNeg] <;> rfl)
    refine rn 1 ?_
    refine AL.nil ?_
    simp only [inQ]
    exact ⟨by first | rfl | trivial, by simp only [engA, engL, engT, reduceIte, reduceCtorEq, Nat.reduceLT, Nat.reduceLeDiff, Nat.reduceAdd, Nat.reduceSub, Nat.reduceMul, Nat.reduceEqDiff, Nat.reduceBneDiff, Nat.le_refl, Bool.false_eq_true, Int.reduceLT, Int.reduceLE, Int.reduceAdd, Int.reduceSub, Int.reduceMul, Int.reduceToNat, Int.reduceEq, Int.cast_ofNat_Int, Int.reduceNeg, List.map_append]⟩
  · intro hgo
    have hr : (runS (fun (es : List Int) x => (es ++ [headInt x], true)) [] ((allCells l).map cellV)).1 = cellsAll l := by
      rw [runS_headInt]; simp [cellsAll, Function.comp_def, headInt_cell]
    have hl := allCells_len l
    rw [hr]
    simp only [inQ, thenQ, List.cons_append, List.nil_append]
    refine AWp.freeze 1 rfl (by simp [cellsAll, bigN]; omega) ?_
    simp only [frzT, frzB, SV.frz, frzL, Blk.frz, engA, engL, engT, reduceIte, reduceCtorEq, Nat.reduceLT, Nat.reduceLeDiff, Nat.reduceAdd, Nat.reduceSub, Nat.reduceMul, Nat.reduceEqDiff, Nat.reduceBneDiff, Nat.le_refl, Bool.false_eq_true, Int.reduceLT, Int.reduceLE, Int.reduceAdd, Int.reduceSub, Int.reduceMul, Int.reduceToNat, Int.reduceEq, Int.cast_ofNat_Int, Int.reduceNeg, List.map_cons, List.map_nil]
    -- REGION 5
    (repeat refine AWp.seq ?_); refine AWp.region ?_
    refine rn 2 ?_
    refine AL.nil ?_; simp only [thenQ, inQ]
    refine AWp.ret ?_
    exact ⟨0, _, Nat.le_refl _, rfl, rfl, rfl, rfl, rfl, rfl⟩
  · intro hgo
    rw [runS_headInt] at hgo; cases hgo
end Go.Proofs
end

section
set_option linter.unusedSimpArgs false
set_option maxRecDepth 20000
set_option maxHeartbeats 1000000
namespace Go.Proofs
open Go Av Rp
theorem c_cells_place_at (G : Globs) (a : Int) (c : Int × Int) : ACall Tryz.prog G 83 [intv a, cellV c] [] (fun r L' => r = boolv (decide (a = c.1)) ∧ L' = []) := by
  refine ACall.enter Tryz.func83 rfl Tryz.ntmps83 (by rw [Tryz.results83]) (Nat.le_of_ble_eq_true rfl) rfl ?_
  -- REGION 0
  (repeat refine AWp.seq ?_); refine AWp.region ?_
  refine rn 2 ?_
  refine AL.nil ?_; simp only [thenQ, inQ]
  -- REGION 1
  (repeat refine AWp.seq ?_); refine AWp.region ?_
  refine rn 5 ?_
  refine AL.nil ?_; simp only [thenQ, inQ]
  refine AWp.ret ?_; (try simp only [inQ, thenQ]); refine rret 0 ?_
  first | exact ⟨rfl, rfl⟩ | (refine ⟨?_, rfl⟩; simp only [pack])

theorem c_cells_first (G : Globs) (l : List Page) (hG : List.lookup 0 G = some wordsI) (k : FuncId) (fs caps : List IV) (p : Int × Int → Bool) (hrun : ∀ (vs : Array Value) (W : World), (callFunc k vs).run Tryz.prog W = .ok (.enter k vs) W)
    (hp : ∀ c, ACall Tryz.prog G k (fs.map .im ++ [cellV c] ++ caps.map .im) [] (fun r L' => r = boolv (p c) ∧ L' = [])) :
    ACall Tryz.prog G 82 [.im (pages l), .im (.fn k fs caps)] [] (fun r L' => r = .tup [cellV (first l p).1, boolv (first l p).2] ∧ L' = []) := by
  refine ACallK.toC (ACallK.enter Tryz.func82 rfl Tryz.ntmps82 (by rw [Tryz.results82]) (Nat.le_of_ble_eq_true rfl) rfl (Nat.le_refl _) ?_)
  -- REGION 0
  (repeat refine AWp.seq ?_); refine AWp.region ?_
  refine rn 3 ?_
  refine AL.nil ?_; simp only [thenQ, inQ]
  -- REGION 1
  (repeat refine AWp.seq ?_); refine AWp.region ?_
  refine rn 1 ?_
  refine rcall Tryz.call100 (hC := c_cells_all G _) (kk := ?_); simp only [Av.put]
  refine AL.nil ?_; simp only [thenQ, inQ]
  (repeat refine AWp.seq ?_)
  refine AWp.block ?_
  refine AWp.keepE [8, 5, 4, 3] (by simp only [engA, engL, engT, reduceIte, reduceCtorEq, Nat.reduceLT, Nat.reduceLeDiff, Nat.reduceAdd, Nat.reduceSub, Nat.reduceMul, Nat.reduceEqDiff, Nat.reduceBneDiff, Nat.le_refl, Bool.false_eq_true, Int.reduceLT, Int.reduceLE, Int.reduceAdd, Int.reduceSub, Int.reduceMul, Int.reduceToNat, Int.reduceEq, Int.cast_ofNat_Int, Int.reduceNeg] <;> rfl) ?_
  refine AWp.rangeFunc (fun s : Option (Int × Int) => [.vars [.im (.fn k fs caps)] 111, .vars [intv (s.getD (0, 0)).1, intv (s.getD (0, 0)).2] 108, .vars [boolv s.isSome] 4]) (firstStep p) (fun j s => s = none) none 3 rfl rfl Tryz.call110
    (s_all1 G hG l) rfl (fun s' => ⟨rfl, rfl, rfl⟩) (Nat.zero_le _) (Nat.zero_le _) (by show (9 : Nat) < 15; decide) rfl rfl rfl ?_ ?_ ?_
  · intro j x s hj hs
    rw [List.getElem?_map, Option.map_eq_some_iff] at hj
    obtain ⟨c, hjc, rfl⟩ := hj
    rw [firstStep_cell]
    refine ⟨fun h => ?_, fun b => ?_⟩
    · have hpc : p c = false := by simpa using h
      rw [hpc]; exact hs
    subst hs
    generalize hlr : Blk.lp _ { N := _, s := LoopState.ready, p := _, ps := _, asg := _, body := _ } = lr
    generalize hlb : Blk.lp _ { N := _, s := LoopState.busy, p := _, ps := _, asg := _, body := _ } = lb
    obtain ⟨c1, c2⟩ := c
    have hpc := hp (c1, c2)
    simp only [engA, engL, engT, reduceIte, reduceCtorEq, Nat.reduceLT, Nat.reduceLeDiff, Nat.reduceAdd, Nat.reduceSub, Nat.reduceMul, Nat.reduceEqDiff, Nat.reduceBneDiff, Nat.le_refl, Bool.false_eq_true, Int.reduceLT, Int.reduceLE, Int.reduceAdd, Int.reduceSub, Int.reduceMul, Int.reduceToNat, Int.reduceEq, Int.cast_ofNat_Int, Int.reduceNeg, cellV, cellI, aggI, Option.getD_none, Option.isSome_none] at hpc ⊢
    -- REGION 2
    (repeat refine AWp.seq ?_); refine AWp.region ?_
    refine rn 2 ?_
    refine AL.nil ?_; simp only [thenQ, inQ]
    refine ⟨trivial, rfl, ?_⟩
    simp only [engA, engL, engT, reduceIte, reduceCtorEq, Nat.reduceLT, Nat.reduceLeDiff, Nat.reduceAdd, Nat.reduceSub, Nat.reduceMul, Nat.reduceEqDiff, Nat.reduceBneDiff, Nat.le_refl, Bool.false_eq_true, Int.reduceLT, Int.reduceLE, Int.reduceAdd, Int.reduceSub, Int.reduceMul, Int.reduceToNat, Int.reduceEq, Int.cast_ofNat_Int, Int.reduceNeg]
    refine AWp.block ?_
    -- REGION 3
    (repeat refine AWp.seq ?_); refine AWp.region ?_
    refine rn 2 ?_
    refine rcall hrun (hC := hpc) (kk := ?_) (h1 := clL_call fs caps rfl); simp only [Av.put]
    refine AL.nil ?_; simp only [thenQ, inQ]
    (repeat refine AWp.seq ?_)
    refine rc (fun hb4 => ?_) (fun hb4 => ?_)
    · -- REGION 4
      (repeat refine AWp.seq ?_); refine AWp.region ?_
      refine rn 3 ?_
      refine AL.nil ?_; simp only [thenQ, inQ]
      refine AWp.ret ?_; simp only [inQ, thenQ]
      rw [hb4]
      exact ⟨by first | rfl | trivial, by simp only [engA, engL, engT, reduceIte, reduceCtorEq, Nat.reduceLT, Nat.reduceLeDiff, Nat.reduceAdd, Nat.reduceSub, Nat.reduceMul, Nat.reduceEqDiff, Nat.reduceBneDiff, Nat.le_refl, Bool.false_eq_true, Int.reduceLT, Int.reduceLE, Int.reduceAdd, Int.reduceSub, Int.reduceMul, Int.reduceToNat, Int.reduceEq, Int.cast_ofNat_Int, Int.reduceNeg, cond_true, Option.getD_some, Option.isSome_some]⟩
    · refine AWp.skip ?_; simp only [inQ, thenQ]
      rw [hb4]
      exact ⟨by first | rfl | trivial, by simp only [engA, engL, engT, reduceIte, reduceCtorEq, Nat.reduceLT, Nat.reduceLeDiff, Nat.reduceAdd, Nat.reduceSub, Nat.reduceMul, Nat.reduceEqDiff, Nat.reduceBneDiff, Nat.le_refl, Bool.false_eq_true, Int.reduceLT, Int.reduceLE, Int.reduceAdd, Int.reduceSub, Int.reduceMul, Int.reduceToNat, Int.reduceEq, Int.cast_ofNat_Int, Int.reduceNeg, cond_false, Option.getD_none, Option.isSome_none]⟩
  · intro hgo
    rw [runS_find] at hgo ⊢
    have hf : (allCells l).find? p = none := by
      cases h : (allCells l).find? p with
      | none => rfl
      | some c => rw [h] at hgo; cases hgo
    have hfi : first l p = ((0, 0), false) := by simp [first, hf]
    rw [hf, hfi]
    simp only [inQ, thenQ, List.cons_append, List.nil_append, Option.getD_none, Option.isSome_none]
    -- REGION 5
    (repeat refine AWp.seq ?_); refine AWp.region ?_
    refine rn 3 ?_
    refine AL.nil ?_; simp only [thenQ, inQ]
    refine AWp.ret ?_
    exact ⟨0, _, Nat.le_refl _, rfl, by simp only [engA, engL, engT, reduceIte, reduceCtorEq, Nat.reduceLT, Nat.reduceLeDiff, Nat.reduceAdd, Nat.reduceSub, Nat.reduceMul, Nat.reduceEqDiff, Nat.reduceBneDiff, Nat.le_refl, Bool.false_eq_true, Int.reduceLT, Int.reduceLE, Int.reduceAdd, Int.reduceSub, Int.reduceMul, Int.reduceToNat, Int.reduceEq, Int.cast_ofNat_Int, Int.reduceNeg] <;> rfl, rfl, rfl, rfl, rfl⟩
  · intro hgo
    rw [runS_find] at hgo ⊢
    obtain ⟨c, hf⟩ : ∃ c, (allCells l).find? p = some c := by
      cases h : (allCells l).find? p with
      | none => rw [h] at hgo; cases hgo
      | some c => exact ⟨c, rfl⟩
    have hfi : first l p = (c, true) := by simp [first, hf]
    rw [hf, hfi]
    simp only [inQ, thenQ, List.cons_append, List.nil_append, Option.getD_some, Option.isSome_some]
    exact ⟨0, _, Nat.le_refl _, rfl, by simp only [engA, engL, engT, reduceIte, reduceCtorEq, Nat.reduceLT, Nat.reduceLeDiff, Nat.reduceAdd, Nat.reduceSub, Nat.reduceMul, Nat.reduceEqDiff, Nat.reduceBneDiff, Nat.le_refl, Bool.false_eq_true, Int.reduceLT, Int.reduceLE, Int.reduceAdd, Int.reduceSub, Int.reduceMul, Int.reduceToNat, Int.reduceEq, Int.cast_ofNat_Int, Int.reduceNeg] <;> rfl, rfl, rfl, rfl, rfl⟩

end Go.Proofs
end

section
set_option linter.unusedSimpArgs false
set_option maxRecDepth 20000
set_option maxHeartbeats 1000000
namespace Go.Proofs
open Go Av Rp
theorem c_arena_May (G : Globs) (w : List Int) : ACall Tryz.prog G 93 [.im (ints w)] [] (fun r L' => r = boolv (arenaMay w) ∧ L' = []) := by
  refine ACall.enter Tryz.func93 rfl Tryz.ntmps93 (by rw [Tryz.results93]) (Nat.le_of_ble_eq_true rfl) rfl ?_
  refine AWp.big 0 rfl (fun hbig => ?_); replace hbig : w.length ≤ 274877906944 := by simpa [bigN] using hbig
  (repeat refine AWp.seq ?_); refine AWp.region ?_
  refine rn 1 ?_
  refine AL.nil ?_; simp only [thenQ, inQ]
  -- REGION 1
  (repeat refine AWp.seq ?_); refine AWp.region ?_
  refine rn 4 ?_
  refine rn 1 ?_
  refine rsp 7 (fun hb => ?_) (fun hb => ?_)
  · skip
    refine rn 3 ?_
    refine rcallG Tryz.call58 (hC := c_arena_pages G _) (kk := ?_); simp only [Av.put]
    refine rn 2 ?_
    refine AL.nil ?_; simp only [thenQ, inQ]
    refine AWp.ret ?_; (try simp only [inQ, thenQ]); refine rret 0 ?_
    rw [arenaMay_go w hbig]; first | exact ⟨rfl, rfl⟩ | (refine ⟨?_, rfl⟩; (try simp only [pack, engA, engL]); simp_all)
  · skip
    refine rn 4 ?_
    refine rn 2 ?_
    refine AL.nil ?_; simp only [thenQ, inQ]
    refine AWp.ret ?_; (try simp only [inQ, thenQ]); refine rret 0 ?_
    rw [arenaMay_go w hbig]; first | exact ⟨rfl, rfl⟩ | (refine ⟨?_, rfl⟩; (try simp only [pack, engA, engL]); simp_all)

theorem c_ragpickerref02_May (G : Globs) (w : List Int) : ACall Tryz.prog G 84 [.im (ints w)] [] (fun r L' => r = boolv (arenaMay w) ∧ L' = []) := by
  refine ACall.enter Tryz.func84 rfl Tryz.ntmps84 (by rw [Tryz.results84]) (Nat.le_of_ble_eq_true rfl) rfl ?_
  -- REGION 0
  (repeat refine AWp.seq ?_); refine AWp.region ?_
  refine rn 1 ?_
  refine AL.nil ?_; simp only [thenQ, inQ]
  -- REGION 1
  (repeat refine AWp.seq ?_); refine AWp.region ?_
  refine rn 4 ?_
  refine rsp 6 (fun hb => ?_) (fun hb => ?_)
  · skip
    refine rn 4 ?_
    refine rn 1 ?_
    refine rsp 11 (fun hb => ?_) (fun hb => ?_)
    · skip
      refine rn 4 ?_
      refine rn 2 ?_
      refine AL.nil ?_; simp only [thenQ, inQ]
      refine AWp.ret ?_; (try simp only [inQ, thenQ]); refine rret 0 ?_
      first | exact ⟨rfl, rfl⟩ | (refine ⟨?_, rfl⟩; (try simp only [pack, engA, engL]); (try simp_all [arenaMay_ref]) <;> first | omega | (rw [Bool.eq_iff_iff]; simp only [Bool.and_eq_true, Bool.or_eq_true, decide_eq_true_eq]; omega) | (simp only [decide_eq_decide]; omega))
    · skip
      refine rn 4 ?_
      refine rn 2 ?_
      refine AL.nil ?_; simp only [thenQ, inQ]
      refine AWp.ret ?_; (try simp only [inQ, thenQ]); refine rret 0 ?_
      first | exact ⟨rfl, rfl⟩ | (refine ⟨?_, rfl⟩; (try simp only [pack, engA, engL]); (try simp_all [arenaMay_ref]) <;> first | omega | (rw [Bool.eq_iff_iff]; simp only [Bool.and_eq_true, Bool.or_eq_true, decide_eq_true_eq]; omega) | (simp only [decide_eq_decide]; omega))
  · skip
    refine rn 4 ?_
    refine rn 4 ?_
    refine rn 3 ?_
    refine AL.nil ?_; simp only [thenQ, inQ]
    refine AWp.ret ?_; (try simp only [inQ, thenQ]); refine rret 0 ?_
    first | exact ⟨rfl, rfl⟩ | (refine ⟨?_, rfl⟩; (try simp only [pack, engA, engL]); (try simp_all [arenaMay_ref]) <;> first | omega | (rw [Bool.eq_iff_iff]; simp only [Bool.and_eq_true, Bool.or_eq_true, decide_eq_true_eq]; omega) | (simp only [decide_eq_decide]; omega))

theorem c_ragpickerref01_Word (G : Globs) (x : Head) (hx : x.may = true) : ACall Tryz.prog G 70 [headV x] [] (fun r L' => r = intv x.pack ∧ L' = []) := by
  refine ACall.enter Tryz.func70 rfl Tryz.ntmps70 (by rw [Tryz.results70]) (Nat.le_of_ble_eq_true rfl) rfl ?_
  -- REGION 0
  (repeat refine AWp.seq ?_); refine AWp.region ?_
  refine rn 2 ?_
  refine AL.nil ?_; simp only [thenQ, inQ]
  -- REGION 1
  (repeat refine AWp.seq ?_); refine AWp.region ?_
  refine rn 3 ?_
  refine AL.nil ?_; simp only [thenQ, inQ]
  (repeat refine AWp.seq ?_)
  refine rc (fun hb => ?_) (fun hb => ?_)
  · skip
    -- REGION 2
    (repeat refine AWp.seq ?_); refine AWp.region ?_
    refine rn 1 ?_
    refine AL.nil ?_; simp only [thenQ, inQ]
    refine AWp.ret ?_; (try simp only [inQ, thenQ]); refine rret 0 ?_
    refine ⟨?_, rfl⟩; simp only [pack]; first | (have h0 := Head.may_unused hx (by simp_all); subst h0; rfl) | (have h0 := Head.may_used hx (by simp_all); simp (disch := omega) only [wrap_id]; simp_all [Head.pack, bit]; (try omega))
  · skip
    (repeat refine AWp.seq ?_)
    refine AWp.skip ?_
    (try simp only [inQ, thenQ])
    -- REGION 3
    (repeat refine AWp.seq ?_); refine AWp.region ?_
    refine rn 4 ?_
    refine rn 4 ?_
    refine rn 4 ?_
    refine rn 1 ?_
    refine AL.nil ?_; simp only [thenQ, inQ]
    -- REGION 4
    (repeat refine AWp.seq ?_); refine AWp.region ?_
    refine rn 2 ?_
    refine AL.nil ?_; simp only [thenQ, inQ]
    (repeat refine AWp.seq ?_)
    refine rc (fun hb => ?_) (fun hb => ?_)
    · skip
      -- REGION 5
      (repeat refine AWp.seq ?_); refine AWp.region ?_
      refine rn 3 ?_
      refine AL.nil ?_; simp only [thenQ, inQ]
      -- REGION 6
      (repeat refine AWp.seq ?_); refine AWp.region ?_
      refine rn 2 ?_
      refine AL.nil ?_; simp only [thenQ, inQ]
      (repeat refine AWp.seq ?_)
      refine rc (fun hb => ?_) (fun hb => ?_)
      · skip
        -- REGION 7
        (repeat refine AWp.seq ?_); refine AWp.region ?_
        refine rn 3 ?_
        refine AL.nil ?_; simp only [thenQ, inQ]
        -- REGION 8
        (repeat refine AWp.seq ?_); refine AWp.region ?_
        refine rn 2 ?_
        refine AL.nil ?_; simp only [thenQ, inQ]
        refine AWp.ret ?_; (try simp only [inQ, thenQ]); refine rret 0 ?_
        refine ⟨?_, rfl⟩; simp only [pack]; first | (have h0 := Head.may_unused hx (by simp_all); subst h0; rfl) | (have h0 := Head.may_used hx (by simp_all); simp (disch := omega) only [wrap_id]; simp_all [Head.pack, bit]; (try omega))
      · skip
        (repeat refine AWp.seq ?_)
        refine AWp.skip ?_
        (try simp only [inQ, thenQ])
        -- REGION 8
        (repeat refine AWp.seq ?_); refine AWp.region ?_
        refine rn 2 ?_
        refine AL.nil ?_; simp only [thenQ, inQ]
        refine AWp.ret ?_; (try simp only [inQ, thenQ]); refine rret 0 ?_
        refine ⟨?_, rfl⟩; simp only [pack]; first | (have h0 := Head.may_unused hx (by simp_all); subst h0; rfl) | (have h0 := Head.may_used hx (by simp_all); simp (disch := omega) only [wrap_id]; simp_all [Head.pack, bit]; (try omega))
    · skip
      (repeat refine AWp.seq ?_)
      refine AWp.skip ?_
      (try simp only [inQ, thenQ])
      -- REGION 6
      (repeat refine AWp.seq ?_); refine AWp.region ?_
      refine rn 2 ?_
      refine AL.nil ?_; simp only [thenQ, inQ]
      (repeat refine AWp.seq ?_)
      refine rc (fun hb => ?_) (fun hb => ?_)
      · skip
        -- REGION 7
        (repeat refine AWp.seq ?_); refine AWp.region ?_
        refine rn 3 ?_
        refine AL.nil ?_; simp only [thenQ, inQ]
        -- REGION 8
        (repeat refine AWp.seq ?_); refine AWp.region ?_
        refine rn 2 ?_
        refine AL.nil ?_; simp only [thenQ, inQ]
        refine AWp.ret ?_; (try simp only [inQ, thenQ]); refine rret 0 ?_
        refine ⟨?_, rfl⟩; simp only [pack]; first | (have h0 := Head.may_unused hx (by simp_all); subst h0; rfl) | (have h0 := Head.may_used hx (by simp_all); simp (disch := omega) only [wrap_id]; simp_all [Head.pack, bit]; (try omega))
      · skip
        (repeat refine AWp.seq ?_)
        refine AWp.skip ?_
        (try simp only [inQ, thenQ])
        -- REGION 8
        (repeat refine AWp.seq ?_); refine AWp.region ?_
        refine rn 2 ?_
        refine AL.nil ?_; simp only [thenQ, inQ]
        refine AWp.ret ?_; (try simp only [inQ, thenQ]); refine rret 0 ?_
        refine ⟨?_, rfl⟩; simp only [pack]; first | (have h0 := Head.may_unused hx (by simp_all); subst h0; rfl) | (have h0 := Head.may_used hx (by simp_all); simp (disch := omega) only [wrap_id]; simp_all [Head.pack, bit]; (try omega))

theorem c_ragpickerref01_May (G : Globs) (x : Head) : ACall Tryz.prog G 69 [headV x] [] (fun r L' => r = boolv x.may ∧ L' = []) := by
  refine ACall.enter Tryz.func69 rfl Tryz.ntmps69 (by rw [Tryz.results69]) (Nat.le_of_ble_eq_true rfl) rfl ?_
  -- REGION 0
  (repeat refine AWp.seq ?_); refine AWp.region ?_
  refine rn 2 ?_
  refine AL.nil ?_; simp only [thenQ, inQ]
  -- REGION 1
  (repeat refine AWp.seq ?_); refine AWp.region ?_
  refine rn 4 ?_
  refine rsp 6 (fun hb => ?_) (fun hb => ?_)
  · skip
    refine rn 4 ?_
    refine rn 4 ?_
    refine rn 4 ?_
    refine rn 4 ?_
    refine rn 4 ?_
    refine rn 4 ?_
    refine AL.nil ?_; simp only [thenQ, inQ]
    (repeat refine AWp.seq ?_)
    refine rc (t := true) (fun hb => ?_) (fun hb => by cases hb)
    -- REGION 2
    (repeat refine AWp.seq ?_); refine AWp.region ?_
    refine rn 1 ?_
    refine AL.nil ?_; simp only [thenQ, inQ]
    refine AWp.ret ?_; (try simp only [inQ, thenQ]); refine rret 0 ?_
    first | exact ⟨rfl, rfl⟩ | (refine ⟨?_, rfl⟩; (try simp only [pack, engA, engL]); (try simp_all [Head.may_flat]) <;> first | omega | (rw [Bool.eq_iff_iff]; simp only [Bool.and_eq_true, Bool.or_eq_true, decide_eq_true_eq]; omega) | (simp only [decide_eq_decide]; omega))
  · skip
    refine rn 4 ?_
    refine rn 1 ?_
    refine rsp 11 (fun hb => ?_) (fun hb => ?_)
    · skip
      refine rn 4 ?_
      refine rn 4 ?_
      refine rn 4 ?_
      refine rn 4 ?_
      refine rn 3 ?_
      refine AL.nil ?_; simp only [thenQ, inQ]
      (repeat refine AWp.seq ?_)
      refine rc (t := true) (fun hb => ?_) (fun hb => by cases hb)
      -- REGION 2
      (repeat refine AWp.seq ?_); refine AWp.region ?_
      refine rn 1 ?_
      refine AL.nil ?_; simp only [thenQ, inQ]
      refine AWp.ret ?_; (try simp only [inQ, thenQ]); refine rret 0 ?_
      first | exact ⟨rfl, rfl⟩ | (refine ⟨?_, rfl⟩; (try simp only [pack, engA, engL]); (try simp_all [Head.may_flat]) <;> first | omega | (rw [Bool.eq_iff_iff]; simp only [Bool.and_eq_true, Bool.or_eq_true, decide_eq_true_eq]; omega) | (simp only [decide_eq_decide]; omega))
    · skip
      refine rn 4 ?_
      refine rn 1 ?_
      refine rsp 16 (fun hb => ?_) (fun hb => ?_)
      · skip
        refine rn 4 ?_
        refine rn 4 ?_
        refine rn 4 ?_
        refine rn 2 ?_
        refine AL.nil ?_; simp only [thenQ, inQ]
        (repeat refine AWp.seq ?_)
        refine rc (t := true) (fun hb => ?_) (fun hb => by cases hb)
        -- REGION 2
        (repeat refine AWp.seq ?_); refine AWp.region ?_
        refine rn 1 ?_
        refine AL.nil ?_; simp only [thenQ, inQ]
        refine AWp.ret ?_; (try simp only [inQ, thenQ]); refine rret 0 ?_
        first | exact ⟨rfl, rfl⟩ | (refine ⟨?_, rfl⟩; (try simp only [pack, engA, engL]); (try simp_all [Head.may_flat]) <;> first | omega | (rw [Bool.eq_iff_iff]; simp only [Bool.and_eq_true, Bool.or_eq_true, decide_eq_true_eq]; omega) | (simp only [decide_eq_decide]; omega))
      · skip
        refine rn 4 ?_
        refine rn 1 ?_
        refine rsp 21 (fun hb => ?_) (fun hb => ?_)
        · skip
          refine rn 4 ?_
          refine rn 4 ?_
          refine rn 1 ?_
          refine AL.nil ?_; simp only [thenQ, inQ]
          (repeat refine AWp.seq ?_)
          refine rc (t := true) (fun hb => ?_) (fun hb => by cases hb)
          -- REGION 2
          (repeat refine AWp.seq ?_); refine AWp.region ?_
          refine rn 1 ?_
          refine AL.nil ?_; simp only [thenQ, inQ]
          refine AWp.ret ?_; (try simp only [inQ, thenQ]); refine rret 0 ?_
          first | exact ⟨rfl, rfl⟩ | (refine ⟨?_, rfl⟩; (try simp only [pack, engA, engL]); (try simp_all [Head.may_flat]) <;> first | omega | (rw [Bool.eq_iff_iff]; simp only [Bool.and_eq_true, Bool.or_eq_true, decide_eq_true_eq]; omega) | (simp only [decide_eq_decide]; omega))
        · skip
          refine rn 4 ?_
          refine rn 1 ?_
          refine rsp 26 (fun hb => ?_) (fun hb => ?_)
          · skip
            refine rn 4 ?_
            refine AL.nil ?_; simp only [thenQ, inQ]
            (repeat refine AWp.seq ?_)
            refine rc (t := true) (fun hb => ?_) (fun hb => by cases hb)
            -- REGION 2
            (repeat refine AWp.seq ?_); refine AWp.region ?_
            refine rn 1 ?_
            refine AL.nil ?_; simp only [thenQ, inQ]
            refine AWp.ret ?_; (try simp only [inQ, thenQ]); refine rret 0 ?_
            first | exact ⟨rfl, rfl⟩ | (refine ⟨?_, rfl⟩; (try simp only [pack, engA, engL]); (try simp_all [Head.may_flat]) <;> first | omega | (rw [Bool.eq_iff_iff]; simp only [Bool.and_eq_true, Bool.or_eq_true, decide_eq_true_eq]; omega) | (simp only [decide_eq_decide]; omega))
          · skip
            refine rn 4 ?_
            refine AL.nil ?_; simp only [thenQ, inQ]
            (repeat refine AWp.seq ?_)
            refine rc (fun hb => ?_) (fun hb => ?_)
            · skip
              -- REGION 2
              (repeat refine AWp.seq ?_); refine AWp.region ?_
              refine rn 1 ?_
              refine AL.nil ?_; simp only [thenQ, inQ]
              refine AWp.ret ?_; (try simp only [inQ, thenQ]); refine rret 0 ?_
              first | exact ⟨rfl, rfl⟩ | (refine ⟨?_, rfl⟩; (try simp only [pack, engA, engL]); (try simp_all [Head.may_flat]) <;> first | omega | (rw [Bool.eq_iff_iff]; simp only [Bool.and_eq_true, Bool.or_eq_true, decide_eq_true_eq]; omega) | (simp only [decide_eq_decide]; omega))
            · skip
              (repeat refine AWp.seq ?_)
              refine AWp.skip ?_
              (try simp only [inQ, thenQ])
              -- REGION 3
              (repeat refine AWp.seq ?_); refine AWp.region ?_
              refine rn 3 ?_
              refine rsp 33 (fun hb => ?_) (fun hb => ?_)
              · skip
                refine rn 4 ?_
                refine rn 4 ?_
                refine rn 4 ?_
                refine rn 4 ?_
                refine rn 4 ?_
                refine rn 4 ?_
                refine rn 1 ?_
                refine AL.nil ?_; simp only [thenQ, inQ]
                refine AWp.ret ?_; (try simp only [inQ, thenQ]); refine rret 0 ?_
                first | exact ⟨rfl, rfl⟩ | (refine ⟨?_, rfl⟩; (try simp only [pack, engA, engL]); (try simp_all [Head.may_flat]) <;> first | omega | (rw [Bool.eq_iff_iff]; simp only [Bool.and_eq_true, Bool.or_eq_true, decide_eq_true_eq]; omega) | (simp only [decide_eq_decide]; omega))
              · skip
                refine rn 4 ?_
                refine rsp 37 (fun hb => ?_) (fun hb => ?_)
                · skip
                  refine rn 4 ?_
                  refine rn 1 ?_
                  refine rsp 42 (fun hb => ?_) (fun hb => ?_)
                  · skip
                    refine rn 4 ?_
                    refine rn 1 ?_
                    refine rsp 47 (fun hb => ?_) (fun hb => ?_)
                    · skip
                      refine rn 4 ?_
                      refine rn 1 ?_
                      refine rsp 52 (fun hb => ?_) (fun hb => ?_)
                      · skip
                        refine rn 4 ?_
                        refine rn 2 ?_
                        refine AL.nil ?_; simp only [thenQ, inQ]
                        refine AWp.ret ?_; (try simp only [inQ, thenQ]); refine rret 0 ?_
                        first | exact ⟨rfl, rfl⟩ | (refine ⟨?_, rfl⟩; (try simp only [pack, engA, engL]); (try simp_all [Head.may_flat]) <;> first | omega | (rw [Bool.eq_iff_iff]; simp only [Bool.and_eq_true, Bool.or_eq_true, decide_eq_true_eq]; omega) | (simp only [decide_eq_decide]; omega))
                      · skip
                        refine rn 4 ?_
                        refine rn 2 ?_
                        refine AL.nil ?_; simp only [thenQ, inQ]
                        refine AWp.ret ?_; (try simp only [inQ, thenQ]); refine rret 0 ?_
                        first | exact ⟨rfl, rfl⟩ | (refine ⟨?_, rfl⟩; (try simp only [pack, engA, engL]); (try simp_all [Head.may_flat]) <;> first | omega | (rw [Bool.eq_iff_iff]; simp only [Bool.and_eq_true, Bool.or_eq_true, decide_eq_true_eq]; omega) | (simp only [decide_eq_decide]; omega))
                    · skip
                      refine rn 4 ?_
                      refine rn 4 ?_
                      refine rn 3 ?_
                      refine AL.nil ?_; simp only [thenQ, inQ]
                      refine AWp.ret ?_; (try simp only [inQ, thenQ]); refine rret 0 ?_
                      first | exact ⟨rfl, rfl⟩ | (refine ⟨?_, rfl⟩; (try simp only [pack, engA, engL]); (try simp_all [Head.may_flat]) <;> first | omega | (rw [Bool.eq_iff_iff]; simp only [Bool.and_eq_true, Bool.or_eq_true, decide_eq_true_eq]; omega) | (simp only [decide_eq_decide]; omega))
                  · skip
                    refine rn 4 ?_
                    refine rn 4 ?_
                    refine rn 4 ?_
                    refine rn 4 ?_
                    refine AL.nil ?_; simp only [thenQ, inQ]
                    refine AWp.ret ?_; (try simp only [inQ, thenQ]); refine rret 0 ?_
                    first | exact ⟨rfl, rfl⟩ | (refine ⟨?_, rfl⟩; (try simp only [pack, engA, engL]); (try simp_all [Head.may_flat]) <;> first | omega | (rw [Bool.eq_iff_iff]; simp only [Bool.and_eq_true, Bool.or_eq_true, decide_eq_true_eq]; omega) | (simp only [decide_eq_decide]; omega))
                · skip
                  refine rn 4 ?_
                  refine rn 4 ?_
                  refine rn 4 ?_
                  refine rn 4 ?_
                  refine rn 4 ?_
                  refine rn 1 ?_
                  refine AL.nil ?_; simp only [thenQ, inQ]
                  refine AWp.ret ?_; (try simp only [inQ, thenQ]); refine rret 0 ?_
                  first | exact ⟨rfl, rfl⟩ | (refine ⟨?_, rfl⟩; (try simp only [pack, engA, engL]); (try simp_all [Head.may_flat]) <;> first | omega | (rw [Bool.eq_iff_iff]; simp only [Bool.and_eq_true, Bool.or_eq_true, decide_eq_true_eq]; omega) | (simp only [decide_eq_decide]; omega))

end Go.Proofs
end

section
set_option linter.unusedSimpArgs false
set_option maxRecDepth 20000
set_option maxHeartbeats 1000000
namespace Go.Proofs
open Go Av Rp
theorem c_cells_Room (G : Globs) (l : List Page) (a : Int) (hG : List.lookup 0 G = some wordsI) : ACall Tryz.prog G 63 [.im (pages l), intv a] [] (fun r L' => r = intv (room l a) ∧ L' = []) := by
  refine ACall.enter Tryz.func63 rfl Tryz.ntmps63 (by rw [Tryz.results63]) (Nat.le_of_ble_eq_true rfl) rfl ?_
  -- REGION 0
  (repeat refine AWp.seq ?_); refine AWp.region ?_
  refine rn 1 ?_
  refine AL.nil ?_; simp only [thenQ, inQ]
  -- REGION 1
  (repeat refine AWp.seq ?_); refine AWp.region ?_
  refine rn 3 ?_
  refine rcall Tryz.call82 (hC := c_cells_first G l hG 83 [.int a] [] (fun c => decide (a = c.1)) Tryz.call83 (fun c => c_cells_place_at G a c)) (kk := ?_); simp only [Av.put]
  refine rn 6 ?_
  refine AL.nil ?_; simp only [thenQ, inQ]
  -- REGION 2
  (repeat refine AWp.seq ?_); refine AWp.region ?_
  refine rn 3 ?_
  refine AL.nil ?_; simp only [thenQ, inQ]
  refine AWp.ret ?_; (try simp only [inQ, thenQ]); refine rret 0 ?_
  exact ⟨rfl, rfl⟩

theorem c_heap_shaped (G : Globs) (h : Heap) : ACall Tryz.prog G 74 [heapV h] [] (fun r L' => r = boolv h.shaped ∧ L' = []) := by
  refine ACall.enter Tryz.func74 rfl Tryz.ntmps74 (by rw [Tryz.results74]) (Nat.le_of_ble_eq_true rfl) rfl ?_
  -- REGION 0
  (repeat refine AWp.seq ?_); refine AWp.region ?_
  refine rn 2 ?_
  refine AL.nil ?_; simp only [thenQ, inQ]
  -- REGION 1
  (repeat refine AWp.seq ?_); refine AWp.region ?_
  refine rn 2 ?_
  refine rcall Tryz.call93 (hC := c_arena_May G _) (kk := ?_); simp only [Av.put]
  refine rn 1 ?_
  refine rsp 6 (fun hb => ?_) (fun hb => ?_)
  · skip
    refine rn 2 ?_
    refine rcallG Tryz.call94 (hC := c_pages_May G _) (kk := ?_); simp only [Av.put]
    refine rn 2 ?_
    refine rsp 11 (fun hb => ?_) (fun hb => ?_)
    · skip
      refine rn 8 ?_
      refine rn 2 ?_
      refine rsp 21 (fun hb => ?_) (fun hb => ?_)
      · skip
        refine rn 8 ?_
        refine rn 2 ?_
        refine AL.nil ?_; simp only [thenQ, inQ]
        refine AWp.ret ?_; (try simp only [inQ, thenQ]); refine rret 0 ?_
        first | exact ⟨rfl, rfl⟩ | (refine ⟨?_, rfl⟩; simp only [pack]; first | (rw [shaped_w (by assumption)]; done) | (rw [shaped_p (by assumption) (by assumption)]; done) | (rw [shaped_l (by assumption) (by assumption) (by assumption)]; done) | (rw [shaped_c (by assumption) (by assumption) (by assumption)]; done))
      · skip
        refine rn 9 ?_
        refine rn 1 ?_
        refine AL.nil ?_; simp only [thenQ, inQ]
        refine AWp.ret ?_; (try simp only [inQ, thenQ]); refine rret 0 ?_
        first | exact ⟨rfl, rfl⟩ | (refine ⟨?_, rfl⟩; simp only [pack]; first | (rw [shaped_w (by assumption)]; done) | (rw [shaped_p (by assumption) (by assumption)]; done) | (rw [shaped_l (by assumption) (by assumption) (by assumption)]; done) | (rw [shaped_c (by assumption) (by assumption) (by assumption)]; done))
    · skip
      refine rn 9 ?_
      refine rn 10 ?_
      refine rn 1 ?_
      refine AL.nil ?_; simp only [thenQ, inQ]
      refine AWp.ret ?_; (try simp only [inQ, thenQ]); refine rret 0 ?_
      first | exact ⟨rfl, rfl⟩ | (refine ⟨?_, rfl⟩; simp only [pack]; first | (rw [shaped_w (by assumption)]; done) | (rw [shaped_p (by assumption) (by assumption)]; done) | (rw [shaped_l (by assumption) (by assumption) (by assumption)]; done) | (rw [shaped_c (by assumption) (by assumption) (by assumption)]; done))
  · skip
    refine rn 14 ?_
    refine rn 10 ?_
    refine rn 1 ?_
    refine AL.nil ?_; simp only [thenQ, inQ]
    refine AWp.ret ?_; (try simp only [inQ, thenQ]); refine rret 0 ?_
    first | exact ⟨rfl, rfl⟩ | (refine ⟨?_, rfl⟩; simp only [pack]; first | (rw [shaped_w (by assumption)]; done) | (rw [shaped_p (by assumption) (by assumption)]; done) | (rw [shaped_l (by assumption) (by assumption) (by assumption)]; done) | (rw [shaped_c (by assumption) (by assumption) (by assumption)]; done))

end Go.Proofs
end

section
set_option linter.unusedSimpArgs false
set_option maxRecDepth 20000
set_option maxHeartbeats 1000000
namespace Go.Proofs
open Go Av Rp
theorem c_slices_IndexFunc_int_int (G : Globs) (l : List Int) (k : FuncId) (fs caps : List IV) (p : Int → Bool) (hrun : ∀ (vs : Array Value) (W : World), (callFunc k vs).run Tryz.prog W = .ok (.enter k vs) W) (hp : ∀ a, a ∈ l → ACall Tryz.prog G k (fs.map .im ++ [intv a] ++ caps.map .im) [] (fun r L' => r = boolv (p a) ∧ L' = [])) : ACall Tryz.prog G 109 [.im (ints l), .im (.fn k fs caps)] [] (fun r L' => r = intv (idxOf p l) ∧ L' = []) := by
  refine ACall.enter Tryz.func109 rfl Tryz.ntmps109 (by rw [Tryz.results109]) (Nat.le_of_ble_eq_true rfl) rfl ?_
  refine AWp.big 0 rfl (fun hbig => ?_); replace hbig : l.length ≤ 274877906944 := by simpa [bigN] using hbig
  (repeat refine AWp.seq ?_); refine AWp.region ?_
  refine rn 1 ?_
  refine AL.nil ?_; simp only [thenQ, inQ]
  -- REGION 1
  (repeat refine AWp.seq ?_); refine AWp.region ?_
  refine rn 3 ?_
  refine AL.nil ?_; simp only [thenQ, inQ]
  (repeat refine AWp.seq ?_)
  refine AWp.block ?_
  (repeat refine AWp.seq ?_)
  refine AWp.loopS (σ := Nat) (fun i => i ≤ l.length ∧ idxGo p (l.drop i) i = idxOf p l) (fun i => l.length - i) (fun i => [(8, intv i), (7, intv l.length), (6, .im (ints l)), (1, .im (.fn k fs caps)), (0, .im (ints l))]) (fun _ => []) 0 ⟨⟨Nat.zero_le _, rfl⟩, (by simp only [engA, engL, engT, reduceIte, reduceCtorEq, Nat.reduceLT, Nat.reduceLeDiff, Nat.reduceAdd, Nat.reduceSub, Nat.reduceMul, Nat.reduceEqDiff, Nat.reduceBneDiff, Nat.le_refl, Bool.false_eq_true, Int.reduceLT, Int.reduceLE, Int.reduceAdd, Int.reduceSub, Int.reduceMul, Int.reduceToNat, Int.reduceEq, Int.cast_ofNat_Int, Int.reduceNeg, eq_self, and_self]), rfl⟩ ?_
  rintro i ⟨h1, h2⟩
  -- REGION 2
  (repeat refine AWp.seq ?_); refine AWp.region ?_
  refine rn 1 ?_
  refine AL.nil ?_; simp only [thenQ, inQ]
  (repeat refine AWp.seq ?_)
  refine rc (fun hb => ?_) (fun hb => ?_)
  · skip
    (repeat refine AWp.seq ?_)
    refine AWp.skip ?_
    (try simp only [inQ, thenQ])
    (repeat refine AWp.seq ?_)
    refine AWp.block ?_
    have hlt : i < l.length := (by simp at hb; omega); obtain ⟨x, hx⟩ : ∃ x, l[i]? = some x := ⟨_, List.getElem?_eq_getElem hlt⟩; have hc : (0 ≤ (i : Int) ∧ (i : Int) < (l.length : Int)) = True := (by simp; omega); have hw : IntKind.i64.wrap ((i : Int) + 1) = ((i + 1 : Nat) : Int) := (by rw [wrap_id _ (by omega) (by omega)]; omega)
    (repeat refine AWp.seq ?_); refine AWp.region ?_
    refine rn 2 ?_
    refine AL.nil ?_; simp only [thenQ, inQ]
    -- REGION 4
    (repeat refine AWp.seq ?_); refine AWp.region ?_
    refine rn 5 (k := ?_) (h := by simp (maxSteps := 3000000) only [hc, hx, Int.toNat_natCast, List.getElem?_map, Nat.mul_one, Nat.div_one, Nat.mod_one, engA, engL, engT, reduceIte, reduceCtorEq, Nat.reduceLT, Nat.reduceLeDiff, Nat.reduceAdd, Nat.reduceSub, Nat.reduceMul, Nat.reduceEqDiff, Nat.reduceBneDiff, Nat.le_refl, Bool.false_eq_true, Int.reduceLT, Int.reduceLE, Int.reduceAdd, Int.reduceSub, Int.reduceMul, Int.reduceToNat, Int.reduceEq, Int.cast_ofNat_Int, Int.reduceNeg] <;> rfl)
    -- SPECIAL CALL t11 (t15)
    refine rcall hrun (hC := hp _ (List.mem_of_getElem? hx)) (kk := ?_) (h1 := clL_call fs caps rfl); simp only [Av.put]
    refine AL.nil ?_; simp only [thenQ, inQ]
    (repeat refine AWp.seq ?_)
    refine rc (fun hb => ?_) (fun hb => ?_)
    · skip
      -- REGION 5
      (repeat refine AWp.seq ?_); refine AWp.region ?_
      refine rn 2 ?_
      refine AL.nil ?_; simp only [thenQ, inQ]
      refine AWp.ret ?_; (try simp only [inQ, thenQ]); refine rret 0 ?_
      first | (rw [idx_hit h2 hx (by simpa using hb)]; exact ⟨rfl, rfl⟩) | (rw [idx_end h2 (by simp_all)]; exact ⟨rfl, rfl⟩)
    · skip
      (repeat refine AWp.seq ?_)
      refine AWp.skip ?_
      (try simp only [inQ, thenQ])
      -- REGION 6
      (repeat refine AWp.seq ?_); refine AWp.region ?_
      refine rn 2 (k := ?_) (h := by simp (maxSteps := 3000000) only [hw, engA, engL, engT, reduceIte, reduceCtorEq, Nat.reduceLT, Nat.reduceLeDiff, Nat.reduceAdd, Nat.reduceSub, Nat.reduceMul, Nat.reduceEqDiff, Nat.reduceBneDiff, Nat.le_refl, Bool.false_eq_true, Int.reduceLT, Int.reduceLE, Int.reduceAdd, Int.reduceSub, Int.reduceMul, Int.reduceToNat, Int.reduceEq, Int.cast_ofNat_Int, Int.reduceNeg] <;> rfl)
      refine AL.nil ?_; simp only [thenQ, inQ]
      (try simp only [inQ, thenQ])
      exact ⟨i + 1, ⟨hlt, idx_step h2 hx (by simpa using hb)⟩, by omega, (by simp only [engA, engL, engT, reduceIte, reduceCtorEq, Nat.reduceLT, Nat.reduceLeDiff, Nat.reduceAdd, Nat.reduceSub, Nat.reduceMul, Nat.reduceEqDiff, Nat.reduceBneDiff, Nat.le_refl, Bool.false_eq_true, Int.reduceLT, Int.reduceLE, Int.reduceAdd, Int.reduceSub, Int.reduceMul, Int.reduceToNat, Int.reduceEq, Int.cast_ofNat_Int, Int.reduceNeg, eq_self, and_self]), by first | rfl | trivial⟩
  · skip
    refine AWp.exit ?_
    simp only [inQ, thenQ, reduceIte, Nat.reduceEqDiff]
    -- REGION 7
    (repeat refine AWp.seq ?_); refine AWp.region ?_
    refine rn 1 ?_
    refine AL.nil ?_; simp only [thenQ, inQ]
    refine AWp.ret ?_; (try simp only [inQ, thenQ]); refine rret 0 ?_
    first | (rw [idx_hit h2 hx (by simpa using hb)]; exact ⟨rfl, rfl⟩) | (rw [idx_end h2 (by simp_all)]; exact ⟨rfl, rfl⟩)

theorem c_slices_ContainsFunc_int_int (G : Globs) (l : List Int) (k : FuncId) (fs caps : List IV) (p : Int → Bool) (hrun : ∀ (vs : Array Value) (W : World), (callFunc k vs).run Tryz.prog W = .ok (.enter k vs) W) (hp : ∀ a, a ∈ l → ACall Tryz.prog G k (fs.map .im ++ [intv a] ++ caps.map .im) [] (fun r L' => r = boolv (p a) ∧ L' = [])) : ACall Tryz.prog G 98 [.im (ints l), .im (.fn k fs caps)] [] (fun r L' => r = boolv (l.any p) ∧ L' = []) := by
  refine ACall.enter Tryz.func98 rfl Tryz.ntmps98 (by rw [Tryz.results98]) (Nat.le_of_ble_eq_true rfl) rfl ?_
  -- REGION 0
  (repeat refine AWp.seq ?_); refine AWp.region ?_
  refine rn 1 ?_
  refine AL.nil ?_; simp only [thenQ, inQ]
  -- REGION 1
  (repeat refine AWp.seq ?_); refine AWp.region ?_
  refine rn 2 ?_
  refine rcall Tryz.call109 (hC := c_slices_IndexFunc_int_int G l k fs caps p hrun hp) (kk := ?_); simp only [Av.put]
  refine rn 2 ?_
  refine AL.nil ?_; simp only [thenQ, inQ]
  refine AWp.ret ?_; (try simp only [inQ, thenQ]); refine rret 0 ?_
  refine ⟨?_, rfl⟩; rw [← idxGo_any p l 0]; rfl

theorem c_heap_every_1 (G : Globs) (a : Int) (k : FuncId) (fs caps : List IV) (p : Int → Bool) (hrun : ∀ (vs : Array Value) (W : World), (callFunc k vs).run Tryz.prog W = .ok (.enter k vs) W) (hp : ACall Tryz.prog G k (fs.map .im ++ [intv a] ++ caps.map .im) [] (fun r L' => r = boolv (p a) ∧ L' = [])) : ACall Tryz.prog G 99 [intv a, .im (.pt [.fn k fs caps] 0)] [] (fun r L' => r = boolv (!p a) ∧ L' = []) := by
  refine ACall.enter Tryz.func99 rfl Tryz.ntmps99 (by rw [Tryz.results99]) (Nat.le_of_ble_eq_true rfl) rfl ?_
  -- REGION 0
  (repeat refine AWp.seq ?_); refine AWp.region ?_
  refine rn 1 ?_
  refine AL.nil ?_; simp only [thenQ, inQ]
  -- REGION 1
  (repeat refine AWp.seq ?_); refine AWp.region ?_
  refine rn 2 ?_
  -- SPECIAL CALL t4 (t5)
  refine rcall hrun (hC := hp) (kk := ?_) (h1 := clL_call fs caps rfl); simp only [Av.put]
  refine rn 2 ?_
  refine AL.nil ?_; simp only [thenQ, inQ]
  refine AWp.ret ?_; (try simp only [inQ, thenQ]); refine rret 0 ?_
  exact ⟨rfl, rfl⟩

theorem c_heap_every (G : Globs) (l : List Int) (k : FuncId) (fs caps : List IV) (p : Int → Bool) (hrun : ∀ (vs : Array Value) (W : World), (callFunc k vs).run Tryz.prog W = .ok (.enter k vs) W) (hp : ∀ a, a ∈ l → ACall Tryz.prog G k (fs.map .im ++ [intv a] ++ caps.map .im) [] (fun r L' => r = boolv (p a) ∧ L' = [])) : ACall Tryz.prog G 79 [.im (ints l), .im (.fn k fs caps)] [] (fun r L' => r = boolv (l.all p) ∧ L' = []) := by
  refine ACall.enter Tryz.func79 rfl Tryz.ntmps79 (by rw [Tryz.results79]) (Nat.le_of_ble_eq_true rfl) rfl ?_
  -- REGION 0
  (repeat refine AWp.seq ?_); refine AWp.region ?_
  refine rn 2 ?_
  refine AL.nil ?_; simp only [thenQ, inQ]
  refine AWp.freezeV 0 (cs := [.fn k fs caps]) rfl ?_; simp only [frvT, frvB, SV.frv, frvL, Blk.frv, List.map_cons, List.map_nil, reduceIte, Nat.reduceEqDiff]
  (repeat refine AWp.seq ?_); refine AWp.region ?_
  refine rn 2 ?_
  refine rcall Tryz.call98 (hC := c_slices_ContainsFunc_int_int G l 99 [] [.pt [.fn k fs caps] 0] (fun a => !p a) Tryz.call99 (fun a ha => c_heap_every_1 G a k fs caps p hrun (hp a ha))) (kk := ?_); simp only [Av.put]
  refine rn 2 ?_
  refine AL.nil ?_; simp only [thenQ, inQ]
  refine AWp.ret ?_; (try simp only [inQ, thenQ]); refine rret 0 ?_
  refine ⟨?_, rfl⟩; simp only [pack]; rw [← not_any_not]

end Go.Proofs
end
