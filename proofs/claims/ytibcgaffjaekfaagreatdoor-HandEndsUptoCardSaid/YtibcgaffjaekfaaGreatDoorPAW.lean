/- Part 23 of 24 of a proof: own engine, contracts and facts. -/
import Derived.Test.YtibcgaffjaekfaaGreatDoorPAJ
import Derived.Test.YtibcgaffjaekfaaGreatDoorPAL
import Derived.Test.YtibcgaffjaekfaaGreatDoorPAM
import Derived.Test.YtibcgaffjaekfaaGreatDoorPAV
set_option linter.all false
section
/- The engine, part 33: append to nil. -/
set_option linter.all false
namespace Av
open Go
section
variable {C : Cx} {Q : QT} {T : Tm} {L : List Blk}
theorem OpTo.append1 {o : Oper} {t e : TypeId} {ti te : TI} {z : List Value} {x y : Operand} {es : List (List IV)} (ho : o.op = .call ⟨.builtin .append, #[x, y], #[t, t]⟩) (hd : dstOk C.N o.dst = true)
    (hti : tinfo C.P t = some ti) (hk : ti.kind = .slice e) (hte : tinfo C.P e = some te) (hz : te.zero = some z) (hb0 : te.bytes ≠ 0) (hb1 : te.bytes ≤ 512) (hx : aev C.G T x = some (.im (.v (.slice none 0 0))))
    (hy : aev C.G T y = some (.im (.sl te.size es))) :
    OpTo C o T L (fun T' L' => T' = put T o.dst (.im (.sl te.size es)) ∧ L' = L) := by
  intro β M a W hc next Qx hkk
  obtain ⟨d, h1, h2, h3, h4⟩ := run_underlying (W := W) hti
  have hd' : d = .slice e := by rw [hk] at h3; cases d <;> simp [kindOf] at h3; subst h3; rfl
  subst hd'
  have hx' : ∃ ad, a.eval x = .slice ad 0 0 := by
    have := hc.ev hx
    generalize a.eval x = u at this
    cases this with | im h => cases h with | v x => exact ⟨none, rfl⟩
  obtain ⟨ad, hxe⟩ := hx'
  have hyr : RI M W (.sl te.size es) (a.eval y) := by
    have := hc.ev hy
    cases this with | im h => exact h
  have hbig := hyr.big
  have hB : es.length * te.bytes ≤ 2 ^ 47 := by
    have h1 : es.length * te.bytes ≤ bigN * 512 := Nat.mul_le_mul hbig hb1
    have h2 : bigN * 512 = 2 ^ 47 := by simp [bigN]
    exact Nat.le_trans h1 (Nat.le_of_eq h2)
  obtain ⟨val, hfc, hlen, hval⟩ := run_firstCells (P := C.P) hyr
  obtain ⟨ad', cap', hye⟩ := hyr.len
  have hsz := run_sizeOf (W := W) hte
  have hlenOf : (Builtin.lenOf (a.eval y)).run C.P W = .ok es.length W := by rw [hye]; rfl
  rw [Oper.semAt_eq _ _ _ (fun c => by rw [ho]; exact fun e => by cases e)]
  by_cases he : es = []
  · subst he
    have hrun : (execOp a.eval o).run C.P W = .ok (.value (.slice ad 0 0)) W := by
      simp only [execOp, ho, resolve, Sem.run_pure, Sem.run_bind, Result.andThen_ok, invoke, builtin, List.map_toArray, List.map_cons, List.map_nil, Builtin.append_, List.getElem?_toArray,
        List.getElem?_cons_zero, List.getElem?_cons_succ, h1, hxe, hsz, Bool.false_eq_true, if_false, hlenOf, List.length_nil, Nat.add_zero, Nat.zero_add, Nat.le_refl, if_true, hfc, Bool.not_false,
        Nat.zero_mul, List.range_zero]
      have hfc0 : (Builtin.firstCells te.size 0 (a.eval y)).run C.P W = .ok #[] W := by simpa using hfc
      cases ad <;> simp [storeCells, hfc0]
    rw [hrun, Oper.uponIn_value]
    exact hkk _ _ _ _ _ _ ⟨rfl, rfl⟩ (hc.put (dstOk_spec hd) (.im (.emp _ _ _))) (Step.refl ..)
  · have hpos : 0 < es.length := List.length_pos_iff.2 he
    obtain ⟨zv, hzv, hzc⟩ := run_zeroValue (W := W.drew) hte hz
    obtain ⟨inf, hinf, hi1, hi2, hi3⟩ := run_typeInfo (W := W) hte
    obtain ⟨inf', hinf', hi1', hi2', hi3'⟩ := run_typeInfo (W := W.drew) hte
    have hcap : ∃ nc, es.length ≤ nc ∧ (choose (.appendCap es.length 0 e)).run C.P W = .ok nc W.drew := by
      refine ⟨(Question.appendCap es.length 0 e).cut (W.tape W.drawn (Question.appendCap es.length 0 e)), ?_, ?_⟩
      · simp [Question.cut]
      · simp [Question.forced]
    obtain ⟨nc, hnc, hch⟩ := hcap
    have hgrow : Builtin.nextslicecap es.length 0 = es.length := by
      unfold Builtin.nextslicecap; rw [if_pos (by omega)]
    have hfcd : (Builtin.firstCells te.size es.length (a.eval y)).run C.P W.drew = .ok ((List.range (es.length * te.size)).map val).toArray W.drew := by
      have hyr' : RI M W.drew (.sl te.size es) (a.eval y) := hyr.ext (W := W) (W' := W.drew) (Nat.le_refl W.heap.size) (fun _ _ h => ⟨rfl, h⟩)
      obtain ⟨ad2, cap2, val2, hu2, hne2, _, _⟩ := sl_cells hyr
      obtain ⟨b2, off2, rfl, hc2⟩ := hne2 he
      have e1 := run_loadCells (P := C.P) W ⟨b2, off2, none⟩ (es.length * te.size) val2 (fun j hj => by rw [add_mk]; exact hc2 j hj)
      have e2 := run_loadCells (P := C.P) W.drew ⟨b2, off2, none⟩ (es.length * te.size) val2 (fun j hj => by rw [add_mk]; exact hc2 j hj)
      rw [hu2] at hfc ⊢
      simp only [Builtin.firstCells] at hfc ⊢
      rw [e1] at hfc; rw [e2]
      simp only [Result.ok.injEq, and_true] at hfc
      rw [hfc]
    have hfco : (Builtin.firstCells te.size 0 (.slice ad 0 0)).run C.P W.drew = .ok #[] W.drew := by
      cases ad with
      | none => rfl
      | some ad => simp [Builtin.firstCells, loadCells, loadCellsFrom]
    have hrun : (execOp a.eval o).run C.P W = .ok (.value (.slice (some ⟨W.heap.size, 0, none⟩) es.length nc))
        (W.drew.alloc (.cells (((List.range (es.length * te.size)).map val).toArray ++ Builtin.zeroCells z.toArray (nc - es.length)) e)) := by
      simp only [execOp, ho, resolve, Sem.run_pure, Sem.run_bind, Result.andThen_ok, invoke, builtin, List.map_toArray, List.map_cons, List.map_nil, Builtin.append_, List.getElem?_toArray,
        List.getElem?_cons_zero, List.getElem?_cons_succ, h1, hxe, hsz, Bool.false_eq_true, if_false, hlenOf, Nat.zero_add, Bool.not_false, if_true]
      rw [if_neg (by omega)]
      simp only [hinf, Result.andThen_ok, Sem.run_bind, hi2, hb0, or_self, and_false, if_false, hgrow]
      rw [if_neg (by omega)]
      simp only [Sem.run_bind, hch, Result.andThen_ok, hinf', run_askRoom, hfco, hfcd, hzv, hzc, newRow, run_newObj, Sem.run_pure, Array.empty_append]
      rfl
    rw [hrun, Oper.uponIn_value]
    obtain ⟨c1, c2, c3, c4, c5⟩ := hc.fresh (K := C.K) (W' := W.drew.alloc _) (.cells (((List.range (es.length * te.size)).map val).toArray ++ Builtin.zeroCells z.toArray (nc - es.length)) e) (.inr rfl)
    refine hkk _ _ _ _ _ _ ⟨rfl, rfl⟩ (c1.put (dstOk_spec hd) (.im (.sl val c4 (fun h => h.2 rfl) hnc hbig hlen ?_ ?_))) c2
    · intro i en j c h1 h2
      have hi : i < es.length := (List.getElem?_eq_some_iff.1 h1).1
      have hj : j < te.size := by rw [← hlen en (List.mem_of_getElem? h1)]; exact (List.getElem?_eq_some_iff.1 h2).1
      have hlt : i * te.size + j < es.length * te.size := by
        calc i * te.size + j < i * te.size + te.size := by omega
          _ = (i + 1) * te.size := by rw [Nat.succ_mul]
          _ ≤ es.length * te.size := Nat.mul_le_mul_right _ hi
      rw [cell_of_heap c3, Nat.zero_add, Array.getElem?_append_left (by simpa using hlt)]
      simp [hlt]
    · intro i en j c h1 h2
      exact (hval i en j c h1 h2).ext (by omega) c5

end
end Av
end

section
set_option maxRecDepth 20000
set_option linter.all false
namespace Av
open Go Go.Proofs
section
variable {C : Cx} {Q : QT} {T : Tm} {L : List Blk}
theorem rapp1 {ops : Array Oper} {o : Oper} {rest : List Oper} {t e : TypeId} {x y : Operand} {ti te : TI} {z : List Value} {v : IV} {es : List (List IV)}
    (hti : tinfo C.P t = some ti) (hte : tinfo C.P e = some te) (kk : AL C ops Q rest (put T o.dst (.im v)) L)
    (ho : o.op = .call ⟨.builtin .append, #[x, y], #[t, t]⟩ := by rfl) (hg : o.guard = none := by rfl) (hd : dstOk C.N o.dst = true := by rfl) (hk : ti.kind = .slice e := by rfl) (hz : te.zero = some z := by rfl) (hb0 : te.bytes ≠ 0 := by decide) (hb1 : te.bytes ≤ 512 := by decide)
    (hx : aev C.G T x = some (.im (.v (.slice none 0 0))) := by simp only [engA, engL, engT, reduceIte, reduceCtorEq, Nat.reduceLT, Nat.reduceLeDiff, Nat.reduceAdd, Nat.reduceSub, Nat.reduceMul, Nat.reduceEqDiff, Nat.reduceBneDiff, Nat.le_refl, Bool.false_eq_true, Int.reduceLT, Int.reduceLE, Int.reduceAdd, Int.reduceSub, Int.reduceMul, Int.reduceToNat, Int.reduceEq, Int.cast_ofNat_Int, Int.reduceNeg] <;> rfl) (hy : aev C.G T y = some (.im v) := by simp only [engA, engL, engT, reduceIte, reduceCtorEq, Nat.reduceLT, Nat.reduceLeDiff, Nat.reduceAdd, Nat.reduceSub, Nat.reduceMul, Nat.reduceEqDiff, Nat.reduceBneDiff, Nat.le_refl, Bool.false_eq_true, Int.reduceLT, Int.reduceLE, Int.reduceAdd, Int.reduceSub, Int.reduceMul, Int.reduceToNat, Int.reduceEq, Int.cast_ofNat_Int, Int.reduceNeg] <;> rfl) (hv : v = .sl te.size es := by rfl) : AL C ops Q (o :: rest) T L := by
  subst hv
  refine AL.cons (OpTo.append1 ho hd hti hk hte hz hb0 hb1 hx hy) hg ?_
  rintro T2 L2 ⟨rfl, rfl⟩
  exact kk
end
end Av
end

section
set_option linter.all false
/- Plain laws on shading and answering: what they change, and that few answers suffice. -/
namespace Go.Proofs
open Go Av Rp
theorem raw_pack {x : Head} (h : x.may = true) (hu : x.used = true) : Head.raw x.pack = x := by
  obtain ⟨u, o, d, n, b, m⟩ := x
  simp only at hu; subst hu
  simp only [Head.may, inR, if_true, Bool.and_eq_true, decide_eq_true_eq] at h
  simp only [Head.raw, Head.pack, bit, if_true, Head.mk.injEq]
  cases o <;> cases d <;> simp <;> omega
theorem unpack_pack {x : Head} (h : x.may = true) (hu : x.used = true) : unpackOk x.pack = true ∧ unpack x.pack = x := by
  have h1 : unpackOk x.pack = true := by rw [unpackOk_eq, raw_pack h hu]; exact h
  exact ⟨h1, by unfold unpack; rw [if_pos h1, raw_pack h hu]⟩
theorem used_ne {w : Int} (h : (unpack w).used = true) : w ≠ 0 := by rintro rfl; rw [unpack_zero.2] at h; simp [Head.zero] at h
theorem used_may {w : Int} (h : (unpack w).used = true) : (unpack w).may = true := by
  unfold unpack at h ⊢
  split at h
  · rename_i h1; rw [if_pos h1]; rw [unpackOk_eq] at h1; exact h1
  · simp [Head.zero] at h
/-- the head that a shading lays -/
def shd (x : Head) (e : Int) : Head := { x with mark := e, done := false }
theorem shd_may {x : Head} {e : Int} (h : x.may = true) (hu : x.used = true) (he : 0 ≤ e ∧ e ≤ 1048576) : (shd x e).may = true := by
  simp only [Head.may, shd, hu, if_true, inR, Bool.and_eq_true, decide_eq_true_eq] at h ⊢
  omega

/-- what a new head of the same length leaves as it was -/
theorem setW_word {h : Heap} {a b v : Int} (ha : 16 ≤ a) (hb : 16 ≤ b) (hne : b ≠ a) : (h.setW a v).word b = h.word b := by
  simp only [Heap.word, Heap.setW, List.getD, List.getElem?_set]
  rw [if_neg (by omega)]
theorem setW_word_self {h : Heap} {a v : Int} (ha : 16 ≤ a) (hl : a - 16 < h.W.length) : (h.setW a v).word a = v := by
  simp only [Heap.word, Heap.setW, List.getD, List.getElem?_set]
  rw [if_pos trivial, if_pos (by omega)]; rfl
theorem setW_may {h : Heap} {a : Int} {x : Head} (hm : h.may [] = true) (ha : a ∈ cellsAll h.P) (hu : (unpack (h.word a)).used = true) (hx : x.may = true) (hxu : x.used = true) (hn : x.n = (unpack (h.word a)).n) : (h.setW a x.pack).may [] = true := by
  have hs := may_shaped hm
  obtain ⟨r1, r2, r3, r4⟩ := cell_range hs ha
  obtain ⟨u1, u2⟩ := unpack_pack hx hxu
  simp only [Heap.may, Bool.and_eq_true, List.all_eq_true] at hm ⊢
  obtain ⟨⟨⟨m1, m2⟩, m3⟩, m4⟩ := hm
  have hfree : ∀ c b, h.isFree c b = true → (h.setW a x.pack).isFree c b = true := by
    intro c b hb
    simp only [Heap.isFree, Bool.and_eq_true, decide_eq_true_eq] at hb ⊢
    have hbm := room_pos.1 hb.1.1
    have hb16 := (cellsAll_in hbm).1
    have hne : b ≠ a := by rintro rfl; exact used_ne hu hb.2
    exact ⟨⟨hb.1.1, hb.1.2⟩, by rw [setW_word r1 hb16 hne]; exact hb.2⟩
  refine ⟨⟨⟨?_, ?_⟩, ?_⟩, m4⟩
  · simp only [Heap.shaped, Heap.setW, List.length_set] at m1 ⊢
    simp only [Bool.and_eq_true, arenaMay, List.length_set] at m1 ⊢
    exact m1
  · intro l hl
    have hl' := m2 l hl
    simp only [Heap.listed, Bool.and_eq_true, List.all_eq_true] at hl' ⊢
    exact ⟨⟨fun b hb => hfree _ b (hl'.1.1 b hb), fun b hb => hfree _ b (hl'.1.2 b hb)⟩, fun b hb => hfree _ b (hl'.2 b hb)⟩
  · intro b hb
    have hb' : b ∈ cellsAll h.P := hb
    have hc := m3 b hb'
    by_cases e : b = a
    · subst e
      simp only [Heap.cellOk, setW_word_self r1 r2, u1, u2, hxu, Bool.not_true, Bool.false_and, Bool.false_or, Bool.true_and, hn] at hc ⊢
      rw [hu] at hc
      simp only [Bool.not_true, Bool.false_and, Bool.false_or, Bool.true_and, Bool.and_eq_true] at hc
      exact hc.2
    · have : (h.setW a x.pack).cellOk b = h.cellOk b := by
        simp only [Heap.cellOk]; rw [setW_word r1 (cellsAll_in hb').1 e]; rfl
      rw [this]; exact hc
theorem setW_head {h : Heap} {a : Int} {x : Head} (hm : h.may [] = true) (ha : a ∈ cellsAll h.P) (hu : (unpack (h.word a)).used = true) (hx : x.may = true) (hxu : x.used = true) (hn : x.n = (unpack (h.word a)).n) (b : Int) :
    (h.setW a x.pack).head b = if b = a then (x, 0) else h.head b := by
  have hm' := setW_may hm ha hu hx hxu hn
  have hs := may_shaped hm
  obtain ⟨r1, r2, r3, r4⟩ := cell_range hs ha
  obtain ⟨u1, u2⟩ := unpack_pack hx hxu
  have hr : room (h.setW a x.pack).P b = room h.P b := rfl
  split
  · rename_i e; subst e
    have h0 : room h.P b ≠ 0 := by have := room_pos.2 ha; omega
    rw [head_ok (by rw [hm']; rfl) (by rw [hr]; simpa using h0) (by rw [setW_word_self r1 r2, u2, hxu]; rfl), setW_word_self r1 r2, u2]
  · rename_i e
    simp only [Heap.head, hm', hm, hr]
    by_cases h0 : room h.P b = 0
    · simp [h0]
    · have hb := (cellsAll_in (room_mem h0)).1
      rw [setW_word r1 hb e]

theorem white_facts {h : Heap} {c : Col} {a : Int} (hw : colAt h c a = 1) : (h.head a).2 = 0 ∧ 0 ≤ c.epoch ∧ c.epoch ≤ 1048576 ∧ colour c (h.head a).1 = 1 := by
  unfold colAt at hw
  split at hw
  · omega
  · rename_i h0
    refine ⟨by simpa using h0, ?_⟩
    unfold colour at hw
    split at hw
    · omega
    · rename_i h1
      simp only [Bool.or_eq_true, decide_eq_true_eq, not_or] at h1
      refine ⟨by omega, by omega, ?_⟩
      unfold colour
      rw [if_neg (by simp only [Bool.or_eq_true, decide_eq_true_eq, not_or]; exact h1)]; exact hw
/-- what a shading does where something is white -/
theorem shade_white {h : Heap} {c : Col} {a : Int} (hw : colAt h c a = 1) :
    h.may [] = true ∧ a ∈ cellsAll h.P ∧ (unpack (h.word a)).used = true ∧ (shd (unpack (h.word a)) c.epoch).may = true ∧ (shade h c a).1 = h.setW a (shd (unpack (h.word a)) c.epoch).pack := by
  obtain ⟨h0, e0, e1, hc⟩ := white_facts hw
  obtain ⟨hm, ha, hx, hu⟩ := head_ok_facts h0
  have hmay := shd_may (used_may hu) hu ⟨e0, e1⟩
  refine ⟨hm, ha, hu, hmay, ?_⟩
  have hset : h.set a (shd (unpack (h.word a)) c.epoch) = (h.setW a (shd (unpack (h.word a)) c.epoch).pack, 0) :=
    set_ok (by rw [h0]; rfl) hmay (by simp [shd, hu]) (by rw [hx]; simp [shd])
  unfold shade
  rw [if_neg (by simp [hw]), hx]
  show (h.set a (shd (unpack (h.word a)) c.epoch)).1 = _
  rw [hset]
theorem shade_col (h : Heap) (c : Col) (a : Int) : (shade h c a).2.phase = c.phase ∧ (shade h c a).2.epoch = c.epoch ∧ (shade h c a).2.major = c.major ∧ (shade h c a).2.work.length ≤ c.work.length + 1 := by
  unfold shade
  split
  · exact ⟨rfl, rfl, rfl, Nat.le_succ _⟩
  · split
    · exact ⟨rfl, rfl, rfl, by simp⟩
    · exact ⟨rfl, rfl, rfl, by simp⟩

/-- the collector's colours go by its epoch and by its kind alone -/
theorem colour_cong {c d : Col} (h1 : d.epoch = c.epoch) (h2 : d.major = c.major) (x : Head) : colour d x = colour c x := by
  unfold colour; rw [h1, h2]
theorem colAt_cong {c d : Col} (h1 : d.epoch = c.epoch) (h2 : d.major = c.major) (h : Heap) (a : Int) : colAt h d a = colAt h c a := by
  unfold colAt; rw [colour_cong h1 h2]

/-- what a run of answers keeps -/
structure Kept (h : Heap) (c : Col) (k : Heap) (d : Col) : Prop where
  phase : d.phase = c.phase
  epoch : d.epoch = c.epoch
  major : d.major = c.major
  F : k.F = h.F
  P : k.P = h.P
  C : k.C = h.C
  len : k.W.length = h.W.length
  white : ∀ b, colAt k d b = 1 → colAt h c b = 1
  word : ∀ i : Nat, k.W[i]? ≠ h.W[i]? → colAt h c (16 + i) = 1
theorem Kept.refl (h : Heap) (c : Col) : Kept h c h c := ⟨rfl, rfl, rfl, rfl, rfl, rfl, rfl, fun _ h => h, fun i h => absurd rfl h⟩
theorem shd_col {c : Col} {x : Head} : colour c (shd x c.epoch) ≠ 1 := by
  unfold colour shd
  simp only [Int.lt_irrefl, if_false]
  split
  · decide
  · simp
theorem Kept.shade {h : Heap} {c : Col} {k : Heap} {d : Col} (K : Kept h c k d) (a : Int) : Kept h c (shade k d a).1 (shade k d a).2 := by
  obtain ⟨s1, s2, s3, _⟩ := shade_col k d a
  by_cases hw : colAt k d a = 1
  · obtain ⟨hm, ha, hu, hmay, he⟩ := shade_white hw
    have hsu : (shd (unpack (k.word a)) d.epoch).used = true := hu
    have hhd := setW_head hm ha hu hmay hsu rfl
    obtain ⟨r1, r2, r3, r4⟩ := cell_range (may_shaped hm) ha
    refine ⟨s1.trans K.phase, s2.trans K.epoch, s3.trans K.major, ?_, ?_, ?_, ?_, fun b hb => ?_, fun i hi => ?_⟩
    · rw [he]; exact K.F
    · rw [he]; exact K.P
    · rw [he]; exact K.C
    · rw [he]; simp only [Heap.setW, List.length_set]; exact K.len
    · rw [colAt_cong s2 s3, he] at hb
      by_cases e : b = a
      · subst e; exact K.white b hw
      · refine K.white b ?_
        unfold colAt at hb ⊢
        rw [hhd b, if_neg e] at hb; exact hb
    · rw [he] at hi
      by_cases e : i = (a - 16).toNat
      · have : (16 + (i : Int)) = a := by omega
        rw [this]; exact K.white a hw
      · refine K.word i ?_
        simp only [Heap.setW, List.getElem?_set] at hi
        rw [if_neg (fun h => e h.symm)] at hi; exact hi
  · have : Rp.shade k d a = (k, d) := by unfold Rp.shade; rw [if_pos hw]
    rw [this]; exact K
end Go.Proofs
end

section
set_option linter.all false
/- Plain laws: a run of answers. -/
namespace Go.Proofs
open Go Av Rp
def ans6 : Nat → Heap → Col → Thread → Heap × Col × Thread
  | 0, h, c, t => (h, c, t)
  | n + 1, h, c, t => if asked c t = true then ans6 n (answer h c t).1 (answer h c t).2.1 (answer h c t).2.2 else (h, c, t)
/-- what stays of a thread that answers -/
structure TKept (t u : Thread) : Prop where
  live : u.live = t.live
  r0 : u.r0 = t.r0
  r1 : u.r1 = t.r1
  r2 : u.r2 = t.r2
  r3 : u.r3 = t.r3
  do_ : u.do_ = t.do_
  pc : u.pc = t.pc
  may : t.may = true → u.may = true
theorem TKept.refl (t : Thread) : TKept t t := ⟨rfl, rfl, rfl, rfl, rfl, rfl, rfl, id⟩
theorem TKept.trans {t u v : Thread} (h : TKept t u) (k : TKept u v) : TKept t v :=
  ⟨k.live.trans h.live, k.r0.trans h.r0, k.r1.trans h.r1, k.r2.trans h.r2, k.r3.trans h.r3, k.do_.trans h.do_, k.pc.trans h.pc, fun m => k.may (h.may m)⟩
theorem asked_facts {c : Col} {t : Thread} (h : asked c t = true) : t.live = true ∧ t.may = true ∧ t.pc = 0 ∧ answered c t = false := by
  simp only [asked, Bool.and_eq_true, decide_eq_true_eq, Bool.not_eq_true'] at h
  exact ⟨h.1.1.1, h.1.1.2, h.1.2, h.2⟩
theorem may_root {t : Thread} (h : t.may = true) : 0 ≤ t.root ∧ t.root ≤ 3 := by
  simp only [Thread.may, inL, Bool.and_eq_true, decide_eq_true_eq] at h; omega
/-- the ways of an answer -/
theorem answer_ways {h : Heap} {c : Col} {t : Thread} (ha : asked c t = true) :
    (t.epoch ≠ c.epoch ∧ answer h c t = (h, c, { t with epoch := c.epoch, stage := 1, root := 0 })) ∨
    (t.epoch = c.epoch ∧ c.phase = 2 ∧ answer h c t = (h, c, { t with stage := 2 })) ∨
    (t.epoch = c.epoch ∧ c.phase ≠ 2 ∧ t.root + 1 = 4 ∧ answer h c t = ((shade h c (t.reg t.root)).1, (shade h c (t.reg t.root)).2, { t with root := 0, stage := 3 })) ∨
    (t.epoch = c.epoch ∧ c.phase ≠ 2 ∧ t.root + 1 ≠ 4 ∧ answer h c t = ((shade h c (t.reg t.root)).1, (shade h c (t.reg t.root)).2, { t with root := t.root + 1 })) := by
  unfold answer
  rw [if_neg (by rw [ha]; simp)]
  by_cases h1 : t.epoch = c.epoch
  · rw [if_neg (by simpa using h1)]
    by_cases h2 : c.phase = 2
    · rw [if_pos h2]; exact .inr (.inl ⟨h1, h2, rfl⟩)
    · rw [if_neg h2]
      by_cases h3 : t.root + 1 = 4
      · rw [if_pos h3]; exact .inr (.inr (.inl ⟨h1, h2, h3, rfl⟩))
      · rw [if_neg h3]; exact .inr (.inr (.inr ⟨h1, h2, h3, rfl⟩))
  · rw [if_pos h1]; exact .inl ⟨h1, rfl⟩
theorem answer_tkept {h : Heap} {c : Col} {t : Thread} (ha : asked c t = true) : TKept t (answer h c t).2.2 := by
  have hm := (asked_facts ha).2.1
  have hr := may_root hm
  have hm' := hm
  simp only [Thread.may, inL, Bool.and_eq_true, decide_eq_true_eq] at hm'
  rcases answer_ways (h := h) ha with ⟨_, e⟩ | ⟨_, _, e⟩ | ⟨_, _, _, e⟩ | ⟨_, _, h3, e⟩ <;> rw [e]
  all_goals refine ⟨rfl, rfl, rfl, rfl, rfl, rfl, rfl, fun _ => ?_⟩
  all_goals simp only [Thread.may, inL, Bool.and_eq_true, decide_eq_true_eq]
  all_goals refine ⟨⟨⟨⟨?_, ?_⟩, hm'.1.1.2⟩, hm'.1.2⟩, hm'.2⟩
  all_goals omega
theorem answer_kept {h : Heap} {c : Col} {k : Heap} {d : Col} {t : Thread} (K : Kept h c k d) (ha : asked d t = true) : Kept h c (answer k d t).1 (answer k d t).2.1 ∧ (answer k d t).2.1.work.length ≤ d.work.length + 1 := by
  rcases answer_ways (h := k) ha with ⟨_, e⟩ | ⟨_, _, e⟩ | ⟨_, _, _, e⟩ | ⟨_, _, h3, e⟩ <;> rw [e]
  · exact ⟨K, Nat.le_succ _⟩
  · exact ⟨K, Nat.le_succ _⟩
  · exact ⟨K.shade _, (shade_col _ _ _).2.2.2⟩
  · exact ⟨K.shade _, (shade_col _ _ _).2.2.2⟩
theorem ans6_kept {h : Heap} {c : Col} : ∀ (n : Nat) (k : Heap) (d : Col) (t : Thread), Kept h c k d → Kept h c (ans6 n k d t).1 (ans6 n k d t).2.1 ∧ TKept t (ans6 n k d t).2.2
  | 0, k, d, t, K => ⟨K, .refl t⟩
  | n + 1, k, d, t, K => by
    unfold ans6
    split
    · rename_i ha
      have := ans6_kept n _ _ (answer k d t).2.2 (answer_kept K ha).1
      exact ⟨this.1, (answer_tkept ha).trans this.2⟩
    · exact ⟨K, .refl t⟩
/-- so many answers are still to come -/
def todo (c : Col) (t : Thread) : Int :=
  if asked c t = false then 0 else if t.epoch ≠ c.epoch then 5 else if c.phase = 2 then 1 else 4 - t.root
theorem answered_cong {c d : Col} (h1 : d.phase = c.phase) (h2 : d.epoch = c.epoch) (t : Thread) : answered d t = answered c t := by unfold answered; rw [h1, h2]
theorem asked_cong {c d : Col} (h1 : d.phase = c.phase) (h2 : d.epoch = c.epoch) (t : Thread) : asked d t = asked c t := by unfold asked; rw [answered_cong h1 h2]
theorem todo_cong {c d : Col} (h1 : d.phase = c.phase) (h2 : d.epoch = c.epoch) (t : Thread) : todo d t = todo c t := by unfold todo; rw [asked_cong h1 h2, h1, h2]
theorem todo_le {c : Col} {t : Thread} (hs : t.epoch = c.epoch) : todo c t ≤ 4 := by
  unfold todo
  split
  · omega
  · rename_i ha
    rw [if_neg (by simpa using hs)]
    split
    · omega
    · have := may_root (asked_facts (by simpa using ha)).2.1; omega
theorem todo_step {h : Heap} {c : Col} {t : Thread} (ha : asked c t = true) : todo (answer h c t).2.1 (answer h c t).2.2 < todo c t := by
  obtain ⟨hl, hm, hp, hn⟩ := asked_facts ha
  have hr := may_root hm
  have hself : todo c t = if t.epoch ≠ c.epoch then 5 else if c.phase = 2 then 1 else 4 - t.root := by
    unfold todo; rw [if_neg (by rw [ha]; simp)]
  rw [hself]
  rcases answer_ways (h := h) ha with ⟨h1, e⟩ | ⟨h1, h2, e⟩ | ⟨h1, h2, h3, e⟩ | ⟨h1, h2, h3, e⟩ <;> rw [e]
  · rw [if_pos h1]
    have := todo_le (c := c) (t := { t with epoch := c.epoch, stage := 1, root := 0 }) rfl
    exact Int.lt_of_le_of_lt this (by decide)
  · rw [if_neg (by simpa using h1), if_pos h2]
    have : asked c { t with stage := 2 } = false := by
      simp [asked, answered, wants, h2, h1]
    show todo c _ < 1
    unfold todo
    rw [if_pos this]; omega
  · rw [if_neg (by simpa using h1), if_neg h2]
    have hw : answered c { t with root := 0, stage := 3 } = true := by
      have p0 : c.phase ≠ 0 := by intro p; simp [answered, wants, p] at hn
      have p1 : c.phase ≠ 1 := by intro p; simp [answered, wants, p, h1] at hn
      have h3' : wants c.phase = 3 := by simp [wants, p0, p1, h2]
      simp [answered, h3', h1]
    have : asked (shade h c (t.reg t.root)).2 { t with root := 0, stage := 3 } = false := by
      rw [asked_cong (shade_col _ _ _).1 (shade_col _ _ _).2.1]
      unfold asked; rw [hw]; simp
    unfold todo
    rw [if_pos this]; omega
  · rw [if_neg (by simpa using h1), if_neg h2]
    rw [todo_cong (shade_col _ _ _).1 (shade_col _ _ _).2.1]
    unfold todo
    split
    · omega
    · first
      | omega
      | (simp [h1, h2] <;> omega)
      | simp [h1, h2]
theorem ans6_done : ∀ (n : Nat) (h : Heap) (c : Col) (t : Thread), todo c t ≤ n → asked (ans6 n h c t).2.1 (ans6 n h c t).2.2 = false
  | 0, h, c, t, hn => by
    show asked c t = false
    cases ha : asked c t with
    | false => rfl
    | true =>
      have := todo_step (h := h) ha
      have h0 : 0 ≤ todo (answer h c t).2.1 (answer h c t).2.2 := by
        unfold todo
        split
        · omega
        · rename_i hq
          split
          · omega
          · split
            · omega
            · have := may_root (asked_facts (by simpa using hq)).2.1; omega
      simp at hn
      omega
  | n + 1, h, c, t, hn => by
    unfold ans6
    split
    · rename_i ha
      refine ans6_done n _ _ _ ?_
      have := todo_step (h := h) ha
      omega
    · rename_i ha; simpa using ha
theorem todo_5 (c : Col) (t : Thread) : todo c t ≤ 5 := by
  unfold todo
  split
  · omega
  · split
    · omega
    · split
      · omega
      · rename_i ha _ _
        have := may_root (asked_facts (by simpa using ha)).2.1; omega
/-- THE LAW: behind six answers -/
theorem ends_law {h : Heap} {c : Col} {t : Thread} (ha : asked c t = true) :
    asked (ans6 6 h c t).2.1 (ans6 6 h c t).2.2 = false ∧ allAns (ans6 6 h c t).2.1 [(ans6 6 h c t).2.2] = true ∧ (ans6 6 h c t).2.2.may = true ∧ Kept h c (ans6 6 h c t).1 (ans6 6 h c t).2.1 ∧ TKept t (ans6 6 h c t).2.2 := by
  obtain ⟨hl, hm, hp, hn⟩ := asked_facts ha
  obtain ⟨K, TK⟩ := ans6_kept 6 h c t (Kept.refl h c)
  have hd := ans6_done 6 h c t (Int.le_trans (todo_5 c t) (by decide))
  refine ⟨hd, ?_, TK.may hm, K, TK⟩
  have h2 : answered (ans6 6 h c t).2.1 (ans6 6 h c t).2.2 = true := by
    cases hq : answered (ans6 6 h c t).2.1 (ans6 6 h c t).2.2 with
    | true => rfl
    | false => simp [asked, TK.live, hl, TK.may hm, TK.pc, hp, hq] at hd
  simp [allAns, h2]
end Go.Proofs
namespace Go.Proofs
open Go Av Rp
theorem few_C {h : Heap} {c : Col} {t : Thread} (hf : few15 h c t = true) : c.work.length ≤ 100 ∧ h.W.length ≤ 130 := by
  simp only [few15, Heap.few, Bool.and_eq_true, decide_eq_true_eq] at hf
  omega
theorem ans6_no {n : Nat} {h : Heap} {c : Col} {t : Thread} (ha : asked c t = false) : ans6 n h c t = (h, c, t) := by
  cases n with
  | zero => rfl
  | succ n => unfold ans6; rw [if_neg (by rw [ha]; simp)]
theorem ans6_yes {i : Nat} {h : Heap} {c : Col} {t : Thread} (hi : i < 6) (ha : asked c t = true) : ans6 (6 - i) h c t = ans6 (6 - (i + 1)) (answer h c t).1 (answer h c t).2.1 (answer h c t).2.2 := by
  obtain ⟨n, e⟩ : ∃ n, 6 - i = n + 1 := ⟨5 - i, by omega⟩
  rw [e, show 6 - (i + 1) = n by omega]
  conv => lhs; unfold ans6
  rw [if_pos ha]
end Go.Proofs
end

section
set_option linter.unusedSimpArgs false
set_option maxRecDepth 20000
set_option maxHeartbeats 1000000
namespace Go.Proofs
open Go Av Rp
theorem c_ragpickerref11_Own (G : Globs) (c : Col) : ACall Tryz.prog G 15 [colV c] [] (fun r L' => r = colV c ∧ L' = []) := by
  refine ACall.enter Tryz.func15 rfl Tryz.ntmps15 (by rw [Tryz.results15]) (Nat.le_of_ble_eq_true rfl) rfl ?_
  -- REGION 0
  (repeat refine AWp.seq ?_); refine AWp.region ?_
  refine rn 2 ?_
  refine AL.nil ?_; simp only [thenQ, inQ]
  -- REGION 1
  (repeat refine AWp.seq ?_); refine AWp.region ?_
  refine rn 3 ?_
  refine AL.nil ?_; simp only [thenQ, inQ]
  -- REGION 2
  (repeat refine AWp.seq ?_); refine AWp.region ?_
  refine rn 2 ?_
  -- SPECIAL BUILTIN append (nilslice(0,0), t6) types #[22, 22]
  refine rapp1 ti22 ti3 ?_; simp only [Av.put]
  refine rn 2 ?_
  refine AL.nil ?_; simp only [thenQ, inQ]
  -- REGION 3
  (repeat refine AWp.seq ?_); refine AWp.region ?_
  refine rn 2 ?_
  refine AL.nil ?_; simp only [thenQ, inQ]
  refine AWp.ret ?_; (try simp only [inQ, thenQ]); refine rret 0 ?_
  exact ⟨rfl, rfl⟩

theorem c_ragpickerref06_Own (G : Globs) (l : Lists) : ACall Tryz.prog G 34 [listsV l] [] (fun r L' => r = listsV l ∧ L' = []) := by
  refine ACall.enter Tryz.func34 rfl Tryz.ntmps34 (by rw [Tryz.results34]) (Nat.le_of_ble_eq_true rfl) rfl ?_
  -- REGION 0
  (repeat refine AWp.seq ?_); refine AWp.region ?_
  refine rn 2 ?_
  refine AL.nil ?_; simp only [thenQ, inQ]
  -- REGION 1
  (repeat refine AWp.seq ?_); refine AWp.region ?_
  refine rn 3 ?_
  refine AL.nil ?_; simp only [thenQ, inQ]
  -- REGION 2
  (repeat refine AWp.seq ?_); refine AWp.region ?_
  refine rn 1 ?_
  refine AL.nil ?_; simp only [thenQ, inQ]
  (repeat refine AWp.seq ?_)
  refine AWp.block ?_
  (repeat refine AWp.seq ?_)
  refine AWp.rounds 4 ?_
  refine Rounds.round ?_
  -- REGION 3
  (repeat refine AWp.seq ?_); refine AWp.region ?_
  refine rn 2 ?_
  refine AL.nil ?_; simp only [thenQ, inQ]
  (repeat refine AWp.seq ?_)
  refine rc (t := true) (fun hb => ?_) (fun hb => by cases hb)
  (repeat refine AWp.seq ?_)
  refine AWp.skip ?_
  (try simp only [inQ, thenQ])
  (repeat refine AWp.seq ?_)
  refine AWp.block ?_
  -- REGION 5
  (repeat refine AWp.seq ?_); refine AWp.region ?_
  refine rn 4 ?_
  -- SPECIAL BUILTIN append (nilslice(0,0), t13) types #[22, 22]
  refine rapp1 ti22 ti3 ?_; simp only [Av.put]
  refine rn 2 ?_
  refine AL.nil ?_; simp only [thenQ, inQ]
  -- REGION 4
  (repeat refine AWp.seq ?_); refine AWp.region ?_
  refine rn 3 ?_
  refine AL.nil ?_; simp only [thenQ, inQ]
  (try simp only [inQ, thenQ])
  refine Rounds.round ?_
  -- REGION 3
  (repeat refine AWp.seq ?_); refine AWp.region ?_
  refine rn 2 ?_
  refine AL.nil ?_; simp only [thenQ, inQ]
  (repeat refine AWp.seq ?_)
  refine rc (t := true) (fun hb => ?_) (fun hb => by cases hb)
  (repeat refine AWp.seq ?_)
  refine AWp.skip ?_
  (try simp only [inQ, thenQ])
  (repeat refine AWp.seq ?_)
  refine AWp.block ?_
  -- REGION 5
  (repeat refine AWp.seq ?_); refine AWp.region ?_
  refine rn 4 ?_
  -- SPECIAL BUILTIN append (nilslice(0,0), t13) types #[22, 22]
  refine rapp1 ti22 ti3 ?_; simp only [Av.put]
  refine rn 2 ?_
  refine AL.nil ?_; simp only [thenQ, inQ]
  -- REGION 4
  (repeat refine AWp.seq ?_); refine AWp.region ?_
  refine rn 3 ?_
  refine AL.nil ?_; simp only [thenQ, inQ]
  (try simp only [inQ, thenQ])
  refine Rounds.round ?_
  -- REGION 3
  (repeat refine AWp.seq ?_); refine AWp.region ?_
  refine rn 2 ?_
  refine AL.nil ?_; simp only [thenQ, inQ]
  (repeat refine AWp.seq ?_)
  refine rc (t := true) (fun hb => ?_) (fun hb => by cases hb)
  (repeat refine AWp.seq ?_)
  refine AWp.skip ?_
  (try simp only [inQ, thenQ])
  (repeat refine AWp.seq ?_)
  refine AWp.block ?_
  -- REGION 5
  (repeat refine AWp.seq ?_); refine AWp.region ?_
  refine rn 4 ?_
  -- SPECIAL BUILTIN append (nilslice(0,0), t13) types #[22, 22]
  refine rapp1 ti22 ti3 ?_; simp only [Av.put]
  refine rn 2 ?_
  refine AL.nil ?_; simp only [thenQ, inQ]
  -- REGION 4
  (repeat refine AWp.seq ?_); refine AWp.region ?_
  refine rn 3 ?_
  refine AL.nil ?_; simp only [thenQ, inQ]
  (try simp only [inQ, thenQ])
  refine Rounds.round ?_
  -- REGION 3
  (repeat refine AWp.seq ?_); refine AWp.region ?_
  refine rn 2 ?_
  refine AL.nil ?_; simp only [thenQ, inQ]
  (repeat refine AWp.seq ?_)
  refine rc (t := false) (fun hb => by cases hb) (fun hb => ?_)
  refine AWp.exit ?_
  simp only [inQ, thenQ, reduceIte, Nat.reduceEqDiff]
  -- REGION 6
  (repeat refine AWp.seq ?_); refine AWp.region ?_
  refine rn 2 ?_
  refine AL.nil ?_; simp only [thenQ, inQ]
  refine AWp.ret ?_; (try simp only [inQ, thenQ]); refine rret 0 ?_
  exact ⟨rfl, rfl⟩

theorem c_ragpickerref07_Own (G : Globs) (h : Heap) : ACall Tryz.prog G 14 [heapV h] [] (fun r L' => r = heapV h ∧ L' = []) := by
  refine ACall.enter Tryz.func14 rfl Tryz.ntmps14 (by rw [Tryz.results14]) (Nat.le_of_ble_eq_true rfl) rfl ?_
  -- REGION 0
  (repeat refine AWp.seq ?_); refine AWp.region ?_
  refine rn 2 ?_
  refine AL.nil ?_; simp only [thenQ, inQ]
  -- REGION 1
  (repeat refine AWp.seq ?_); refine AWp.region ?_
  refine rn 2 ?_
  refine rcall Tryz.call34 (hC := c_ragpickerref06_Own G _) (kk := ?_); simp only [Av.put]
  refine rn 3 ?_
  refine AL.nil ?_; simp only [thenQ, inQ]
  -- REGION 2
  (repeat refine AWp.seq ?_); refine AWp.region ?_
  refine rn 4 ?_
  -- SPECIAL BUILTIN append (t9, t11) types #[22, 22]
  refine rapp1 ti22 ti3 ?_; simp only [Av.put]
  refine rn 2 ?_
  refine AL.nil ?_; simp only [thenQ, inQ]
  -- REGION 3
  (repeat refine AWp.seq ?_); refine AWp.region ?_
  refine rn 4 ?_
  -- SPECIAL BUILTIN append (t15, t17) types #[23, 23]
  refine rapp1 ti23 ti80 ?_; simp only [Av.put]
  refine rn 2 ?_
  refine AL.nil ?_; simp only [thenQ, inQ]
  -- REGION 4
  (repeat refine AWp.seq ?_); refine AWp.region ?_
  refine rn 4 ?_
  -- SPECIAL BUILTIN append (t21, t23) types #[26, 26]
  refine rapp1 ti26 ti4 ?_; simp only [Av.put]
  refine rn 2 ?_
  refine AL.nil ?_; simp only [thenQ, inQ]
  -- REGION 5
  (repeat refine AWp.seq ?_); refine AWp.region ?_
  refine rn 2 ?_
  refine AL.nil ?_; simp only [thenQ, inQ]
  refine AWp.ret ?_; (try simp only [inQ, thenQ]); refine rret 0 ?_
  exact ⟨rfl, rfl⟩

end Go.Proofs
end
