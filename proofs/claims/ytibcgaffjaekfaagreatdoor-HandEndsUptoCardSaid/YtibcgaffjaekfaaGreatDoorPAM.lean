/- Part 13 of 22 of a proof: own engine, contracts and facts. -/
import Derived.Test.YtibcgaffjaekfaaGreatDoorRows
import Derived.Deep.DeepHandedRow
import Derived.Lib.LaidTab
import Derived.Carry
import Derived.RowKit
import Derived.ChangeSame
import Derived.CallsIn
import Derived.Test.YtibcgaffjaekfaaGreatDoorPAF
import Derived.Test.YtibcgaffjaekfaaGreatDoorPAI
import Derived.Test.YtibcgaffjaekfaaGreatDoorPAJ
import Derived.Test.YtibcgaffjaekfaaGreatDoorPAK
import Derived.Test.YtibcgaffjaekfaaGreatDoorPAL
set_option linter.all false
section
/- From a contract to the call that a row speaks of. -/
set_option linter.all false
set_option maxRecDepth 20000
namespace Go.Proofs.YtibcgaffjaekfaaGreatDoor
open Go Av Rp Go.ChangeShapes Go.WideShapes Go.RowKit Go.Proofs

theorem bulk_le {H : Type} {d : DataW H} {l : List (DataW H)} (h : d ∈ l) : Rows.uptoBulk d ≤ Rows.uptoBulkAll l := by
  induction l with
  | nil => cases h
  | cons x r ih =>
    simp only [Rows.uptoBulkAll]
    cases List.mem_cons.1 h with
    | inl e => subst e; omega
    | inr e => have := ih e; omega
theorem bulk_one {H : Type} (d : DataW H) : 1 ≤ Rows.uptoBulk d := by
  cases d with
  | lit l => cases l <;> simp [Rows.uptoBulk]
  | _ => simp [Rows.uptoBulk]
theorem bulk_len {H : Type} (l : List (DataW H)) : l.length ≤ Rows.uptoBulkAll l := by
  induction l with
  | nil => simp [Rows.uptoBulkAll]
  | cons x r ih => have := bulk_one x; simp only [Rows.uptoBulkAll, List.length_cons]; omega
theorem bk_sl {H : Type} (es sp : List (DataW H)) : es.length ≤ Rows.uptoBulk (.slice es sp) := by have := bulk_len es; simp only [Rows.uptoBulk]; omega
theorem bk_el {H : Type} (es sp : List (DataW H)) (e : DataW H) (h : e ∈ es) : Rows.uptoBulk e ≤ Rows.uptoBulk (.slice es sp) := by have := bulk_le h; simp only [Rows.uptoBulk]; omega
theorem bk_ag {H : Type} (ps : List (DataW H)) (e : DataW H) (h : e ∈ ps) : Rows.uptoBulk e ≤ Rows.uptoBulk (.agg ps) := by have := bulk_le h; simp only [Rows.uptoBulk]; omega
def bkU (H : Type) : Bk H := ⟨Rows.uptoBulk, bk_sl, bk_el, bk_ag⟩

theorem post_same {H : Type} {enc : TypeId × Value → H} {P : Program} {f : Func} {s : ChangeSpec} {apart fresh handsOn again : Bool} {W W' : World} {args : Array Value} {v : Value} {ds gs : List (DataW H)} {before pa pv : List MemPlace}
    (hW : DataW.Whole enc P f.params.toList s.vars apart W args.toList ds gs before)
    (hres : ∀ (b : Nat) (sp : Nat → Bool) (hd : Bool), DataW.TrodAll enc P W' b sp hd f.resultTypes.toList (v.resultList f.resultTypes.size) (s.fn H (ds ++ gs)).results [])
    (hargs : ∀ sp : Nat → Bool, (∀ p ∈ before, sp p.block = true) → DataW.TrodAll enc P W' 0 sp true f.params.toList args.toList (s.fn H (ds ++ gs)).args pa)
    (hvars : ∀ sp : Nat → Bool, (∀ p ∈ before, sp p.block = true) → DataW.TrodVars enc P W' sp s.vars (s.fn H (ds ++ gs)).vars pv)
    (hps : before = pa ++ pv) (hk : W.keptBut W' (· ∈ before)) (hfz : ∀ b off, MemPlace.cell b off ∈ before → W'.frozen? ⟨b, off, none⟩ = W.frozen? ⟨b, off, none⟩)
    (hok : ∀ (j : Nat) (t : TypeId) (r : Value), f.resultTypes[j]? = some t → (v.resultList f.resultTypes.size)[j]? = some r → Value.okWide P W' .any 0 t r) :
    s.post enc P f apart fresh handsOn again W args v W' := by
  have hold : ∀ p ∈ before, (fun b => decide (b < W.heap.size)) p.block = true := fun p hp => by simpa using hW.lt p hp
  refine ⟨ds, gs, before, [], pa, pv, hW, hres _ _ _, hargs _ hold, hvars _ hold, World.keptBut_mono (fun p hp => ⟨hp, ?_⟩) hk, fun _ => ?_⟩
  · rw [hps, List.mem_append] at hp
    exact Or.inr hp
  · obtain ⟨_, _, _, _, _, hz, hn⟩ := hW
    refine ⟨hok, _, _, ([] ++ pa) ++ pv, ⟨[] ++ pa, pv, trodAll_append (hargs _ (fun _ _ => rfl)) (hres _ _ _), hvars _ (fun _ _ => rfl), rfl, ?_, ?_⟩, ?_⟩
    · intro b off hp
      rw [hfz b off (by rw [hps]; simpa using hp)]
      exact hz b off (by rw [hps]; simpa using hp)
    · intro ha
      have := hn ha
      rw [hps] at this
      simpa using this
    · intro p hp _
      rw [hps]
      simpa using hp

theorem R_agg {w : World} {ivs : List IV} {cs : Array Value} (h : RL w ivs cs.toList) : R [] (fun _ => False) w (aggI ivs) (.agg cs) := by
  refine .agg (by have := h.len; simp at this ⊢; omega) (fun j => cs[j]?.getD (.bool false)) (fun j c hj => ?_) (fun j c hj => ?_)
  · have hj' : j < cs.size := by have := h.len; have := (List.getElem?_eq_some_iff.1 hj).1; simp at *; omega
    rw [Array.getElem?_eq_getElem hj', Option.getD_some]
  · obtain ⟨iv, h1, rfl⟩ : ∃ iv, ivs[j]? = some iv ∧ c = .im iv := by
      rw [List.getElem?_map, Option.map_eq_some_iff] at hj
      obtain ⟨iv, h1, h2⟩ := hj
      exact ⟨iv, h1, h2.symm⟩
    obtain ⟨u, hu, hr⟩ := h.get h1
    have hu' : cs[j]? = some u := by simpa using hu
    rw [hu', Option.getD_some]; exact .im hr

theorem top_calls {P : Program} {G : Globs} {f : FuncId} {xs : List SV} {b : Bool} {W : World} {vs : Array Value} (h : ACall P G f xs [] (fun r L' => r = boolv b ∧ L' = [])) (hg : ∀ g cs, (g, cs) ∈ G → RI (fun _ => False) W (.pt cs 0) (.pointer (some ⟨g, 0, none⟩)))
    (hn : vs.size = xs.length) (hv : ∀ (j : Nat) (x : SV), xs[j]? = some x → ∃ u : Value, vs[j]? = some u ∧ R [] (fun _ => False) W x u) :
    Calls P f vs W fun e W' => e = .returned (.bool b) ∧ Below W.heap.size W W' := by
  have key := h [] (fun _ => False) W vs ⟨rfl, fun i g k h => by simp at h, fun i j gi gj ki kj b h => by simp at h, hg⟩ hn hv
  refine (callsIn_wide.1 key).mono ?_
  rintro e W' ⟨v, r, L', β', M', rfl, ⟨rfl, rfl⟩, _, hs, hr, st⟩
  refine ⟨?_, st.os, st.tape, st.output, st.size, fun k hk => st.heap k hk ?_⟩
  · cases hr with
    | im hr => cases hr; rfl
  · rintro ⟨i, g, k, h1, _⟩; simp at h1

theorem words_glob {W : World} (h : laidMetH Tryz.prog [("ragpicker/class.words", Rows.laid_ragpicker_class_words)] W) : ∀ g cs, (g, cs) ∈ [(0, wordsI)] → RI (fun _ => False) W (.pt cs 0) (.pointer (some ⟨g, 0, none⟩)) := by
  have ht : Lib.TabIs Tryz.prog W "ragpicker/class.words" .i64 [2, 4, 8] := Lib.tabIs_of_head (rest := []) (g := 0) (t := 130) (n := 3) (by kernel_rfl) (by kernel_rfl) (by kernel_rfl) (by kernel_rfl) co3 (by kernel_rfl) h
  have hg : Tryz.prog.globalNamed "ragpicker/class.words" = some 0 := by kernel_rfl
  have c0 : W.cell? ⟨0, 0, none⟩ = some (.int .i64 2) := ht.cell hg 0 (by decide)
  have c1 : W.cell? ⟨0, 1, none⟩ = some (.int .i64 4) := ht.cell hg 1 (by decide)
  have c2 : W.cell? ⟨0, 2, none⟩ = some (.int .i64 8) := ht.cell hg 2 (by decide)
  intro g cs hm
  simp only [List.mem_cons, List.not_mem_nil, or_false, Prod.mk.injEq] at hm
  obtain ⟨rfl, rfl⟩ := hm
  refine .pt 0 (fun j => (W.cell? ⟨0, j, none⟩).getD (.bool false)) (cell_lt c0).1 (fun h => h) (fun j c hj => ?_) (fun j c hj => ?_)
  · match j, hj with
    | 0, _ => rw [c0]; rfl
    | 1, _ => rw [c1]; rfl
    | 2, _ => rw [c2]; rfl
    | k + 3, hj => simp [wordsI] at hj
  · match j, hj with
    | 0, hj => cases hj; rw [c0]; exact .v _
    | 1, hj => cases hj; rw [c1]; exact .v _
    | 2, hj => cases hj; rw [c2]; exact .v _
    | k + 3, hj => simp [wordsI] at hj
end Go.Proofs.YtibcgaffjaekfaaGreatDoor
end

section
/- From a contract to the row's call: three arguments (heap, collector, thread), and four (and a list of threads). -/
set_option linter.all false
set_option maxRecDepth 20000
namespace Go.Proofs.YtibcgaffjaekfaaGreatDoor
open Go Av Rp Go.ChangeShapes Go.WideShapes Go.RowKit Go.Proofs

theorem lo : laidOutB Tryz.prog = true := by kernel_rfl
theorem stays {H : Type} {enc : TypeId × Value → H} {W W' : World} {t : TypeId} (hr : Tryz.prog.readableRec t = true) (hrow : t < Tryz.prog.types.size) {v : Value} {d : DataW H} {ps : List MemPlace}
    (h : DataW.Trod enc Tryz.prog W 0 (fun _ => true) true t v d ps) (hb : Below W.heap.size W W') (hlt : ∀ x ∈ ps, x.block < W.heap.size) {sp : Nat → Bool} (hs : ∀ x ∈ ps, sp x.block = true) : DataW.Trod enc Tryz.prog W' 0 sp true t v d ps :=
  WideElems.Trod_stays lo hr hrow h (fun x hx => hb.same (hlt x hx)) hs

theorem row3 {H : Type} {enc : TypeId × Value → H} {W : World} {base : Nat} {args : Array Value} {ds gs : List (DataW H)} {before : List MemPlace} {f : FuncId} {fn : Func} {s : ChangeSpec} {fresh again handsOn : Bool}
    (hp : fn.params = #[28, 30, 34]) (hrt : fn.resultTypes = #[4]) (hsp : ∀ d1 d2 d3, s.fn H [d1, d2, d3] = { results := [.lit (.bool true)], args := [d1, d2, d3] }) (hsv : s.vars = [])
    (hval : ∀ (j : Nat) t v, fn.params[j]? = some t → args[j]? = some v → Value.okWide Tryz.prog W .any base t v)
    (hW : DataW.Whole enc Tryz.prog fn.params.toList s.vars false W args.toList ds gs before) (hk : Rows.uptoSmall H (ds ++ gs) = true)
    (hL : laidMetH Tryz.prog [("ragpicker/class.words", Rows.laid_ragpicker_class_words)] W)
    (hC : ∀ (h : Heap) (c : Col) (t : Thread), Av.Heap.rg h → Av.Col.rg c → Av.Thread.rg t → ACall Tryz.prog [(0, wordsI)] f [heapV h, colV c, threadV t] [] (fun r L' => r = boolv true ∧ L' = [])) :
    Calls Tryz.prog f args W fun e W' => ∃ v, e = .returned v ∧ s.post enc Tryz.prog fn false fresh handsOn again W args v W' := by
  have hW' := hW
  obtain ⟨p, q, hA0, hV, rfl, hfz, hnd⟩ := hW
  have hA : DataW.TrodAll enc Tryz.prog W 0 (fun _ => true) true fn.params.toList args.toList ds p := hA0
  rw [hp] at hA hval
  obtain ⟨v0, vs0, d0, ds0, p0, q0, hargs, rfl, rfl, h0, r0⟩ := trodAll_cons hA
  obtain ⟨v1, vs1, d1, ds1, p1, q1, e1, rfl, rfl, h1, r1⟩ := trodAll_cons r0
  obtain ⟨v2, vs2, d2, ds2, p2, q2, e2, rfl, rfl, h2, r2⟩ := trodAll_cons r1
  obtain ⟨e3, rfl, rfl⟩ := trodAll_nil r2
  subst e1 e2 e3
  obtain rfl : args = #[v0, v1, v2] := by cases args; simp_all
  rw [hsv] at hV
  obtain ⟨rfl, rfl⟩ := trodVars_none hV
  have hbulk : Rows.uptoBulkAll ([d0, d1, d2] ++ []) ≤ 1048576 := of_decide_eq_true hk
  simp only [List.append_nil] at hbulk
  have b0 : (bkU H).f d0 ≤ bigN := Nat.le_trans (bulk_le (l := [d0, d1, d2]) (by simp)) (Nat.le_trans hbulk (by decide))
  have b1 : (bkU H).f d1 ≤ bigN := Nat.le_trans (bulk_le (l := [d0, d1, d2]) (by simp)) (Nat.le_trans hbulk (by decide))
  have b2 : (bkU H).f d2 ≤ bigN := Nat.le_trans (bulk_le (l := [d0, d1, d2]) (by simp)) (Nat.le_trans hbulk (by decide))
  obtain ⟨cs0, rfl, _⟩ := okWide_struct Tryz.underlying28 (hval 0 28 v0 rfl rfl)
  obtain ⟨cs1, rfl, _⟩ := okWide_struct Tryz.underlying30 (hval 1 30 v1 rfl rfl)
  obtain ⟨cs2, rfl, _⟩ := okWide_struct Tryz.underlying34 (hval 2 34 v2 rfl rfl)
  have k0 := h0
  have k1 := h1
  have k2 := h2
  obtain ⟨n0, t0⟩ := h0
  obtain ⟨n1, t1⟩ := h1
  obtain ⟨n2, t2⟩ := h2
  obtain ⟨_, i0, g0, l0⟩ := gd28 (bkU H) enc W 0 _ true n0 _ _ t0 b0
  obtain ⟨_, i1, g1, l1⟩ := gd30 (bkU H) enc W 0 _ true n1 _ _ t1 b1
  obtain ⟨_, i2, g2, l2⟩ := gd34 (bkU H) enc W 0 _ true n2 _ _ t2 b2
  obtain ⟨h, hh, rfl⟩ := heap_of g0
  obtain ⟨c, hc, rfl⟩ := col_of g1
  obtain ⟨t, ht, rfl⟩ := thread_of g2
  have hlt : ∀ x ∈ p0 ++ (p1 ++ (p2 ++ [])), x.block < W.heap.size := fun x hx => by simpa using hW'.lt x (by simpa using hx)
  refine (top_calls (hC h c t hh hc ht) (words_glob hL) rfl ?_).mono ?_
  · intro j x hj
    match j, hj with
    | 0, hj => cases hj; exact ⟨_, rfl, R_agg l0⟩
    | 1, hj => cases hj; exact ⟨_, rfl, R_agg l1⟩
    | 2, hj => cases hj; exact ⟨_, rfl, R_agg l2⟩
    | k + 3, hj => simp at hj
  · rintro e W' ⟨rfl, hb⟩
    refine ⟨_, rfl, post_same (pa := p0 ++ (p1 ++ (p2 ++ []))) (pv := []) hW' (fun b sp hd => ?_) (fun sp hs => ?_) (fun sp hs => ?_) rfl (hb.frame _) (fun b off hx => hb.frozen (p := ⟨b, off, none⟩) (hlt (.cell b off) (by simpa using hx))) (ok_one hrt rfl (okWide_bool_mk Tryz.underlying4 _))⟩
    · rw [hrt, show ([d0, d1, d2] ++ ([] : List (DataW H))) = [d0, d1, d2] from rfl, hsp]
      exact trodAll_cons_mk (p := []) (shut_bool Tryz.underlying4 _) trodAll_mk0
    · rw [hp, show ([d0, d1, d2] ++ ([] : List (DataW H))) = [d0, d1, d2] from rfl, hsp]
      refine trodAll_cons_mk (stays (by kernel_rfl) (of_decide_eq_true (by kernel_rfl)) k0 hb (fun x hx => hlt x (by simp [hx])) (fun x hx => hs x (by simp [hx]))) ?_
      refine trodAll_cons_mk (stays (by kernel_rfl) (of_decide_eq_true (by kernel_rfl)) k1 hb (fun x hx => hlt x (by simp [hx])) (fun x hx => hs x (by simp [hx]))) ?_
      exact trodAll_cons_mk (stays (by kernel_rfl) (of_decide_eq_true (by kernel_rfl)) k2 hb (fun x hx => hlt x (by simp [hx])) (fun x hx => hs x (by simp [hx]))) trodAll_mk0
    · rw [hsv, show ([d0, d1, d2] ++ ([] : List (DataW H))) = [d0, d1, d2] from rfl, hsp]; rfl
end Go.Proofs.YtibcgaffjaekfaaGreatDoor
end

section
/- The engine, part 32: 'make' in an open-order region. -/
namespace Av
open Go
section
variable {C : Cx}
theorem OpOk.makeI {l : List Oper} {Tf : Tm} {i : Nat} {o : Oper} {t e : TypeId} {x y : Operand} {n : Int} {k k' : IntKind} {ti te : TI} {z : List Value} (hl : l[i]? = some o) (ho : o.op = .makeSlice t x y) (hd : dstOk C.N o.dst = true)
    (hti : tinfo C.P t = some ti) (hk : ti.kind = .slice e) (hte : tinfo C.P e = some te) (hz : te.zero = some z) (hzl : z.length = te.size) (hb1 : te.bytes ≤ 512)
    (hx : aev C.G Tf x = some (.im (.v (.int k n)))) (hy : aev C.G Tf y = some (.im (.v (.int k' n)))) (h0 : 0 ≤ n) (hbig : n ≤ 274877906944) :
    OpOk C l Tf i (.im (.sl te.size (List.replicate n.toNat (z.map .v)))) := by
  intro o' hl' T L hag
  rw [hl] at hl'; cases hl'
  have hops : ∀ z, z = x ∨ z = y → z ∈ o.op.operands.toList := by
    intro z hz
    rw [ho]
    rcases hz with rfl | rfl <;> simp [Op.operands]
  exact OpTo.makeI ho hd hti hk hte hz hzl hb1 (by rw [hag x (hops x (.inl rfl))]; exact hx) (by rw [hag y (hops y (.inr rfl))]; exact hy) h0 hbig
end
end Av
end

section
set_option maxRecDepth 20000
set_option linter.unusedSimpArgs false
namespace Av
open Go Go.Proofs
section
variable {C : Cx} {Q : QT} {T : Tm} {L : List Blk}
theorem Conc.viewK {G : Globs} {N : Nat} {β : List Gh} {M : Nat → Prop} {a : Act} {W : World} (h : Conc G N T L β M a W) {k : Nat} {x y : SV} (hx : get T k = some x) (hv : Vw x y) : Conc G N ((k, y) :: T) L β M a W := by
  refine ⟨h.size, fun j z hj => ?_, h.sat, h.dfr⟩
  simp only [get] at hj
  split at hj
  · rename_i e
    cases hj
    obtain ⟨u, hu, hr⟩ := h.tm k x hx
    subst e
    exact ⟨u, hu, hv β M W u hr⟩
  · exact h.tm j z hj
/-- a temp told of less exactly -/
theorem AL.viewK {ops : Array Oper} {l : List Oper} (k : Nat) {x y : SV} (hx : get T k = some x) (hv : Vw x y) (h : AL C ops Q l ((k, y) :: T) L) : AL C ops Q l T L :=
  fun β₀ M₀ L₀ W₀ β M a W hc hs => h β₀ M₀ L₀ W₀ β M a W (hc.viewK hx hv) hs
theorem AWp.viewK {c : Code} (k : Nat) {x y : SV} (hx : get T k = some x) (hv : Vw x y) (h : AWp C c Q ((k, y) :: T) L) : AWp C c Q T L :=
  fun β₀ M₀ L₀ W₀ β M a W hc hs => h β₀ M₀ L₀ W₀ β M a W (hc.viewK hx hv) hs
theorem rmakeI {ops : Array Oper} {o : Oper} {rest : List Oper} {t e : TypeId} {x y : Operand} {k k' : IntKind} {ti te : TI} {z : List Value} {v : IV} (n : Int)
    (hti : tinfo C.P t = some ti) (hte : tinfo C.P e = some te) (h0 : 0 ≤ n) (hbig : n ≤ 274877906944) (kk : AL C ops Q rest (put T o.dst (.im v)) L)
    (ho : o.op = .makeSlice t x y := by rfl) (hg : o.guard = none := by rfl) (hd : dstOk C.N o.dst = true := by rfl) (hk : ti.kind = .slice e := by rfl) (hz : te.zero = some z := by rfl) (hzl : z.length = te.size := by rfl) (hb1 : te.bytes ≤ 512 := by decide)
    (hx : aev C.G T x = some (.im (.v (.int k n))) := by simp only [engA, engL, engT, reduceIte, reduceCtorEq, Nat.reduceLT, Nat.reduceLeDiff, Nat.reduceAdd, Nat.reduceSub, Nat.reduceMul, Nat.reduceEqDiff, Nat.reduceBneDiff, Nat.le_refl, Bool.false_eq_true, Int.reduceLT, Int.reduceLE, Int.reduceAdd, Int.reduceSub, Int.reduceMul, Int.reduceToNat, Int.reduceEq, Int.cast_ofNat_Int, Int.reduceNeg] <;> rfl) (hy : aev C.G T y = some (.im (.v (.int k' n))) := by simp only [engA, engL, engT, reduceIte, reduceCtorEq, Nat.reduceLT, Nat.reduceLeDiff, Nat.reduceAdd, Nat.reduceSub, Nat.reduceMul, Nat.reduceEqDiff, Nat.reduceBneDiff, Nat.le_refl, Bool.false_eq_true, Int.reduceLT, Int.reduceLE, Int.reduceAdd, Int.reduceSub, Int.reduceMul, Int.reduceToNat, Int.reduceEq, Int.cast_ofNat_Int, Int.reduceNeg] <;> rfl)
    (hv : IV.sl te.size (List.replicate n.toNat (z.map .v)) = v := by rfl) : AL C ops Q (o :: rest) T L := by
  refine AL.cons (OpTo.makeI ho hd hti hk hte hz hzl hb1 hx hy h0 hbig) hg ?_
  rintro T2 L2 ⟨rfl, rfl⟩
  rw [hv]; exact kk
theorem rmko {l : List Oper} {Tf : Tm} {i : Nat} {o : Oper} {t e : TypeId} {x y : Operand} {k k' : IntKind} {ti te : TI} {z : List Value} {v : IV} (n : Int)
    (hti : tinfo C.P t = some ti) (hte : tinfo C.P e = some te) (h0 : 0 ≤ n) (hbig : n ≤ 274877906944)
    (hl : l[i]? = some o := by rfl) (ho : o.op = .makeSlice t x y := by rfl) (hd : dstOk C.N o.dst = true := by rfl) (hk : ti.kind = .slice e := by rfl) (hz : te.zero = some z := by rfl) (hzl : z.length = te.size := by rfl) (hb1 : te.bytes ≤ 512 := by decide)
    (hx : aev C.G Tf x = some (.im (.v (.int k n))) := by simp only [callArgs, tS, List.getD_cons_zero, List.getD_cons_succ, if_true, engA, engL, engT, reduceIte, reduceCtorEq, Nat.reduceLT, Nat.reduceLeDiff, Nat.reduceAdd, Nat.reduceSub, Nat.reduceMul, Nat.reduceEqDiff, Nat.reduceBneDiff, Nat.le_refl, Bool.false_eq_true, Int.reduceLT, Int.reduceLE, Int.reduceAdd, Int.reduceSub, Int.reduceMul, Int.reduceToNat, Int.reduceEq, Int.cast_ofNat_Int, Int.reduceNeg] <;> rfl) (hy : aev C.G Tf y = some (.im (.v (.int k' n))) := by simp only [callArgs, tS, List.getD_cons_zero, List.getD_cons_succ, if_true, engA, engL, engT, reduceIte, reduceCtorEq, Nat.reduceLT, Nat.reduceLeDiff, Nat.reduceAdd, Nat.reduceSub, Nat.reduceMul, Nat.reduceEqDiff, Nat.reduceBneDiff, Nat.le_refl, Bool.false_eq_true, Int.reduceLT, Int.reduceLE, Int.reduceAdd, Int.reduceSub, Int.reduceMul, Int.reduceToNat, Int.reduceEq, Int.cast_ofNat_Int, Int.reduceNeg] <;> rfl)
    (hv : IV.sl te.size (List.replicate n.toNat (z.map .v)) = v := by rfl) : OpOk C l Tf i (.im v) :=
  hv ▸ OpOk.makeI hl ho hd hti hk hte hz hzl hb1 hx hy h0 hbig
theorem rbuildNG {ops : Array Oper} {o : Oper} {rest : List Oper} {t e : TypeId} {n : Nat} {parts : Array (Nat × Operand)} {ti te : TI} {z : List Value} {ss cs : List SV} {ivs : List IV} {es : List (List IV)} {j : Nat} {b : Bool}
    (hti : tinfo C.P t = some ti) (hte : tinfo C.P e = some te) (kk : AL C ops Q rest (put T o.dst (.im (.sl te.size es))) L)
    (ho : o.op = .buildSlice t n parts := by rfl) (hg : o.guard = some (j, b) := by rfl) (hy : yieldsT ops T j = some (.im (.v (.bool b))) := by simp only [engA, engL, engT, reduceIte, reduceCtorEq, Nat.reduceLT, Nat.reduceLeDiff, Nat.reduceAdd, Nat.reduceSub, Nat.reduceMul, Nat.reduceEqDiff, Nat.reduceBneDiff, Nat.le_refl, Bool.false_eq_true, Int.reduceLT, Int.reduceLE, Int.reduceAdd, Int.reduceSub, Int.reduceMul, Int.reduceToNat, Int.reduceEq, Int.cast_ofNat_Int, Int.reduceNeg] <;> rfl) (hd : dstOk C.N o.dst = true := by rfl) (hk : ti.kind = .slice e := by rfl) (hz : te.zero = some z := by rfl) (hle : n * te.size ≤ 2 ^ 24 := by decide)
    (hs : aevs C.G T (parts.toList.map (·.2)) = some ss := by simp only [engA, engL, engT, reduceIte, reduceCtorEq, Nat.reduceLT, Nat.reduceLeDiff, Nat.reduceAdd, Nat.reduceSub, Nat.reduceMul, Nat.reduceEqDiff, Nat.reduceBneDiff, Nat.le_refl, Bool.false_eq_true, Int.reduceLT, Int.reduceLE, Int.reduceAdd, Int.reduceSub, Int.reduceMul, Int.reduceToNat, Int.reduceEq, Int.cast_ofNat_Int, Int.reduceNeg] <;> rfl)
    (hb : buildS (fun i => some (i * te.size, te.size)) (List.replicate (n * te.size) .any) ((parts.toList.map (·.1)).zip ss) = some cs := by simp only [List.replicate_succ, List.replicate_zero, Nat.reduceMul, Nat.reduceAdd, engA, engL, engT, reduceIte, reduceCtorEq, Nat.reduceLT, Nat.reduceLeDiff, Nat.reduceAdd, Nat.reduceSub, Nat.reduceMul, Nat.reduceEqDiff, Nat.reduceBneDiff, Nat.le_refl, Bool.false_eq_true, Int.reduceLT, Int.reduceLE, Int.reduceAdd, Int.reduceSub, Int.reduceMul, Int.reduceToNat, Int.reduceEq, Int.cast_ofNat_Int, Int.reduceNeg] <;> rfl)
    (hi : ims cs = some ivs := by simp only [engA, engL, engT, reduceIte, reduceCtorEq, Nat.reduceLT, Nat.reduceLeDiff, Nat.reduceAdd, Nat.reduceSub, Nat.reduceMul, Nat.reduceEqDiff, Nat.reduceBneDiff, Nat.le_refl, Bool.false_eq_true, Int.reduceLT, Int.reduceLE, Int.reduceAdd, Int.reduceSub, Int.reduceMul, Int.reduceToNat, Int.reduceEq, Int.cast_ofNat_Int, Int.reduceNeg] <;> rfl) (hbig : n ≤ bigN := by decide) (hes : chunks te.size n ivs = es := by simp only [engA, engL, engT, reduceIte, reduceCtorEq, Nat.reduceLT, Nat.reduceLeDiff, Nat.reduceAdd, Nat.reduceSub, Nat.reduceMul, Nat.reduceEqDiff, Nat.reduceBneDiff, Nat.le_refl, Bool.false_eq_true, Int.reduceLT, Int.reduceLE, Int.reduceAdd, Int.reduceSub, Int.reduceMul, Int.reduceToNat, Int.reduceEq, Int.cast_ofNat_Int, Int.reduceNeg] <;> rfl) : AL C ops Q (o :: rest) T L := by
  refine AL.want (OpTo.buildN ho hd hti hk hte hz hle hs hb hi hbig) hg hy ?_
  rintro T' L' ⟨rfl, rfl⟩
  rw [hes]; exact kk
theorem ACall.argsL {P : Program} {G : Globs} {f : FuncId} {xs ys : List SV} {L : List Blk} {Q : SV → List Blk → Prop} (h : ACall P G f ys L Q) (hl : xs.length = ys.length) (hv : VwL xs ys) : ACall P G f xs L Q :=
  ACall.args h hl fun j x y hx hy => by obtain ⟨x', h1, h2⟩ := VwL.get hv hy; rw [hx] at h1; cases h1; exact h2
end
end Av
end

section
set_option linter.all false
set_option maxRecDepth 20000
namespace Go.Proofs
open Go Av Rp
theorem u3 : Tryz.prog.underlying 3 = some (.int .i64) := by kernel_rfl
theorem u4 : Tryz.prog.underlying 4 = some .bool := by kernel_rfl
theorem pt3 (xs : Array Value) (i : Nat) (v : Value) (W : World) (h : xs[i]? = some v) : (Go.part 3 xs i).run Tryz.prog W = .ok v W := by
  simp [Go.part, run_isAgg ti3, h]
theorem pt4 (xs : Array Value) (i : Nat) (v : Value) (W : World) (h : xs[i]? = some v) : (Go.part 4 xs i).run Tryz.prog W = .ok v W := by
  simp [Go.part, run_isAgg ti4, h]
theorem eqPage (a b c d : Int) (W : World) : (Op.equalIn 10000 80 (.agg #[.int .i64 a, .int .i64 b]) (.agg #[.int .i64 c, .int .i64 d])).run Tryz.prog W = .ok (decide (a = c) && decide (b = d)) W := by
  have hf : (Tryz.prog.fieldsOf 80).toList.map (fun f => (f.name, f.type, f.offset)) = [("Kind", 3, 0), ("Arg", 3, 1)] := by kernel_rfl
  rw [show (10000 : Nat) = 9999 + 1 from rfl, run_equalIn_struct W 9999 80 _ _ (by kernel_rfl) (by kernel_rfl), eqF_eq, hf]
  simp [eqF, pt3, run_equalIn_int W 9998 3 .i64 .i64 _ _ u3]
  by_cases h1 : a = c <;> by_cases h2 : b = d <;> simp [h1, h2]
theorem eqOp (a b c d a' b' c' d' : Int) (W : World) : (Op.equalIn 10000 64 (.agg #[.int .i64 a, .int .i64 b, .int .i64 c, .int .i64 d]) (.agg #[.int .i64 a', .int .i64 b', .int .i64 c', .int .i64 d'])).run Tryz.prog W = .ok (decide (a = a') && decide (b = b') && decide (c = c') && decide (d = d')) W := by
  have hf : (Tryz.prog.fieldsOf 64).toList.map (fun f => (f.name, f.type, f.offset)) = [("Kind", 3, 0), ("A", 3, 1), ("B", 3, 2), ("C", 3, 3)] := by kernel_rfl
  rw [show (10000 : Nat) = 9999 + 1 from rfl, run_equalIn_struct W 9999 64 _ _ (by kernel_rfl) (by kernel_rfl), eqF_eq, hf]
  simp [eqF, pt3, run_equalIn_int W 9998 3 .i64 .i64 _ _ u3]
  by_cases h1 : a = a' <;> by_cases h2 : b = b' <;> by_cases h3 : c = c' <;> by_cases h4 : d = d' <;> simp [h1, h2, h3, h4]
theorem eqHead (a1 a2 a3 : Bool) (a4 a5 a6 : Int) (b1 b2 b3 : Bool) (b4 b5 b6 : Int) (W : World) : (Op.equalIn 10000 68 (.agg #[.bool a1, .bool a2, .bool a3, .int .i64 a4, .int .i64 a5, .int .i64 a6]) (.agg #[.bool b1, .bool b2, .bool b3, .int .i64 b4, .int .i64 b5, .int .i64 b6])).run Tryz.prog W = .ok (decide (a1 = b1) && decide (a2 = b2) && decide (a3 = b3) && decide (a4 = b4) && decide (a5 = b5) && decide (a6 = b6)) W := by
  have hf : (Tryz.prog.fieldsOf 68).toList.map (fun f => (f.name, f.type, f.offset)) = [("Used", 4, 0), ("Old", 4, 1), ("Done", 4, 2), ("N", 3, 3), ("Born", 3, 4), ("Mark", 3, 5)] := by kernel_rfl
  rw [show (10000 : Nat) = 9999 + 1 from rfl, run_equalIn_struct W 9999 68 _ _ (by kernel_rfl) (by kernel_rfl), eqF_eq, hf]
  simp [eqF, pt3, pt4, run_equalIn_int W 9998 3 .i64 .i64 _ _ u3, run_equalIn_bool' W 9998 4 _ _ u4]
  by_cases h1 : a1 = b1 <;> by_cases h2 : a2 = b2 <;> by_cases h3 : a3 = b3 <;> by_cases h4 : a4 = b4 <;> by_cases h5 : a5 = b5 <;> by_cases h6 : a6 = b6 <;> simp [h1, h2, h3, h4, h5, h6]
theorem eqR (a b c d a' b' c' d' : Int) (W : World) : (Op.equalIn 10000 31 (.agg #[.int .i64 a, .int .i64 b, .int .i64 c, .int .i64 d]) (.agg #[.int .i64 a', .int .i64 b', .int .i64 c', .int .i64 d'])).run Tryz.prog W = .ok (decide (a = a') && decide (b = b') && decide (c = c') && decide (d = d')) W := by
  have hu : Tryz.prog.underlying 31 = some (.array 4 3) := by kernel_rfl
  rw [show (10000 : Nat) = 9999 + 1 from rfl, Op.equalIn]
  simp only [Sem.run_bind, Go.run_underlying hu, Result.andThen_ok, Av.run_sizeOf ti3]
  simp only [Std.Legacy.Range.forIn_eq_forIn_range', Std.Legacy.Range.size, Nat.sub_zero, Nat.add_sub_cancel, Nat.div_one, List.range'_succ, List.range'_zero, List.forIn_cons, List.forIn_nil]
  simp [pt3, run_equalIn_int W 9998 3 .i64 .i64 _ _ u3]
  by_cases h1 : a = a' <;> by_cases h2 : b = b' <;> by_cases h3 : c = c' <;> by_cases h4 : d = d' <;> simp [h1, h2, h3, h4]
end Go.Proofs
end

section
set_option linter.unusedSimpArgs false
set_option maxRecDepth 20000
set_option maxHeartbeats 1000000
namespace Go.Proofs
open Go Av Rp
theorem c_pages_in (G : Globs) (n lo hi : Int) : ACall Tryz.prog G 107 [intv n, intv lo, intv hi] [] (fun r L' => r = boolv (inL n lo hi) ∧ L' = []) := by
  refine ACall.enter Tryz.func107 rfl Tryz.ntmps107 (by rw [Tryz.results107]) (Nat.le_of_ble_eq_true rfl) rfl ?_
  -- REGION 0
  (repeat refine AWp.seq ?_); refine AWp.region ?_
  refine rn 1 ?_
  refine AL.nil ?_; simp only [thenQ, inQ]
  -- REGION 1
  (repeat refine AWp.seq ?_); refine AWp.region ?_
  refine rn 4 ?_
  refine rsp 10 (fun hb => ?_) (fun hb => ?_)
  · skip
    refine rn 5 ?_
    refine AL.nil ?_; simp only [thenQ, inQ]
    refine AWp.ret ?_; (try simp only [inQ, thenQ]); refine rret 0 ?_
    first | exact ⟨rfl, rfl⟩ | (refine ⟨?_, rfl⟩; (try simp only [pack, engA, engL]); (try simp_all [inL]) <;> first | omega | (rw [Bool.eq_iff_iff]; simp only [Bool.and_eq_true, Bool.or_eq_true, decide_eq_true_eq]; omega) | (simp only [decide_eq_decide]; omega))
  · skip
    refine rn 5 ?_
    refine AL.nil ?_; simp only [thenQ, inQ]
    refine AWp.ret ?_; (try simp only [inQ, thenQ]); refine rret 0 ?_
    first | exact ⟨rfl, rfl⟩ | (refine ⟨?_, rfl⟩; (try simp only [pack, engA, engL]); (try simp_all [inL]) <;> first | omega | (rw [Bool.eq_iff_iff]; simp only [Bool.and_eq_true, Bool.or_eq_true, decide_eq_true_eq]; omega) | (simp only [decide_eq_decide]; omega))

theorem c_arena_pages (G : Globs) (n : Int) : ACall Tryz.prog G 58 [intv n] [] (fun r L' => r = boolv (inL n 1 64) ∧ L' = []) := by
  refine ACall.enter Tryz.func58 rfl Tryz.ntmps58 (by rw [Tryz.results58]) (Nat.le_of_ble_eq_true rfl) rfl ?_
  -- REGION 0
  (repeat refine AWp.seq ?_); refine AWp.region ?_
  refine rn 1 ?_
  refine AL.nil ?_; simp only [thenQ, inQ]
  -- REGION 1
  (repeat refine AWp.seq ?_); refine AWp.region ?_
  refine rn 3 ?_
  refine rsp 5 (fun hb => ?_) (fun hb => ?_)
  · skip
    refine rn 4 ?_
    refine AL.nil ?_; simp only [thenQ, inQ]
    refine AWp.ret ?_; (try simp only [inQ, thenQ]); refine rret 0 ?_
    first | exact ⟨rfl, rfl⟩ | (refine ⟨?_, rfl⟩; (try simp only [pack, engA, engL]); (try simp_all [inL]) <;> first | omega | (rw [Bool.eq_iff_iff]; simp only [Bool.and_eq_true, Bool.or_eq_true, decide_eq_true_eq]; omega) | (simp only [decide_eq_decide]; omega))
  · skip
    refine rn 4 ?_
    refine AL.nil ?_; simp only [thenQ, inQ]
    refine AWp.ret ?_; (try simp only [inQ, thenQ]); refine rret 0 ?_
    first | exact ⟨rfl, rfl⟩ | (refine ⟨?_, rfl⟩; (try simp only [pack, engA, engL]); (try simp_all [inL]) <;> first | omega | (rw [Bool.eq_iff_iff]; simp only [Bool.and_eq_true, Bool.or_eq_true, decide_eq_true_eq]; omega) | (simp only [decide_eq_decide]; omega))

theorem c_ragpickerref03_Words (G : Globs) (c : Int) : ACall Tryz.prog G 90 [intv c] [] (fun r L' => r = intv (words c) ∧ L' = []) := by
  refine ACall.enter Tryz.func90 rfl Tryz.ntmps90 (by rw [Tryz.results90]) (Nat.le_of_ble_eq_true rfl) rfl ?_
  -- REGION 0
  (repeat refine AWp.seq ?_); refine AWp.region ?_
  refine rn 1 ?_
  refine AL.nil ?_; simp only [thenQ, inQ]
  -- REGION 1
  (repeat refine AWp.seq ?_); refine AWp.region ?_
  refine rn 1 ?_
  refine AL.nil ?_; simp only [thenQ, inQ]
  (repeat refine AWp.seq ?_)
  refine AWp.block ?_
  -- REGION 2
  (repeat refine AWp.seq ?_); refine AWp.region ?_
  refine rn 2 ?_
  refine AL.nil ?_; simp only [thenQ, inQ]
  (repeat refine AWp.seq ?_)
  refine rc (fun hb => ?_) (fun hb => ?_)
  · skip
    -- REGION 3
    (repeat refine AWp.seq ?_); refine AWp.region ?_
    refine rn 1 ?_
    refine AL.nil ?_; simp only [thenQ, inQ]
    refine AWp.ret ?_; (try simp only [inQ, thenQ]); refine rret 0 ?_
    first | exact ⟨rfl, rfl⟩ | (refine ⟨?_, rfl⟩; (try simp only [pack, engA, engL]); (try simp_all [words]) <;> first | omega | (rw [Bool.eq_iff_iff]; simp only [Bool.and_eq_true, Bool.or_eq_true, decide_eq_true_eq]; omega) | (simp only [decide_eq_decide]; omega))
  · skip
    -- REGION 4
    (repeat refine AWp.seq ?_); refine AWp.region ?_
    refine rn 2 ?_
    refine AL.nil ?_; simp only [thenQ, inQ]
    (repeat refine AWp.seq ?_)
    refine rc (fun hb => ?_) (fun hb => ?_)
    · skip
      -- REGION 5
      (repeat refine AWp.seq ?_); refine AWp.region ?_
      refine rn 1 ?_
      refine AL.nil ?_; simp only [thenQ, inQ]
      refine AWp.ret ?_; (try simp only [inQ, thenQ]); refine rret 0 ?_
      first | exact ⟨rfl, rfl⟩ | (refine ⟨?_, rfl⟩; (try simp only [pack, engA, engL]); (try simp_all [words]) <;> first | omega | (rw [Bool.eq_iff_iff]; simp only [Bool.and_eq_true, Bool.or_eq_true, decide_eq_true_eq]; omega) | (simp only [decide_eq_decide]; omega))
    · skip
      -- REGION 6
      (repeat refine AWp.seq ?_); refine AWp.region ?_
      refine rn 2 ?_
      refine AL.nil ?_; simp only [thenQ, inQ]
      (repeat refine AWp.seq ?_)
      refine rc (fun hb => ?_) (fun hb => ?_)
      · skip
        -- REGION 7
        (repeat refine AWp.seq ?_); refine AWp.region ?_
        refine rn 1 ?_
        refine AL.nil ?_; simp only [thenQ, inQ]
        refine AWp.ret ?_; (try simp only [inQ, thenQ]); refine rret 0 ?_
        first | exact ⟨rfl, rfl⟩ | (refine ⟨?_, rfl⟩; (try simp only [pack, engA, engL]); (try simp_all [words]) <;> first | omega | (rw [Bool.eq_iff_iff]; simp only [Bool.and_eq_true, Bool.or_eq_true, decide_eq_true_eq]; omega) | (simp only [decide_eq_decide]; omega))
      · skip
        (repeat refine AWp.seq ?_)
        refine AWp.skip ?_
        (try simp only [inQ, thenQ])
        -- REGION 8
        (repeat refine AWp.seq ?_); refine AWp.region ?_
        refine rn 1 ?_
        refine AL.nil ?_; simp only [thenQ, inQ]
        refine AWp.ret ?_; (try simp only [inQ, thenQ]); refine rret 0 ?_
        first | exact ⟨rfl, rfl⟩ | (refine ⟨?_, rfl⟩; (try simp only [pack, engA, engL]); (try simp_all [words]) <;> first | omega | (rw [Bool.eq_iff_iff]; simp only [Bool.and_eq_true, Bool.or_eq_true, decide_eq_true_eq]; omega) | (simp only [decide_eq_decide]; omega))

theorem c_ragpickerref15_Answered (G : Globs) (c : Col) (t : Thread) : ACall Tryz.prog G 43 [colV c, threadV t] [] (fun r L' => r = boolv (answered c t) ∧ L' = []) := by
  refine ACall.enter Tryz.func43 rfl Tryz.ntmps43 (by rw [Tryz.results43]) (Nat.le_of_ble_eq_true rfl) rfl ?_
  -- REGION 0
  (repeat refine AWp.seq ?_); refine AWp.region ?_
  refine rn 3 ?_
  refine AL.nil ?_; simp only [thenQ, inQ]
  -- REGION 1
  (repeat refine AWp.seq ?_); refine AWp.region ?_
  refine rn 3 ?_
  refine AL.nil ?_; simp only [thenQ, inQ]
  (repeat refine AWp.seq ?_)
  refine rc (fun hb => ?_) (fun hb => ?_)
  · skip
    -- REGION 2
    (repeat refine AWp.seq ?_); refine AWp.region ?_
    refine rn 1 ?_
    refine AL.nil ?_; simp only [thenQ, inQ]
    refine AWp.ret ?_; (try simp only [inQ, thenQ]); refine rret 0 ?_
    first | exact ⟨rfl, rfl⟩ | (refine ⟨?_, rfl⟩; (try simp only [pack, engA, engL]); (try simp_all [answered, wants]) <;> first | omega | (rw [Bool.eq_iff_iff]; simp only [Bool.and_eq_true, Bool.or_eq_true, decide_eq_true_eq]; omega) | (simp only [decide_eq_decide]; omega))
  · skip
    (repeat refine AWp.seq ?_)
    refine AWp.skip ?_
    (try simp only [inQ, thenQ])
    -- REGION 3
    (repeat refine AWp.seq ?_); refine AWp.region ?_
    refine rn 5 ?_
    refine AL.nil ?_; simp only [thenQ, inQ]
    (repeat refine AWp.seq ?_)
    refine rc (fun hb => ?_) (fun hb => ?_)
    · skip
      -- REGION 4
      (repeat refine AWp.seq ?_); refine AWp.region ?_
      refine rn 1 ?_
      refine AL.nil ?_; simp only [thenQ, inQ]
      refine AWp.ret ?_; (try simp only [inQ, thenQ]); refine rret 0 ?_
      first | exact ⟨rfl, rfl⟩ | (refine ⟨?_, rfl⟩; (try simp only [pack, engA, engL]); (try simp_all [answered, wants]) <;> first | omega | (rw [Bool.eq_iff_iff]; simp only [Bool.and_eq_true, Bool.or_eq_true, decide_eq_true_eq]; omega) | (simp only [decide_eq_decide]; omega))
    · skip
      (repeat refine AWp.seq ?_)
      refine AWp.skip ?_
      (try simp only [inQ, thenQ])
      -- REGION 5
      (repeat refine AWp.seq ?_); refine AWp.region ?_
      refine rn 3 ?_
      refine AL.nil ?_; simp only [thenQ, inQ]
      (repeat refine AWp.seq ?_)
      refine rc (fun hb => ?_) (fun hb => ?_)
      · skip
        -- REGION 6
        (repeat refine AWp.seq ?_); refine AWp.region ?_
        refine rn 1 ?_
        refine AL.nil ?_; simp only [thenQ, inQ]
        refine AWp.ret ?_; (try simp only [inQ, thenQ]); refine rret 0 ?_
        first | exact ⟨rfl, rfl⟩ | (refine ⟨?_, rfl⟩; (try simp only [pack, engA, engL]); (try simp_all [answered, wants]) <;> first | omega | (rw [Bool.eq_iff_iff]; simp only [Bool.and_eq_true, Bool.or_eq_true, decide_eq_true_eq]; omega) | (simp only [decide_eq_decide]; omega))
      · skip
        (repeat refine AWp.seq ?_)
        refine AWp.skip ?_
        (try simp only [inQ, thenQ])
        -- REGION 7
        (repeat refine AWp.seq ?_); refine AWp.region ?_
        refine rn 3 ?_
        refine AL.nil ?_; simp only [thenQ, inQ]
        (repeat refine AWp.seq ?_)
        refine rc (fun hb => ?_) (fun hb => ?_)
        · skip
          -- REGION 8
          (repeat refine AWp.seq ?_); refine AWp.region ?_
          refine rn 4 ?_
          refine AL.nil ?_; simp only [thenQ, inQ]
          refine AWp.ret ?_; (try simp only [inQ, thenQ]); refine rret 0 ?_
          first | exact ⟨rfl, rfl⟩ | (refine ⟨?_, rfl⟩; (try simp only [pack, engA, engL]); (try simp_all [answered, wants]) <;> first | omega | (rw [Bool.eq_iff_iff]; simp only [Bool.and_eq_true, Bool.or_eq_true, decide_eq_true_eq]; omega) | (simp only [decide_eq_decide]; omega))
        · skip
          (repeat refine AWp.seq ?_)
          refine AWp.skip ?_
          (try simp only [inQ, thenQ])
          -- REGION 9
          (repeat refine AWp.seq ?_); refine AWp.region ?_
          refine rn 4 ?_
          refine AL.nil ?_; simp only [thenQ, inQ]
          refine AWp.ret ?_; (try simp only [inQ, thenQ]); refine rret 0 ?_
          first | exact ⟨rfl, rfl⟩ | (refine ⟨?_, rfl⟩; (try simp only [pack, engA, engL]); (try simp_all [answered, wants]) <;> first | omega | (rw [Bool.eq_iff_iff]; simp only [Bool.and_eq_true, Bool.or_eq_true, decide_eq_true_eq]; omega) | (simp only [decide_eq_decide]; omega))

theorem c_ragpickerref12_May (G : Globs) (t : Thread) : ACall Tryz.prog G 42 [threadV t] [] (fun r L' => r = boolv t.may ∧ L' = []) := by
  refine ACall.enter Tryz.func42 rfl Tryz.ntmps42 (by rw [Tryz.results42]) (Nat.le_of_ble_eq_true rfl) rfl ?_
  -- REGION 0
  (repeat refine AWp.seq ?_); refine AWp.region ?_
  refine rn 2 ?_
  refine AL.nil ?_; simp only [thenQ, inQ]
  -- REGION 1
  (repeat refine AWp.seq ?_); refine AWp.region ?_
  refine rn 4 ?_
  refine rsp 6 (fun hb => ?_) (fun hb => ?_)
  · skip
    refine rn 9 ?_
    refine rn 10 ?_
    refine rn 11 ?_
    refine AL.nil ?_; simp only [thenQ, inQ]
    (repeat refine AWp.seq ?_)
    refine rc (t := true) (fun hb => ?_) (fun hb => by cases hb)
    -- REGION 2
    (repeat refine AWp.seq ?_); refine AWp.region ?_
    refine rn 1 ?_
    refine AL.nil ?_; simp only [thenQ, inQ]
    refine AWp.ret ?_; (try simp only [inQ, thenQ]); refine rret 0 ?_
    first | exact ⟨rfl, rfl⟩ | (refine ⟨?_, rfl⟩; (try simp only [pack, engA, engL]); (try simp_all [Thread.may, inL]) <;> first | omega | (rw [Bool.eq_iff_iff]; simp only [Bool.and_eq_true, Bool.or_eq_true, decide_eq_true_eq]; omega) | (simp only [decide_eq_decide]; omega))
  · skip
    refine rn 5 ?_
    refine rsp 11 (fun hb => ?_) (fun hb => ?_)
    · skip
      refine rn 9 ?_
      refine rn 10 ?_
      refine rn 6 ?_
      refine AL.nil ?_; simp only [thenQ, inQ]
      (repeat refine AWp.seq ?_)
      refine rc (t := true) (fun hb => ?_) (fun hb => by cases hb)
      -- REGION 2
      (repeat refine AWp.seq ?_); refine AWp.region ?_
      refine rn 1 ?_
      refine AL.nil ?_; simp only [thenQ, inQ]
      refine AWp.ret ?_; (try simp only [inQ, thenQ]); refine rret 0 ?_
      first | exact ⟨rfl, rfl⟩ | (refine ⟨?_, rfl⟩; (try simp only [pack, engA, engL]); (try simp_all [Thread.may, inL]) <;> first | omega | (rw [Bool.eq_iff_iff]; simp only [Bool.and_eq_true, Bool.or_eq_true, decide_eq_true_eq]; omega) | (simp only [decide_eq_decide]; omega))
    · skip
      refine rn 5 ?_
      refine rsp 16 (fun hb => ?_) (fun hb => ?_)
      · skip
        refine rn 9 ?_
        refine rn 11 ?_
        refine AL.nil ?_; simp only [thenQ, inQ]
        (repeat refine AWp.seq ?_)
        refine rc (t := true) (fun hb => ?_) (fun hb => by cases hb)
        -- REGION 2
        (repeat refine AWp.seq ?_); refine AWp.region ?_
        refine rn 1 ?_
        refine AL.nil ?_; simp only [thenQ, inQ]
        refine AWp.ret ?_; (try simp only [inQ, thenQ]); refine rret 0 ?_
        first | exact ⟨rfl, rfl⟩ | (refine ⟨?_, rfl⟩; (try simp only [pack, engA, engL]); (try simp_all [Thread.may, inL]) <;> first | omega | (rw [Bool.eq_iff_iff]; simp only [Bool.and_eq_true, Bool.or_eq_true, decide_eq_true_eq]; omega) | (simp only [decide_eq_decide]; omega))
      · skip
        refine rn 5 ?_
        refine rsp 21 (fun hb => ?_) (fun hb => ?_)
        · skip
          refine rn 9 ?_
          refine rn 6 ?_
          refine AL.nil ?_; simp only [thenQ, inQ]
          (repeat refine AWp.seq ?_)
          refine rc (t := true) (fun hb => ?_) (fun hb => by cases hb)
          -- REGION 2
          (repeat refine AWp.seq ?_); refine AWp.region ?_
          refine rn 1 ?_
          refine AL.nil ?_; simp only [thenQ, inQ]
          refine AWp.ret ?_; (try simp only [inQ, thenQ]); refine rret 0 ?_
          first | exact ⟨rfl, rfl⟩ | (refine ⟨?_, rfl⟩; (try simp only [pack, engA, engL]); (try simp_all [Thread.may, inL]) <;> first | omega | (rw [Bool.eq_iff_iff]; simp only [Bool.and_eq_true, Bool.or_eq_true, decide_eq_true_eq]; omega) | (simp only [decide_eq_decide]; omega))
        · skip
          refine rn 5 ?_
          refine rsp 26 (fun hb => ?_) (fun hb => ?_)
          · skip
            refine rn 10 ?_
            refine AL.nil ?_; simp only [thenQ, inQ]
            (repeat refine AWp.seq ?_)
            refine rc (t := true) (fun hb => ?_) (fun hb => by cases hb)
            -- REGION 2
            (repeat refine AWp.seq ?_); refine AWp.region ?_
            refine rn 1 ?_
            refine AL.nil ?_; simp only [thenQ, inQ]
            refine AWp.ret ?_; (try simp only [inQ, thenQ]); refine rret 0 ?_
            first | exact ⟨rfl, rfl⟩ | (refine ⟨?_, rfl⟩; (try simp only [pack, engA, engL]); (try simp_all [Thread.may, inL]) <;> first | omega | (rw [Bool.eq_iff_iff]; simp only [Bool.and_eq_true, Bool.or_eq_true, decide_eq_true_eq]; omega) | (simp only [decide_eq_decide]; omega))
          · skip
            refine rn 5 ?_
            refine rsp 31 (fun hb => ?_) (fun hb => ?_)
            · skip
              refine rn 5 ?_
              refine AL.nil ?_; simp only [thenQ, inQ]
              (repeat refine AWp.seq ?_)
              refine rc (t := true) (fun hb => ?_) (fun hb => by cases hb)
              -- REGION 2
              (repeat refine AWp.seq ?_); refine AWp.region ?_
              refine rn 1 ?_
              refine AL.nil ?_; simp only [thenQ, inQ]
              refine AWp.ret ?_; (try simp only [inQ, thenQ]); refine rret 0 ?_
              first | exact ⟨rfl, rfl⟩ | (refine ⟨?_, rfl⟩; (try simp only [pack, engA, engL]); (try simp_all [Thread.may, inL]) <;> first | omega | (rw [Bool.eq_iff_iff]; simp only [Bool.and_eq_true, Bool.or_eq_true, decide_eq_true_eq]; omega) | (simp only [decide_eq_decide]; omega))
            · skip
              refine rn 5 ?_
              refine AL.nil ?_; simp only [thenQ, inQ]
              (repeat refine AWp.seq ?_)
              refine rc (fun hb => ?_) (fun hb => ?_)
              · skip
                -- REGION 2
                (repeat refine AWp.seq ?_); refine AWp.region ?_
                refine rn 1 ?_
                refine AL.nil ?_; simp only [thenQ, inQ]
                refine AWp.ret ?_; (try simp only [inQ, thenQ]); refine rret 0 ?_
                first | exact ⟨rfl, rfl⟩ | (refine ⟨?_, rfl⟩; (try simp only [pack, engA, engL]); (try simp_all [Thread.may, inL]) <;> first | omega | (rw [Bool.eq_iff_iff]; simp only [Bool.and_eq_true, Bool.or_eq_true, decide_eq_true_eq]; omega) | (simp only [decide_eq_decide]; omega))
              · skip
                (repeat refine AWp.seq ?_)
                refine AWp.skip ?_
                (try simp only [inQ, thenQ])
                -- REGION 3
                (repeat refine AWp.seq ?_); refine AWp.region ?_
                refine rn 4 ?_
                refine rsp 40 (fun hb => ?_) (fun hb => ?_)
                · skip
                  refine rn 6 ?_
                  refine AL.nil ?_; simp only [thenQ, inQ]
                  refine AWp.ret ?_; (try simp only [inQ, thenQ]); refine rret 0 ?_
                  first | exact ⟨rfl, rfl⟩ | (refine ⟨?_, rfl⟩; (try simp only [pack, engA, engL]); (try simp_all [Thread.may, inL]) <;> first | omega | (rw [Bool.eq_iff_iff]; simp only [Bool.and_eq_true, Bool.or_eq_true, decide_eq_true_eq]; omega) | (simp only [decide_eq_decide]; omega))
                · skip
                  refine rn 6 ?_
                  refine AL.nil ?_; simp only [thenQ, inQ]
                  refine AWp.ret ?_; (try simp only [inQ, thenQ]); refine rret 0 ?_
                  first | exact ⟨rfl, rfl⟩ | (refine ⟨?_, rfl⟩; (try simp only [pack, engA, engL]); (try simp_all [Thread.may, inL]) <;> first | omega | (rw [Bool.eq_iff_iff]; simp only [Bool.and_eq_true, Bool.or_eq_true, decide_eq_true_eq]; omega) | (simp only [decide_eq_decide]; omega))

theorem c_ragpickerref15_Asked (G : Globs) (c : Col) (t : Thread) : ACall Tryz.prog G 21 [colV c, threadV t] [] (fun r L' => r = boolv (asked c t) ∧ L' = []) := by
  refine ACall.enter Tryz.func21 rfl Tryz.ntmps21 (by rw [Tryz.results21]) (Nat.le_of_ble_eq_true rfl) rfl ?_
  -- REGION 0
  (repeat refine AWp.seq ?_); refine AWp.region ?_
  refine rn 3 ?_
  refine AL.nil ?_; simp only [thenQ, inQ]
  -- REGION 1
  (repeat refine AWp.seq ?_); refine AWp.region ?_
  refine rn 1 ?_
  refine rcall Tryz.call42 (hC := c_ragpickerref12_May G _) (kk := ?_); simp only [Av.put]
  refine rn 1 ?_
  refine AL.nil ?_; simp only [thenQ, inQ]
  -- REGION 2
  (repeat refine AWp.seq ?_); refine AWp.region ?_
  refine rn 2 ?_
  refine rsp 9 (fun hb => ?_) (fun hb => ?_)
  · skip
    refine rn 4 ?_
    refine rsp 13 (fun hb => ?_) (fun hb => ?_)
    · skip
      refine rn 5 ?_
      refine rsp 18 (fun hb => ?_) (fun hb => ?_)
      · skip
        refine rn 2 ?_
        refine rcallG Tryz.call43 (hC := c_ragpickerref15_Answered G _ _) (kk := ?_); simp only [Av.put]
        refine rn 3 ?_
        refine AL.nil ?_; simp only [thenQ, inQ]
        refine AWp.ret ?_; (try simp only [inQ, thenQ]); refine rret 0 ?_
        first | exact ⟨rfl, rfl⟩ | (refine ⟨?_, rfl⟩; (try simp only [pack, engA, engL]); (try simp_all [asked]) <;> first | omega | (rw [Bool.eq_iff_iff]; simp only [Bool.and_eq_true, Bool.or_eq_true, decide_eq_true_eq]; omega) | (simp only [decide_eq_decide]; omega))
      · skip
        refine rn 6 ?_
        refine AL.nil ?_; simp only [thenQ, inQ]
        refine AWp.ret ?_; (try simp only [inQ, thenQ]); refine rret 0 ?_
        first | exact ⟨rfl, rfl⟩ | (refine ⟨?_, rfl⟩; (try simp only [pack, engA, engL]); (try simp_all [asked]) <;> first | omega | (rw [Bool.eq_iff_iff]; simp only [Bool.and_eq_true, Bool.or_eq_true, decide_eq_true_eq]; omega) | (simp only [decide_eq_decide]; omega))
    · skip
      refine rn 10 ?_
      refine rn 1 ?_
      refine AL.nil ?_; simp only [thenQ, inQ]
      refine AWp.ret ?_; (try simp only [inQ, thenQ]); refine rret 0 ?_
      first | exact ⟨rfl, rfl⟩ | (refine ⟨?_, rfl⟩; (try simp only [pack, engA, engL]); (try simp_all [asked]) <;> first | omega | (rw [Bool.eq_iff_iff]; simp only [Bool.and_eq_true, Bool.or_eq_true, decide_eq_true_eq]; omega) | (simp only [decide_eq_decide]; omega))
  · skip
    refine rn 8 ?_
    refine rn 7 ?_
    refine AL.nil ?_; simp only [thenQ, inQ]
    refine AWp.ret ?_; (try simp only [inQ, thenQ]); refine rret 0 ?_
    first | exact ⟨rfl, rfl⟩ | (refine ⟨?_, rfl⟩; (try simp only [pack, engA, engL]); (try simp_all [asked]) <;> first | omega | (rw [Bool.eq_iff_iff]; simp only [Bool.and_eq_true, Bool.or_eq_true, decide_eq_true_eq]; omega) | (simp only [decide_eq_decide]; omega))

theorem c_ragpickerref07_Light (G : Globs) (l : Lists) : ACall Tryz.prog G 45 [listsV l] [] (fun r L' => r = boolv (l.light) ∧ L' = []) := by
  refine ACall.enter Tryz.func45 rfl Tryz.ntmps45 (by rw [Tryz.results45]) (Nat.le_of_ble_eq_true rfl) rfl ?_
  -- REGION 0
  (repeat refine AWp.seq ?_); refine AWp.region ?_
  refine rn 2 ?_
  refine AL.nil ?_; simp only [thenQ, inQ]
  -- REGION 1
  (repeat refine AWp.seq ?_); refine AWp.region ?_
  refine rn 5 ?_
  refine rsp 7 (fun hb => ?_) (fun hb => ?_)
  · skip
    refine rn 6 ?_
    refine rsp 13 (fun hb => ?_) (fun hb => ?_)
    · skip
      refine rn 6 ?_
      refine AL.nil ?_; simp only [thenQ, inQ]
      refine AWp.ret ?_; (try simp only [inQ, thenQ]); refine rret 0 ?_
      first | exact ⟨rfl, rfl⟩ | (refine ⟨?_, rfl⟩; (try simp only [pack, engA, engL]); (try simp_all [Lists.light]) <;> first | omega | (rw [Bool.eq_iff_iff]; simp only [Bool.and_eq_true, Bool.or_eq_true, decide_eq_true_eq]; omega) | (simp only [decide_eq_decide]; omega))
    · skip
      refine rn 6 ?_
      refine AL.nil ?_; simp only [thenQ, inQ]
      refine AWp.ret ?_; (try simp only [inQ, thenQ]); refine rret 0 ?_
      first | exact ⟨rfl, rfl⟩ | (refine ⟨?_, rfl⟩; (try simp only [pack, engA, engL]); (try simp_all [Lists.light]) <;> first | omega | (rw [Bool.eq_iff_iff]; simp only [Bool.and_eq_true, Bool.or_eq_true, decide_eq_true_eq]; omega) | (simp only [decide_eq_decide]; omega))
  · skip
    refine rn 11 ?_
    refine rn 1 ?_
    refine AL.nil ?_; simp only [thenQ, inQ]
    refine AWp.ret ?_; (try simp only [inQ, thenQ]); refine rret 0 ?_
    first | exact ⟨rfl, rfl⟩ | (refine ⟨?_, rfl⟩; (try simp only [pack, engA, engL]); (try simp_all [Lists.light]) <;> first | omega | (rw [Bool.eq_iff_iff]; simp only [Bool.and_eq_true, Bool.or_eq_true, decide_eq_true_eq]; omega) | (simp only [decide_eq_decide]; omega))

theorem c_ragpickerref07_Few (G : Globs) (h : Heap) : ACall Tryz.prog G 24 [heapV h] [] (fun r L' => r = boolv h.few ∧ L' = []) := by
  refine ACall.enter Tryz.func24 rfl Tryz.ntmps24 (by rw [Tryz.results24]) (Nat.le_of_ble_eq_true rfl) rfl ?_
  -- REGION 0
  (repeat refine AWp.seq ?_); refine AWp.region ?_
  refine rn 2 ?_
  refine AL.nil ?_; simp only [thenQ, inQ]
  -- REGION 1
  (repeat refine AWp.seq ?_); refine AWp.region ?_
  refine rn 5 ?_
  refine rsp 7 (fun hb => ?_) (fun hb => ?_)
  · skip
    refine rn 6 ?_
    refine rsp 13 (fun hb => ?_) (fun hb => ?_)
    · skip
      refine rn 6 ?_
      refine rsp 19 (fun hb => ?_) (fun hb => ?_)
      · skip
        refine rn 2 ?_
        refine rcallG Tryz.call45 (hC := c_ragpickerref07_Light G _) (kk := ?_); simp only [Av.put]
        refine rn 2 ?_
        refine AL.nil ?_; simp only [thenQ, inQ]
        refine AWp.ret ?_; (try simp only [inQ, thenQ]); refine rret 0 ?_
        first | exact ⟨rfl, rfl⟩ | (refine ⟨?_, rfl⟩; (try simp only [pack, engA, engL]); (try simp_all [Heap.few]) <;> first | omega | (rw [Bool.eq_iff_iff]; simp only [Bool.and_eq_true, Bool.or_eq_true, decide_eq_true_eq]; omega) | (simp only [decide_eq_decide]; omega))
      · skip
        refine rn 5 ?_
        refine AL.nil ?_; simp only [thenQ, inQ]
        refine AWp.ret ?_; (try simp only [inQ, thenQ]); refine rret 0 ?_
        first | exact ⟨rfl, rfl⟩ | (refine ⟨?_, rfl⟩; (try simp only [pack, engA, engL]); (try simp_all [Heap.few]) <;> first | omega | (rw [Bool.eq_iff_iff]; simp only [Bool.and_eq_true, Bool.or_eq_true, decide_eq_true_eq]; omega) | (simp only [decide_eq_decide]; omega))
    · skip
      refine rn 10 ?_
      refine rn 1 ?_
      refine AL.nil ?_; simp only [thenQ, inQ]
      refine AWp.ret ?_; (try simp only [inQ, thenQ]); refine rret 0 ?_
      first | exact ⟨rfl, rfl⟩ | (refine ⟨?_, rfl⟩; (try simp only [pack, engA, engL]); (try simp_all [Heap.few]) <;> first | omega | (rw [Bool.eq_iff_iff]; simp only [Bool.and_eq_true, Bool.or_eq_true, decide_eq_true_eq]; omega) | (simp only [decide_eq_decide]; omega))
  · skip
    refine rn 11 ?_
    refine rn 6 ?_
    refine AL.nil ?_; simp only [thenQ, inQ]
    refine AWp.ret ?_; (try simp only [inQ, thenQ]); refine rret 0 ?_
    first | exact ⟨rfl, rfl⟩ | (refine ⟨?_, rfl⟩; (try simp only [pack, engA, engL]); (try simp_all [Heap.few]) <;> first | omega | (rw [Bool.eq_iff_iff]; simp only [Bool.and_eq_true, Bool.or_eq_true, decide_eq_true_eq]; omega) | (simp only [decide_eq_decide]; omega))

theorem c_ragpickerref12_Few (G : Globs) (t : Thread) : ACall Tryz.prog G 25 [threadV t] [] (fun r L' => r = boolv t.few ∧ L' = []) := by
  refine ACall.enter Tryz.func25 rfl Tryz.ntmps25 (by rw [Tryz.results25]) (Nat.le_of_ble_eq_true rfl) rfl ?_
  -- REGION 0
  (repeat refine AWp.seq ?_); refine AWp.region ?_
  refine rn 2 ?_
  refine AL.nil ?_; simp only [thenQ, inQ]
  -- REGION 1
  (repeat refine AWp.seq ?_); refine AWp.region ?_
  refine rn 5 ?_
  refine rsp 7 (fun hb => ?_) (fun hb => ?_)
  · skip
    refine rn 2 ?_
    refine rcallG Tryz.call45 (hC := c_ragpickerref07_Light G _) (kk := ?_); simp only [Av.put]
    refine rn 2 ?_
    refine AL.nil ?_; simp only [thenQ, inQ]
    refine AWp.ret ?_; (try simp only [inQ, thenQ]); refine rret 0 ?_
    first | exact ⟨rfl, rfl⟩ | (refine ⟨?_, rfl⟩; (try simp only [pack, engA, engL]); (try simp_all [Thread.few]) <;> first | omega | (rw [Bool.eq_iff_iff]; simp only [Bool.and_eq_true, Bool.or_eq_true, decide_eq_true_eq]; omega) | (simp only [decide_eq_decide]; omega))
  · skip
    refine rn 5 ?_
    refine AL.nil ?_; simp only [thenQ, inQ]
    refine AWp.ret ?_; (try simp only [inQ, thenQ]); refine rret 0 ?_
    first | exact ⟨rfl, rfl⟩ | (refine ⟨?_, rfl⟩; (try simp only [pack, engA, engL]); (try simp_all [Thread.few]) <;> first | omega | (rw [Bool.eq_iff_iff]; simp only [Bool.and_eq_true, Bool.or_eq_true, decide_eq_true_eq]; omega) | (simp only [decide_eq_decide]; omega))

theorem c_ragpickerlaw15_few (G : Globs) (h : Heap) (c : Col) (t : Thread) : ACall Tryz.prog G 7 [heapV h, colV c, threadV t] [] (fun r L' => r = boolv (few15 h c t) ∧ L' = []) := by
  refine ACall.enter Tryz.func7 rfl Tryz.ntmps7 (by rw [Tryz.results7]) (Nat.le_of_ble_eq_true rfl) rfl ?_
  -- REGION 0
  (repeat refine AWp.seq ?_); refine AWp.region ?_
  refine rn 4 ?_
  refine AL.nil ?_; simp only [thenQ, inQ]
  -- REGION 1
  (repeat refine AWp.seq ?_); refine AWp.region ?_
  refine rn 1 ?_
  refine rcall Tryz.call24 (hC := c_ragpickerref07_Few G _) (kk := ?_); simp only [Av.put]
  refine rn 1 ?_
  refine rsp 9 (fun hb => ?_) (fun hb => ?_)
  · skip
    refine rn 6 ?_
    refine rsp 15 (fun hb => ?_) (fun hb => ?_)
    · skip
      refine rn 1 ?_
      refine rcallG Tryz.call25 (hC := c_ragpickerref12_Few G _) (kk := ?_); simp only [Av.put]
      refine rn 2 ?_
      refine AL.nil ?_; simp only [thenQ, inQ]
      refine AWp.ret ?_; (try simp only [inQ, thenQ]); refine rret 0 ?_
      first | exact ⟨rfl, rfl⟩ | (refine ⟨?_, rfl⟩; (try simp only [pack, engA, engL]); (try simp_all [few15]) <;> first | omega | (rw [Bool.eq_iff_iff]; simp only [Bool.and_eq_true, Bool.or_eq_true, decide_eq_true_eq]; omega) | (simp only [decide_eq_decide]; omega))
    · skip
      refine rn 4 ?_
      refine AL.nil ?_; simp only [thenQ, inQ]
      refine AWp.ret ?_; (try simp only [inQ, thenQ]); refine rret 0 ?_
      first | exact ⟨rfl, rfl⟩ | (refine ⟨?_, rfl⟩; (try simp only [pack, engA, engL]); (try simp_all [few15]) <;> first | omega | (rw [Bool.eq_iff_iff]; simp only [Bool.and_eq_true, Bool.or_eq_true, decide_eq_true_eq]; omega) | (simp only [decide_eq_decide]; omega))
  · skip
    refine rn 9 ?_
    refine rn 1 ?_
    refine AL.nil ?_; simp only [thenQ, inQ]
    refine AWp.ret ?_; (try simp only [inQ, thenQ]); refine rret 0 ?_
    first | exact ⟨rfl, rfl⟩ | (refine ⟨?_, rfl⟩; (try simp only [pack, engA, engL]); (try simp_all [few15]) <;> first | omega | (rw [Bool.eq_iff_iff]; simp only [Bool.and_eq_true, Bool.or_eq_true, decide_eq_true_eq]; omega) | (simp only [decide_eq_decide]; omega))

end Go.Proofs
end
