/- Part 11 of 22 of a proof: own engine, contracts and facts. -/
import Derived.IntWalk
import Derived.Test.YtibcgaffjaekfaaGreatDoorPAI
import Derived.Test.YtibcgaffjaekfaaGreatDoorPAJ
set_option linter.all false
section
/- The steps of functions that are ranged over, with their reckoning as automatic arguments. -/
set_option linter.all false
set_option maxRecDepth 20000
namespace Go.Proofs
open Go Av Rp
section
variable {C : Cx} {Q : QT} {T : Tm} {L : List Blk}
theorem ryield {ops : Array Oper} {o : Oper} {rest : List Oper} {fv : Operand} {args : Array Operand} {ts : Array TypeId} {i n : Nat} {Lp Lq Lx : List Blk} {xs : List SV} {x : SV}
    (hc : YC C.P C.G C.K.k i xs Lp (fun r L' => r = x ∧ L' = Lq)) (kk : AL C ops Q rest (put T o.dst x) (Lq ++ Lx)) (hn : Lp.length = n) (hi : i < n) (hK : C.K.k ≤ n) (hm : noMarks Lp = true) (hLp : Lp.all (Blk.lt n) = true)
    (ho : o.op = .call ⟨.value fv, args, ts⟩ := by rfl) (hg : o.guard = none := by rfl) (hd : dstOk C.N o.dst = true := by rfl) (hfv : aev C.G T fv = some (.yl i) := by rfl)
    (hxs : aevs C.G T args.toList = some xs := by simp only [engA, engL, engT, reduceIte, reduceCtorEq, Nat.reduceLT, Nat.reduceLeDiff, Nat.reduceAdd, Nat.reduceSub, Nat.reduceMul, Nat.reduceEqDiff, Nat.reduceBneDiff, Nat.le_refl, Bool.false_eq_true, Int.reduceLT, Int.reduceLE, Int.reduceAdd, Int.reduceSub, Int.reduceMul, Int.reduceToNat, Int.reduceEq, Int.cast_ofNat_Int, Int.reduceNeg] <;> rfl) (hxl : ltL n xs = true := by simp only [engA, engL, engT, reduceIte, reduceCtorEq, Nat.reduceLT, Nat.reduceLeDiff, Nat.reduceAdd, Nat.reduceSub, Nat.reduceMul, Nat.reduceEqDiff, Nat.reduceBneDiff, Nat.le_refl, Bool.false_eq_true, Int.reduceLT, Int.reduceLE, Int.reduceAdd, Int.reduceSub, Int.reduceMul, Int.reduceToNat, Int.reduceEq, Int.cast_ofNat_Int, Int.reduceNeg]) (hT : boT n T = true := by simp only [engA, engL, engT, reduceIte, reduceCtorEq, Nat.reduceLT, Nat.reduceLeDiff, Nat.reduceAdd, Nat.reduceSub, Nat.reduceMul, Nat.reduceEqDiff, Nat.reduceBneDiff, Nat.le_refl, Bool.false_eq_true, Int.reduceLT, Int.reduceLE, Int.reduceAdd, Int.reduceSub, Int.reduceMul, Int.reduceToNat, Int.reduceEq, Int.cast_ofNat_Int, Int.reduceNeg]) (hLx : Lx.all (Blk.bo n) = true := by simp only [engA, engL, engT, reduceIte, reduceCtorEq, Nat.reduceLT, Nat.reduceLeDiff, Nat.reduceAdd, Nat.reduceSub, Nat.reduceMul, Nat.reduceEqDiff, Nat.reduceBneDiff, Nat.le_refl, Bool.false_eq_true, Int.reduceLT, Int.reduceLE, Int.reduceAdd, Int.reduceSub, Int.reduceMul, Int.reduceToNat, Int.reduceEq, Int.cast_ofNat_Int, Int.reduceNeg]) :
    AL C ops Q (o :: rest) T (Lp ++ Lx) := by
  refine AL.cons (OpTo.yield ho hd hfv hxs rfl hn hi hxl hT hLx hLp hm hK hc) hg ?_
  rintro T' L' ⟨r, Lp', ⟨rfl, rfl⟩, _, rfl, rfl⟩
  exact kk
theorem rretM {P : Program} {K n : Nat} {rs : List ResultVar} {Qf : SV → List Blk → Prop} {Lp Lx : List Blk} {ss : List SV} (hK : K = n) (hlen : Lp.length = n) (hm : noMarks Lp = true) (hlt : Lp.all (Blk.lt n) = true) (hr : resS P (Lp ++ Lx) T rs = some ss) (hl : (pack ss).lt n = true) (hq : Qf (pack ss) Lp) :
    retQM P K rs Qf .ret T (Lp ++ Lx) := by
  subst hK
  have e : (Lp ++ Lx).take K = Lp := by rw [← hlen, List.take_left']; rfl
  exact ⟨K, ss, Nat.le_refl _, by rw [e]; exact hm, hr, hl, by rw [e]; exact hlt, by rw [e]; exact hq⟩
theorem rnorM {P : Program} {K n : Nat} {rs : List ResultVar} {Qf : SV → List Blk → Prop} {Lp Lx : List Blk} {ss : List SV} (hK : K = n) (hlen : Lp.length = n) (hm : noMarks Lp = true) (hlt : Lp.all (Blk.lt n) = true) (hr : resS P (Lp ++ Lx) T rs = some ss) (hl : (pack ss).lt n = true) (hq : Qf (pack ss) Lp) :
    retQM P K rs Qf .normal T (Lp ++ Lx) := rretM hK hlen hm hlt hr hl hq
theorem rbuildN {ops : Array Oper} {o : Oper} {rest : List Oper} {t e : TypeId} {n : Nat} {parts : Array (Nat × Operand)} {ti te : TI} {z : List Value} {ss cs : List SV} {ivs : List IV} {es : List (List IV)}
    (hti : tinfo C.P t = some ti) (hte : tinfo C.P e = some te) (kk : AL C ops Q rest (put T o.dst (.im (.sl te.size es))) L)
    (ho : o.op = .buildSlice t n parts := by rfl) (hg : o.guard = none := by rfl) (hd : dstOk C.N o.dst = true := by rfl) (hk : ti.kind = .slice e := by rfl) (hz : te.zero = some z := by rfl) (hle : n * te.size ≤ 2 ^ 24 := by decide)
    (hs : aevs C.G T (parts.toList.map (·.2)) = some ss := by simp only [engA, engL, engT, reduceIte, reduceCtorEq, Nat.reduceLT, Nat.reduceLeDiff, Nat.reduceAdd, Nat.reduceSub, Nat.reduceMul, Nat.reduceEqDiff, Nat.reduceBneDiff, Nat.le_refl, Bool.false_eq_true, Int.reduceLT, Int.reduceLE, Int.reduceAdd, Int.reduceSub, Int.reduceMul, Int.reduceToNat, Int.reduceEq, Int.cast_ofNat_Int, Int.reduceNeg] <;> rfl)
    (hb : buildS (fun i => some (i * te.size, te.size)) (List.replicate (n * te.size) .any) ((parts.toList.map (·.1)).zip ss) = some cs := by simp only [List.replicate_succ, List.replicate_zero, Nat.reduceMul, Nat.reduceAdd, engA, engL, engT, reduceIte, reduceCtorEq, Nat.reduceLT, Nat.reduceLeDiff, Nat.reduceAdd, Nat.reduceSub, Nat.reduceMul, Nat.reduceEqDiff, Nat.reduceBneDiff, Nat.le_refl, Bool.false_eq_true, Int.reduceLT, Int.reduceLE, Int.reduceAdd, Int.reduceSub, Int.reduceMul, Int.reduceToNat, Int.reduceEq, Int.cast_ofNat_Int, Int.reduceNeg] <;> rfl)
    (hi : ims cs = some ivs := by simp only [engA, engL, engT, reduceIte, reduceCtorEq, Nat.reduceLT, Nat.reduceLeDiff, Nat.reduceAdd, Nat.reduceSub, Nat.reduceMul, Nat.reduceEqDiff, Nat.reduceBneDiff, Nat.le_refl, Bool.false_eq_true, Int.reduceLT, Int.reduceLE, Int.reduceAdd, Int.reduceSub, Int.reduceMul, Int.reduceToNat, Int.reduceEq, Int.cast_ofNat_Int, Int.reduceNeg] <;> rfl) (hbig : n ≤ bigN := by decide) (hes : chunks te.size n ivs = es := by simp only [engA, engL, engT, reduceIte, reduceCtorEq, Nat.reduceLT, Nat.reduceLeDiff, Nat.reduceAdd, Nat.reduceSub, Nat.reduceMul, Nat.reduceEqDiff, Nat.reduceBneDiff, Nat.le_refl, Bool.false_eq_true, Int.reduceLT, Int.reduceLE, Int.reduceAdd, Int.reduceSub, Int.reduceMul, Int.reduceToNat, Int.reduceEq, Int.cast_ofNat_Int, Int.reduceNeg] <;> rfl) : AL C ops Q (o :: rest) T L := by
  refine AL.cons (OpTo.buildN ho hd hti hk hte hz hle hs hb hi hbig) hg ?_
  rintro T' L' ⟨rfl, rfl⟩
  rw [hes]; exact kk
theorem rappI {ops : Array Oper} {o : Oper} {rest : List Oper} {t e : TypeId} {ti te : TI} {z : List Value} {x y : Operand} {es ys : List (List IV)} {T' : Tm} {L' : List Blk} (i : Nat)
    (hti : tinfo C.P t = some ti) (hte : tinfo C.P e = some te) (hbig : es.length + ys.length ≤ bigN) (hK : C.K.k ≤ i) (kk : AL C ops Q rest T' L')
    (ho : o.op = .call ⟨.builtin .append, #[x, y], #[t, t]⟩ := by rfl) (hg : o.guard = none := by rfl) (hd : dstOk C.N o.dst = true := by rfl) (hk : ti.kind = .slice e := by rfl) (hz : te.zero = some z := by rfl) (hzl : z.length = te.size := by rfl)
    (hb0 : te.bytes ≠ 0 := by decide) (hb1 : te.bytes ≤ 512 := by decide) (hx : aev C.G T x = some (.app i) := by simp only [engA, engL, engT, reduceIte, reduceCtorEq, Nat.reduceLT, Nat.reduceLeDiff, Nat.reduceAdd, Nat.reduceSub, Nat.reduceMul, Nat.reduceEqDiff, Nat.reduceBneDiff, Nat.le_refl, Bool.false_eq_true, Int.reduceLT, Int.reduceLE, Int.reduceAdd, Int.reduceSub, Int.reduceMul, Int.reduceToNat, Int.reduceEq, Int.cast_ofNat_Int, Int.reduceNeg] <;> rfl) (hL : L[i]? = some (.app te.size es e) := by simp only [engA, engL, engT, reduceIte, reduceCtorEq, Nat.reduceLT, Nat.reduceLeDiff, Nat.reduceAdd, Nat.reduceSub, Nat.reduceMul, Nat.reduceEqDiff, Nat.reduceBneDiff, Nat.le_refl, Bool.false_eq_true, Int.reduceLT, Int.reduceLE, Int.reduceAdd, Int.reduceSub, Int.reduceMul, Int.reduceToNat, Int.reduceEq, Int.cast_ofNat_Int, Int.reduceNeg] <;> rfl)
    (hy : aev C.G T y = some (.im (.sl te.size ys)) := by simp only [engA, engL, engT, reduceIte, reduceCtorEq, Nat.reduceLT, Nat.reduceLeDiff, Nat.reduceAdd, Nat.reduceSub, Nat.reduceMul, Nat.reduceEqDiff, Nat.reduceBneDiff, Nat.le_refl, Bool.false_eq_true, Int.reduceLT, Int.reduceLE, Int.reduceAdd, Int.reduceSub, Int.reduceMul, Int.reduceToNat, Int.reduceEq, Int.cast_ofNat_Int, Int.reduceNeg] <;> rfl) (hoc : ∀ r, r ∈ ys → ∀ c, c ∈ r → oc (.im c) = true := by (intro r hr c hc; simp only [List.mem_cons, List.not_mem_nil, or_false] at hr; subst hr; simp only [List.mem_cons, List.not_mem_nil, or_false] at hc; subst hc; rfl))
    (hT : klT i L.length (put T o.dst (.app L.length)) = T' := by simp only [engA, engL, engT, reduceIte, reduceCtorEq, Nat.reduceLT, Nat.reduceLeDiff, Nat.reduceAdd, Nat.reduceSub, Nat.reduceMul, Nat.reduceEqDiff, Nat.reduceBneDiff, Nat.le_refl, Bool.false_eq_true, Int.reduceLT, Int.reduceLE, Int.reduceAdd, Int.reduceSub, Int.reduceMul, Int.reduceToNat, Int.reduceEq, Int.cast_ofNat_Int, Int.reduceNeg] <;> rfl) (hLq : (L.map (Blk.kl i L.length)).set i (.app te.size (es ++ ys) e) = L' := by simp only [engA, engL, engT, reduceIte, reduceCtorEq, Nat.reduceLT, Nat.reduceLeDiff, Nat.reduceAdd, Nat.reduceSub, Nat.reduceMul, Nat.reduceEqDiff, Nat.reduceBneDiff, Nat.le_refl, Bool.false_eq_true, Int.reduceLT, Int.reduceLE, Int.reduceAdd, Int.reduceSub, Int.reduceMul, Int.reduceToNat, Int.reduceEq, Int.cast_ofNat_Int, Int.reduceNeg] <;> rfl) : AL C ops Q (o :: rest) T L := by
  refine AL.cons (OpTo.appendI ho hd hti hk hte hz hzl hb0 hb1 hx hL hy hbig hoc hK) hg ?_
  rintro T2 L2 ⟨rfl, rfl⟩
  rw [hT, hLq]; exact kk
theorem rdrawsO {id : Nat} {l : List Oper} {T0 : Tm} {L0 : List Blk} {xs : List SV} {Ls : List (List Blk)} (rows : List Row) (m : Nat) (cs : List (Nat × SV)) (hm : C.P.follows .mixedOrders = true)
    (hO : AllOps C l (tS (fun _ => true) (fun i => xs.getD i .any) T0 l 0) cs ∧ Q .normal (tS (fun _ => true) (fun i => xs.getD i .any) T0 l 0) ((L0 :: Ls).getD m []))
    (h0 : trun C.P C.G l.toArray (lk cs) l rows 0 T0 L0 = some (xs, Ls) := by simp only [trun, oev, lk, chkAll, chkFrom, tS, undefS, List.getD_cons_zero, List.getD_cons_succ, if_true, engA, engL, engT, reduceIte, reduceCtorEq, Nat.reduceLT, Nat.reduceLeDiff, Nat.reduceAdd, Nat.reduceSub, Nat.reduceMul, Nat.reduceEqDiff, Nat.reduceBneDiff, Nat.le_refl, Bool.false_eq_true, Int.reduceLT, Int.reduceLE, Int.reduceAdd, Int.reduceSub, Int.reduceMul, Int.reduceToNat, Int.reduceEq, Int.cast_ofNat_Int, Int.reduceNeg] <;> rfl)
    (hp : planOk l rows m = true := by kernel_rfl) (hd : l.all (fun o => dstOk C.N o.dst) = true := by kernel_rfl)
    (hc : chkAll C l.toArray (lk cs) (tS (fun _ => true) (fun i => xs.getD i .any) T0 l 0) (L0 :: Ls) l rows xs 0 := by simp only [trun, oev, lk, chkAll, chkFrom, tS, undefS, List.getD_cons_zero, List.getD_cons_succ, if_true, engA, engL, engT, reduceIte, reduceCtorEq, Nat.reduceLT, Nat.reduceLeDiff, Nat.reduceAdd, Nat.reduceSub, Nat.reduceMul, Nat.reduceEqDiff, Nat.reduceBneDiff, Nat.le_refl, Bool.false_eq_true, Int.reduceLT, Int.reduceLE, Int.reduceAdd, Int.reduceSub, Int.reduceMul, Int.reduceToNat, Int.reduceEq, Int.cast_ofNat_Int, Int.reduceNeg]) : AWp C (.region id l.toArray true) Q T0 L0 :=
  AWp.draws3 rows m cs hm hp hd h0 hc hO.1 hO.2
theorem rcko {l : List Oper} {Tf : Tm} {i : Nat} {y : SV} {o : Oper} {fv : Operand} {args : Array Operand} {ts : Array TypeId} {k : FuncId} {fs caps : List IV} {xs : List SV}
    (hrun : ∀ (vs : Array Value) (W : World), (callFunc k vs).run C.P W = .ok (.enter k vs) W)
    (hl : l[i]? = some o := by rfl) (ho : o.op = .call ⟨.value fv, args, ts⟩ := by rfl) (hfv : aev C.G Tf fv = some (.im (.fn k fs caps)) := by rfl)
    (hxs : callArgs C.G Tf fs args.toList caps = some xs := by simp only [callArgs, tS, List.getD_cons_zero, List.getD_cons_succ, if_true, engA, engL, engT, reduceIte, reduceCtorEq, Nat.reduceLT, Nat.reduceLeDiff, Nat.reduceAdd, Nat.reduceSub, Nat.reduceMul, Nat.reduceEqDiff, Nat.reduceBneDiff, Nat.le_refl, Bool.false_eq_true, Int.reduceLT, Int.reduceLE, Int.reduceAdd, Int.reduceSub, Int.reduceMul, Int.reduceToNat, Int.reduceEq, Int.cast_ofNat_Int, Int.reduceNeg] <;> rfl) (hC : ACall C.P C.G k xs [] (fun r L' => r = y ∧ L' = [])) (h1 : clL xs = true := by simp only [engA, engL, engT, reduceIte, reduceCtorEq, Nat.reduceLT, Nat.reduceLeDiff, Nat.reduceAdd, Nat.reduceSub, Nat.reduceMul, Nat.reduceEqDiff, Nat.reduceBneDiff, Nat.le_refl, Bool.false_eq_true, Int.reduceLT, Int.reduceLE, Int.reduceAdd, Int.reduceSub, Int.reduceMul, Int.reduceToNat, Int.reduceEq, Int.cast_ofNat_Int, Int.reduceNeg]) (h2 : y.cl = true := by simp only [engA, engL, engT, reduceIte, reduceCtorEq, Nat.reduceLT, Nat.reduceLeDiff, Nat.reduceAdd, Nat.reduceSub, Nat.reduceMul, Nat.reduceEqDiff, Nat.reduceBneDiff, Nat.le_refl, Bool.false_eq_true, Int.reduceLT, Int.reduceLE, Int.reduceAdd, Int.reduceSub, Int.reduceMul, Int.reduceToNat, Int.reduceEq, Int.cast_ofNat_Int, Int.reduceNeg]) (hd : l.all (fun o => dstOk C.N o.dst) = true := by kernel_rfl) : OpOk C l Tf i y :=
  CallOk.op ⟨o, fv, args, ts, k, fs, caps, xs, hl, ho, hfv, hxs, h1, h2, hrun, hC⟩ hd
theorem reqo {l : List Oper} {Tf : Tm} {i : Nat} {o : Oper} {op : BinOp} {t yt : TypeId} {x y : Operand} {sx sy z : SV} {cs ds : List SV} {xs ys : List Value} {b : Bool}
    (heq : ∀ W, (Op.equalIn 10000 t (.agg xs.toArray) (.agg ys.toArray)).run C.P W = .ok b W) (hl : l[i]? = some o := by rfl) (ho : o.op = .binOp op t x y yt := by rfl) (hop : op = .eql ∨ op = .neq := by decide) (hd : dstOk C.N o.dst = true := by rfl)
    (hg : C.P.eqGuardType C.P.depth t = false := by kernel_rfl) (hx : aev C.G Tf x = some sx := by simp only [callArgs, tS, List.getD_cons_zero, List.getD_cons_succ, if_true, engA, engL, engT, reduceIte, reduceCtorEq, Nat.reduceLT, Nat.reduceLeDiff, Nat.reduceAdd, Nat.reduceSub, Nat.reduceMul, Nat.reduceEqDiff, Nat.reduceBneDiff, Nat.le_refl, Bool.false_eq_true, Int.reduceLT, Int.reduceLE, Int.reduceAdd, Int.reduceSub, Int.reduceMul, Int.reduceToNat, Int.reduceEq, Int.cast_ofNat_Int, Int.reduceNeg] <;> rfl) (hy : aev C.G Tf y = some sy := by simp only [callArgs, tS, List.getD_cons_zero, List.getD_cons_succ, if_true, engA, engL, engT, reduceIte, reduceCtorEq, Nat.reduceLT, Nat.reduceLeDiff, Nat.reduceAdd, Nat.reduceSub, Nat.reduceMul, Nat.reduceEqDiff, Nat.reduceBneDiff, Nat.le_refl, Bool.false_eq_true, Int.reduceLT, Int.reduceLE, Int.reduceAdd, Int.reduceSub, Int.reduceMul, Int.reduceToNat, Int.reduceEq, Int.cast_ofNat_Int, Int.reduceNeg] <;> rfl) (hcx : aggOf sx = some cs := by simp only [engA, engL, engT, reduceIte, reduceCtorEq, Nat.reduceLT, Nat.reduceLeDiff, Nat.reduceAdd, Nat.reduceSub, Nat.reduceMul, Nat.reduceEqDiff, Nat.reduceBneDiff, Nat.le_refl, Bool.false_eq_true, Int.reduceLT, Int.reduceLE, Int.reduceAdd, Int.reduceSub, Int.reduceMul, Int.reduceToNat, Int.reduceEq, Int.cast_ofNat_Int, Int.reduceNeg] <;> rfl) (hcy : aggOf sy = some ds := by simp only [engA, engL, engT, reduceIte, reduceCtorEq, Nat.reduceLT, Nat.reduceLeDiff, Nat.reduceAdd, Nat.reduceSub, Nat.reduceMul, Nat.reduceEqDiff, Nat.reduceBneDiff, Nat.le_refl, Bool.false_eq_true, Int.reduceLT, Int.reduceLE, Int.reduceAdd, Int.reduceSub, Int.reduceMul, Int.reduceToNat, Int.reduceEq, Int.cast_ofNat_Int, Int.reduceNeg] <;> rfl)
    (hlx : lits cs = some xs := by simp only [engA, engL, engT, reduceIte, reduceCtorEq, Nat.reduceLT, Nat.reduceLeDiff, Nat.reduceAdd, Nat.reduceSub, Nat.reduceMul, Nat.reduceEqDiff, Nat.reduceBneDiff, Nat.le_refl, Bool.false_eq_true, Int.reduceLT, Int.reduceLE, Int.reduceAdd, Int.reduceSub, Int.reduceMul, Int.reduceToNat, Int.reduceEq, Int.cast_ofNat_Int, Int.reduceNeg] <;> rfl) (hly : lits ds = some ys := by simp only [engA, engL, engT, reduceIte, reduceCtorEq, Nat.reduceLT, Nat.reduceLeDiff, Nat.reduceAdd, Nat.reduceSub, Nat.reduceMul, Nat.reduceEqDiff, Nat.reduceBneDiff, Nat.le_refl, Bool.false_eq_true, Int.reduceLT, Int.reduceLE, Int.reduceAdd, Int.reduceSub, Int.reduceMul, Int.reduceToNat, Int.reduceEq, Int.cast_ofNat_Int, Int.reduceNeg] <;> rfl) (hz : (.im (.v (.bool (if op = .eql then b else !b)))) = z := by simp only [engA, engL, engT, reduceIte, reduceCtorEq, Nat.reduceLT, Nat.reduceLeDiff, Nat.reduceAdd, Nat.reduceSub, Nat.reduceMul, Nat.reduceEqDiff, Nat.reduceBneDiff, Nat.le_refl, Bool.false_eq_true, Int.reduceLT, Int.reduceLE, Int.reduceAdd, Int.reduceSub, Int.reduceMul, Int.reduceToNat, Int.reduceEq, Int.cast_ofNat_Int, Int.reduceNeg] <;> rfl) : OpOk C l Tf i z :=
  hz ▸ OpOk.eqAgg hl ho hop hd hg hx hy hcx hcy hlx hly heq
theorem rcallO {ops : Array Oper} {o : Oper} {rest : List Oper} {fv : Operand} {args : Array Operand} {ts : Array TypeId} {k : FuncId} {fs caps : List IV} {xs : List SV} {x x' : SV} {Lr Lr' : List Blk}
    (hrun : ∀ (vs : Array Value) (W : World), (callFunc k vs).run C.P W = .ok (.enter k vs) W)
    (ho : o.op = .call ⟨.value fv, args, ts⟩ := by rfl) (hg : o.guard = none := by rfl) (hd : dstOk C.N o.dst = true := by rfl) (hfv : aev C.G T fv = some (.im (.fn k fs caps)) := by rfl)
    (hxs : callArgs C.G T fs args.toList caps = some xs := by simp only [callArgs, engA, engL, engT, reduceIte, reduceCtorEq, Nat.reduceLT, Nat.reduceLeDiff, Nat.reduceAdd, Nat.reduceSub, Nat.reduceMul, Nat.reduceEqDiff, Nat.reduceBneDiff, Nat.le_refl, Bool.false_eq_true, Int.reduceLT, Int.reduceLE, Int.reduceAdd, Int.reduceSub, Int.reduceMul, Int.reduceToNat, Int.reduceEq, Int.cast_ofNat_Int, Int.reduceNeg] <;> rfl)
    (hC : ACall C.P C.G k xs [] (fun r L' => r = x ∧ L' = Lr)) (kk : AL C ops Q rest (put T o.dst x') (L ++ Lr')) (h1 : clL xs = true := by simp only [engA, engL, engT, reduceIte, reduceCtorEq, Nat.reduceLT, Nat.reduceLeDiff, Nat.reduceAdd, Nat.reduceSub, Nat.reduceMul, Nat.reduceEqDiff, Nat.reduceBneDiff, Nat.le_refl, Bool.false_eq_true, Int.reduceLT, Int.reduceLE, Int.reduceAdd, Int.reduceSub, Int.reduceMul, Int.reduceToNat, Int.reduceEq, Int.cast_ofNat_Int, Int.reduceNeg])
    (hx : x.ren (L.length + ·) = x' := by simp only [SV.ren, renL, engA, engL, engT, reduceIte, reduceCtorEq, Nat.reduceLT, Nat.reduceLeDiff, Nat.reduceAdd, Nat.reduceSub, Nat.reduceMul, Nat.reduceEqDiff, Nat.reduceBneDiff, Nat.le_refl, Bool.false_eq_true, Int.reduceLT, Int.reduceLE, Int.reduceAdd, Int.reduceSub, Int.reduceMul, Int.reduceToNat, Int.reduceEq, Int.cast_ofNat_Int, Int.reduceNeg] <;> rfl) (hL : Lr.map (Blk.ren (L.length + ·)) = Lr' := by simp only [SV.ren, renL, Blk.ren, engA, engL, engT, reduceIte, reduceCtorEq, Nat.reduceLT, Nat.reduceLeDiff, Nat.reduceAdd, Nat.reduceSub, Nat.reduceMul, Nat.reduceEqDiff, Nat.reduceBneDiff, Nat.le_refl, Bool.false_eq_true, Int.reduceLT, Int.reduceLE, Int.reduceAdd, Int.reduceSub, Int.reduceMul, Int.reduceToNat, Int.reduceEq, Int.cast_ofNat_Int, Int.reduceNeg] <;> rfl) : AL C ops Q (o :: rest) T L := by
  refine AL.cons (OpTo.call ho hd hfv hrun hxs h1 hC) hg ?_
  rintro T' L' ⟨r, Lr2, ⟨rfl, rfl⟩, rfl, rfl⟩
  rw [hx, hL]; exact kk
theorem rcallL {ops : Array Oper} {o : Oper} {rest : List Oper} {fv : Operand} {args : Array Operand} {ts : Array TypeId} {k : FuncId} {fs caps : List IV} {xs : List SV} {x : SV} {Lr : List Blk}
    (hrun : ∀ (vs : Array Value) (W : World), (callFunc k vs).run C.P W = .ok (.enter k vs) W)
    (ho : o.op = .call ⟨.value fv, args, ts⟩ := by rfl) (hg : o.guard = none := by rfl) (hd : dstOk C.N o.dst = true := by rfl) (hfv : aev C.G T fv = some (.im (.fn k fs caps)) := by rfl)
    (hxs : callArgs C.G T fs args.toList caps = some xs := by simp only [callArgs, engA, engL, engT, reduceIte, reduceCtorEq, Nat.reduceLT, Nat.reduceLeDiff, Nat.reduceAdd, Nat.reduceSub, Nat.reduceMul, Nat.reduceEqDiff, Nat.reduceBneDiff, Nat.le_refl, Bool.false_eq_true, Int.reduceLT, Int.reduceLE, Int.reduceAdd, Int.reduceSub, Int.reduceMul, Int.reduceToNat, Int.reduceEq, Int.cast_ofNat_Int, Int.reduceNeg] <;> rfl) (hK : C.K.k ≤ L.length) (hF : C.K.f ≤ L.length) (hnm : noMarks L = true)
    (hC : ACall C.P C.G k xs L (fun r L' => r = x ∧ L' = Lr)) (kk : AL C ops Q rest (put T o.dst x) Lr) : AL C ops Q (o :: rest) T L := by
  refine AL.cons (OpTo.callL ho hd hfv hrun hxs hK hF hnm hC) hg ?_
  rintro T' L' ⟨r, ⟨rfl, rfl⟩, rfl⟩
  exact kk
theorem rcutI {ops : Array Oper} {o : Oper} {rest : List Oper} {t e : TypeId} {ti te : TI} {x : Operand} {lo hi : Option Operand} {es : List (List IV)} {T' : Tm} {L' : List Blk} (i h : Nat)
    (hti : tinfo C.P t = some ti) (hte : tinfo C.P e = some te) (hh : h ≤ es.length) (hK : C.K.k ≤ i) (kk : AL C ops Q rest T' L')
    (ho : o.op = .slice t x lo hi none := by rfl) (hg : o.guard = none := by rfl) (hd : dstOk C.N o.dst = true := by rfl) (hk : ti.kind = .slice e := by rfl) (hx : aev C.G T x = some (.app i) := by simp only [engA, engL, engT, reduceIte, reduceCtorEq, Nat.reduceLT, Nat.reduceLeDiff, Nat.reduceAdd, Nat.reduceSub, Nat.reduceMul, Nat.reduceEqDiff, Nat.reduceBneDiff, Nat.le_refl, Bool.false_eq_true, Int.reduceLT, Int.reduceLE, Int.reduceAdd, Int.reduceSub, Int.reduceMul, Int.reduceToNat, Int.reduceEq, Int.cast_ofNat_Int, Int.reduceNeg] <;> rfl) (hL : L[i]? = some (.app te.size es e) := by simp only [engA, engL, engT, reduceIte, reduceCtorEq, Nat.reduceLT, Nat.reduceLeDiff, Nat.reduceAdd, Nat.reduceSub, Nat.reduceMul, Nat.reduceEqDiff, Nat.reduceBneDiff, Nat.le_refl, Bool.false_eq_true, Int.reduceLT, Int.reduceLE, Int.reduceAdd, Int.reduceSub, Int.reduceMul, Int.reduceToNat, Int.reduceEq, Int.cast_ofNat_Int, Int.reduceNeg] <;> rfl)
    (hlo : bnd C.G T 0 lo = some 0 := by simp only [engA, engL, engT, reduceIte, reduceCtorEq, Nat.reduceLT, Nat.reduceLeDiff, Nat.reduceAdd, Nat.reduceSub, Nat.reduceMul, Nat.reduceEqDiff, Nat.reduceBneDiff, Nat.le_refl, Bool.false_eq_true, Int.reduceLT, Int.reduceLE, Int.reduceAdd, Int.reduceSub, Int.reduceMul, Int.reduceToNat, Int.reduceEq, Int.cast_ofNat_Int, Int.reduceNeg] <;> rfl) (hhi : bnd C.G T es.length hi = some h := by simp only [engA, engL, engT, reduceIte, reduceCtorEq, Nat.reduceLT, Nat.reduceLeDiff, Nat.reduceAdd, Nat.reduceSub, Nat.reduceMul, Nat.reduceEqDiff, Nat.reduceBneDiff, Nat.le_refl, Bool.false_eq_true, Int.reduceLT, Int.reduceLE, Int.reduceAdd, Int.reduceSub, Int.reduceMul, Int.reduceToNat, Int.reduceEq, Int.cast_ofNat_Int, Int.reduceNeg] <;> rfl)
    (hT : klT i L.length (put T o.dst (.app L.length)) = T' := by simp only [engA, engL, engT, reduceIte, reduceCtorEq, Nat.reduceLT, Nat.reduceLeDiff, Nat.reduceAdd, Nat.reduceSub, Nat.reduceMul, Nat.reduceEqDiff, Nat.reduceBneDiff, Nat.le_refl, Bool.false_eq_true, Int.reduceLT, Int.reduceLE, Int.reduceAdd, Int.reduceSub, Int.reduceMul, Int.reduceToNat, Int.reduceEq, Int.cast_ofNat_Int, Int.reduceNeg] <;> rfl) (hLq : (L.map (Blk.kl i L.length)).set i (.app te.size (es.take h) e) = L' := by simp only [engA, engL, engT, reduceIte, reduceCtorEq, Nat.reduceLT, Nat.reduceLeDiff, Nat.reduceAdd, Nat.reduceSub, Nat.reduceMul, Nat.reduceEqDiff, Nat.reduceBneDiff, Nat.le_refl, Bool.false_eq_true, Int.reduceLT, Int.reduceLE, Int.reduceAdd, Int.reduceSub, Int.reduceMul, Int.reduceToNat, Int.reduceEq, Int.cast_ofNat_Int, Int.reduceNeg] <;> rfl) : AL C ops Q (o :: rest) T L := by
  refine AL.cons (OpTo.cutI ho hd hti hk hte hx hL hlo hhi hh hK) hg ?_
  rintro T2 L2 ⟨rfl, rfl⟩
  rw [hT, hLq]; exact kk
theorem rbuildA {ops : Array Oper} {o : Oper} {rest : List Oper} {t e : TypeId} {n : Nat} {parts : Array (Nat × Operand)} {ti te : TI} {z : List Value} {ss cs : List SV} {ivs : List IV} {es : List (List IV)}
    (hti : tinfo C.P t = some ti) (hte : tinfo C.P e = some te) (kk : AL C ops Q rest (put T o.dst (.app L.length)) (L ++ [.app te.size es e]))
    (ho : o.op = .buildSlice t n parts := by rfl) (hg : o.guard = none := by rfl) (hd : dstOk C.N o.dst = true := by rfl) (hk : ti.kind = .slice e := by rfl) (hz : te.zero = some z := by rfl) (hle : n * te.size ≤ 2 ^ 24 := by decide)
    (hs : aevs C.G T (parts.toList.map (·.2)) = some ss := by simp only [engA, engL, engT, reduceIte, reduceCtorEq, Nat.reduceLT, Nat.reduceLeDiff, Nat.reduceAdd, Nat.reduceSub, Nat.reduceMul, Nat.reduceEqDiff, Nat.reduceBneDiff, Nat.le_refl, Bool.false_eq_true, Int.reduceLT, Int.reduceLE, Int.reduceAdd, Int.reduceSub, Int.reduceMul, Int.reduceToNat, Int.reduceEq, Int.cast_ofNat_Int, Int.reduceNeg] <;> rfl)
    (hb : buildS (fun i => some (i * te.size, te.size)) (List.replicate (n * te.size) .any) ((parts.toList.map (·.1)).zip ss) = some cs := by simp only [List.replicate_succ, List.replicate_zero, Nat.reduceMul, Nat.reduceAdd, engA, engL, engT, reduceIte, reduceCtorEq, Nat.reduceLT, Nat.reduceLeDiff, Nat.reduceAdd, Nat.reduceSub, Nat.reduceMul, Nat.reduceEqDiff, Nat.reduceBneDiff, Nat.le_refl, Bool.false_eq_true, Int.reduceLT, Int.reduceLE, Int.reduceAdd, Int.reduceSub, Int.reduceMul, Int.reduceToNat, Int.reduceEq, Int.cast_ofNat_Int, Int.reduceNeg] <;> rfl)
    (hi : ims cs = some ivs := by simp only [engA, engL, engT, reduceIte, reduceCtorEq, Nat.reduceLT, Nat.reduceLeDiff, Nat.reduceAdd, Nat.reduceSub, Nat.reduceMul, Nat.reduceEqDiff, Nat.reduceBneDiff, Nat.le_refl, Bool.false_eq_true, Int.reduceLT, Int.reduceLE, Int.reduceAdd, Int.reduceSub, Int.reduceMul, Int.reduceToNat, Int.reduceEq, Int.cast_ofNat_Int, Int.reduceNeg] <;> rfl) (hn0 : 0 < n := by decide) (hes : chunks te.size n ivs = es := by simp only [engA, engL, engT, reduceIte, reduceCtorEq, Nat.reduceLT, Nat.reduceLeDiff, Nat.reduceAdd, Nat.reduceSub, Nat.reduceMul, Nat.reduceEqDiff, Nat.reduceBneDiff, Nat.le_refl, Bool.false_eq_true, Int.reduceLT, Int.reduceLE, Int.reduceAdd, Int.reduceSub, Int.reduceMul, Int.reduceToNat, Int.reduceEq, Int.cast_ofNat_Int, Int.reduceNeg] <;> rfl) : AL C ops Q (o :: rest) T L := by
  refine AL.cons (OpTo.buildA ho hd hti hk hte hz hle hs hb hi hn0) hg ?_
  rintro T' L' ⟨rfl, rfl⟩
  rw [hes]; exact kk
end
theorem Vw_nil_ints : Vw (.im (.v (.slice none 0 0))) (.im (ints [])) := Vw.nil
theorem Vw_nil_bools : Vw (.im (.v (.slice none 0 0))) (.im (bools [])) := Vw.nil
theorem Vw_nil_pages : Vw (.im (.v (.slice none 0 0))) (.im (pages [])) := Vw.nil
theorem Vw_nil_ops : Vw (.im (.v (.slice none 0 0))) (.im (opsI [])) := Vw.nil
theorem Vw_nil_listss : Vw (.im (.v (.slice none 0 0))) (.im (listss [])) := Vw.nil
theorem Vw_nil_threads : Vw (.im (.v (.slice none 0 0))) (.im (threads [])) := Vw.nil
theorem Vw_heap0 : Vw (.agg [.im (.v (.slice none 0 0)), .im (.v (.slice none 0 0)), .im (.v (.slice none 0 0)), .im (.v (.slice none 0 0)), .im (.v (.slice none 0 0)), .im (.v (.slice none 0 0))]) (heapV Heap.zero) := Vw.agg ⟨Vw_nil_ints, Vw_nil_pages, Vw_nil_ints, Vw_nil_ints, Vw_nil_ints, Vw_nil_bools, trivial⟩
theorem pre_get {A B : List Blk} {n : Nat} (h : A.length = n) (k : Nat) : (A ++ B)[n + k]? = B[k]? := by rw [List.getElem?_append_right (by omega), h]; congr 1; omega
theorem pre_get0 {A B : List Blk} {n : Nat} (h : A.length = n) : (A ++ B)[n]? = B[0]? := pre_get h 0
theorem pre_set {A B : List Blk} {n : Nat} (h : A.length = n) (k : Nat) (x : Blk) : (A ++ B).set (n + k) x = A ++ B.set k x := by rw [List.set_append_right _ _ (by omega), h]; congr 2; omega
theorem pre_set0 {A B : List Blk} {n : Nat} (h : A.length = n) (x : Blk) : (A ++ B).set n x = A ++ B.set 0 x := pre_set h 0 x
end Go.Proofs
end

section
/- Plain facts on bits of 64 bit integers. -/
namespace Rp
open Go

theorem wrap_i64 (n : Int) : IntKind.i64.wrap n = (n + 9223372036854775808) % 18446744073709551616 - 9223372036854775808 := by
  simp only [IntKind.wrap, IntKind.bits, IntKind.signed]; simp; split <;> omega

theorem ofInt_toNat (a : Int) : (BitVec.ofInt 64 a).toNat = (a % 18446744073709551616).toNat := by
  rw [BitVec.toNat_ofInt]; rfl

theorem wrap_nat (n : Nat) (h : n < 9223372036854775808) : IntKind.i64.wrap (n : Int) = n := by
  rw [wrap_i64]; omega

/-- an 'or' of what lies beneath 2^i and of what is a multiple of it is a sum -/
theorem or_sum (a b : Int) (i : Nat) (c : Nat) (ha : 0 ≤ a) (hai : a < 2 ^ i) (hb : b = (c : Int) * 2 ^ i) (hs : a + b < 9223372036854775808) :
    IntKind.i64.wrap ((BitVec.ofInt 64 a ||| BitVec.ofInt 64 b).toNat : Int) = a + b := by
  have hb0 : 0 ≤ b := by rw [hb]; exact Int.mul_nonneg (by omega) (Int.pow_nonneg (by omega))
  obtain ⟨n, rfl⟩ := Int.eq_ofNat_of_zero_le ha
  obtain ⟨m, rfl⟩ := Int.eq_ofNat_of_zero_le hb0
  have hn : n < 2 ^ i := by exact_mod_cast hai
  have hm : m = c * 2 ^ i := by exact_mod_cast hb
  rw [BitVec.toNat_or, ofInt_toNat, ofInt_toNat]
  have e1 : ((n : Int) % 18446744073709551616).toNat = n := by omega
  have e2 : ((m : Int) % 18446744073709551616).toNat = m := by omega
  rw [e1, e2]
  have : n ||| m = n + m := by
    rw [hm, ← Nat.shiftLeft_eq, Nat.or_comm, ← Nat.shiftLeft_add_eq_or_of_lt hn, Nat.add_comm]
  rw [this, wrap_nat _ (by omega)]; omega

/-- a mask of the lowest bits -/
theorem and_mask (a : Int) (i : Nat) (m : Int) (hm : m = 2 ^ i - 1) (hi : i ≤ 62) : IntKind.i64.wrap ((BitVec.ofInt 64 a &&& BitVec.ofInt 64 m).toNat : Int) = a % 2 ^ i := by
  have hp : (2 : Int) ^ i ∣ 18446744073709551616 := by
    have : (18446744073709551616 : Int) = 2 ^ i * 2 ^ (64 - i) := by rw [← Int.pow_add, show i + (64 - i) = 64 by omega]; rfl
    exact ⟨_, this⟩
  have hpn : 2 ^ i ≤ 2 ^ 62 := Nat.pow_le_pow_right (by omega) hi
  have hpos : 0 < 2 ^ i := Nat.pos_of_ne_zero (by simp)
  have hcast : ((2 ^ i : Nat) : Int) = (2 : Int) ^ i := by simp
  rw [BitVec.toNat_and, ofInt_toNat, ofInt_toNat]
  have e2 : (m % 18446744073709551616).toNat = 2 ^ i - 1 := by
    subst hm
    rw [← hcast]
    have : 2 ^ 62 = 4611686018427387904 := rfl
    omega
  rw [e2, Nat.and_two_pow_sub_one_eq_mod]
  have h3 : (a % 18446744073709551616).toNat % 2 ^ i < 2 ^ i := Nat.mod_lt _ hpos
  have : 2 ^ 62 = 4611686018427387904 := rfl
  rw [wrap_nat _ (by omega)]
  rw [Int.natCast_emod, hcast]
  have h4 : ((a % 18446744073709551616).toNat : Int) = a % 18446744073709551616 := Int.toNat_of_nonneg (Int.emod_nonneg _ (by omega))
  rw [h4, Int.emod_emod_of_dvd _ hp]

theorem nat_and_two_pow (x i : Nat) : x &&& 2 ^ i = (x.testBit i).toNat * 2 ^ i := by
  apply Nat.eq_of_testBit_eq
  intro j
  rw [Nat.testBit_and, Nat.testBit_two_pow, Nat.testBit_mul_two_pow]
  by_cases hij : i = j
  · subst hij
    simp
    cases x.testBit i <;> simp
  · have : decide (i = j) = false := by simp [hij]
    rw [this, Bool.and_false]
    by_cases hle : i ≤ j
    · have h1 : 0 < j - i := by omega
      have h2 : (true.toNat).testBit (j - i) = false := by
        rw [show true.toNat = 2 ^ 0 from rfl, Nat.testBit_two_pow]; simp; omega
      cases hx : x.testBit i
      · simp
      · rw [h2]; simp
    · simp [hle]

/-- one bit is asked for -/
theorem and_bit (a : Int) (i : Nat) (m : Int) (hm : m = 2 ^ i) (hi : i ≤ 62) : IntKind.i64.wrap ((BitVec.ofInt 64 a &&& BitVec.ofInt 64 m).toNat : Int) = a / 2 ^ i % 2 * 2 ^ i := by
  have hpn : 2 ^ i ≤ 2 ^ 62 := Nat.pow_le_pow_right (by omega) hi
  have hpos : 0 < 2 ^ i := Nat.pos_of_ne_zero (by simp)
  have hcast : ((2 ^ i : Nat) : Int) = (2 : Int) ^ i := by simp
  have e62 : 2 ^ 62 = 4611686018427387904 := rfl
  rw [BitVec.toNat_and, ofInt_toNat, ofInt_toNat]
  have e2 : (m % 18446744073709551616).toNat = 2 ^ i := by
    subst hm
    rw [← hcast]; omega
  rw [e2, nat_and_two_pow]
  have hle : ((a % 18446744073709551616).toNat.testBit i).toNat ≤ 1 := by
    cases (a % 18446744073709551616).toNat.testBit i <;> decide
  have hlt : ((a % 18446744073709551616).toNat.testBit i).toNat * 2 ^ i ≤ 1 * 2 ^ i := Nat.mul_le_mul_right _ hle
  rw [wrap_nat _ (by omega)]
  rw [Int.natCast_mul, hcast]
  congr 1
  rw [Nat.testBit_eq_decide_div_mod_eq]
  have key : (((a % 18446744073709551616).toNat / 2 ^ i % 2 : Nat) : Int) = a / 2 ^ i % 2 := by
    rw [Int.natCast_emod, Int.natCast_ediv, hcast, Int.toNat_of_nonneg (Int.emod_nonneg _ (by omega))]
    have hd : (18446744073709551616 : Int) = 2 ^ i * (2 ^ (63 - i) * 2) := by
      rw [← Int.pow_succ, ← Int.pow_add, show i + (63 - i + 1) = 64 by omega]; rfl
    have h1 := Int.emod_add_mul_ediv a 18446744073709551616
    have hne : (2 : Int) ^ i ≠ 0 := by rw [← hcast]; omega
    have h2 : a / 2 ^ i = (a % 18446744073709551616) / 2 ^ i + 2 ^ (63 - i) * 2 * (a / 18446744073709551616) := by
      conv => lhs; rw [← h1]
      rw [hd]
      rw [Int.mul_assoc (2 ^ i), Int.add_mul_ediv_left _ _ hne, ← hd]
    rw [h2, Int.mul_assoc, Int.mul_comm (2 ^ (63 - i)), Int.mul_assoc, Int.add_mul_emod_self_left]; rfl
  rw [← key]
  have : (a % 18446744073709551616).toNat / 2 ^ i % 2 < 2 := Nat.mod_lt _ (by omega)
  generalize (a % 18446744073709551616).toNat / 2 ^ i % 2 = z at this
  rcases z with _ | _ | z
  · rfl
  · rfl
  · omega
end Rp
end

section
/- What packing a head comes to. -/
namespace Rp
open Go
theorem wrap_id (n : Int) (h1 : -9223372036854775808 ≤ n) (h2 : n ≤ 9223372036854775807) : IntKind.i64.wrap n = n := by
  rw [wrap_i64]; omega

theorem Head.may_used {x : Head} (h : x.may = true) (hu : x.used = true) : 0 ≤ x.n ∧ x.n ≤ 63 ∧ 0 ≤ x.born ∧ x.born ≤ 1048576 ∧ 0 ≤ x.mark ∧ x.mark ≤ 1048576 := by
  simp [Head.may, hu, inR] at h; omega
theorem Head.may_unused {x : Head} (h : x.may = true) (hu : x.used = false) : x = Head.zero := by
  simp [Head.may, hu] at h; exact h

theorem pack_or (x : Head) (h : x.may = true) :
    IntKind.i64.wrap ↑(BitVec.ofInt IntKind.i64.bits (IntKind.i64.wrap ↑(BitVec.ofInt IntKind.i64.bits (IntKind.i64.wrap ↑(BitVec.ofInt IntKind.i64.bits (IntKind.i64.wrap ↑(BitVec.ofInt IntKind.i64.bits (IntKind.i64.wrap
      ↑(BitVec.ofInt IntKind.i64.bits (bit x.used 1) ||| BitVec.ofInt IntKind.i64.bits (bit x.old 2)).toNat) ||| BitVec.ofInt IntKind.i64.bits (bit x.done 4)).toNat) |||
      BitVec.ofInt IntKind.i64.bits (IntKind.i64.wrap (x.n * 2 ^ min 3 IntKind.i64.bits))).toNat) ||| BitVec.ofInt IntKind.i64.bits (IntKind.i64.wrap (x.born * 2 ^ min 10 IntKind.i64.bits))).toNat) |||
      BitVec.ofInt IntKind.i64.bits (IntKind.i64.wrap (x.mark * 2 ^ min 32 IntKind.i64.bits))).toNat = x.pack := by
  cases hu : x.used with
  | false =>
    have := Head.may_unused h hu
    subst this
    decide
  | true =>
    obtain ⟨a1, a2, a3, a4, a5, a6⟩ := Head.may_used h hu
    have e1 : IntKind.i64.wrap (x.n * 2 ^ min 3 IntKind.i64.bits) = x.n * 8 := by
      rw [show min 3 IntKind.i64.bits = 3 from rfl]; rw [wrap_id _ (by omega) (by omega)]; omega
    have e2 : IntKind.i64.wrap (x.born * 2 ^ min 10 IntKind.i64.bits) = x.born * 1024 := by
      rw [show min 10 IntKind.i64.bits = 10 from rfl]; rw [wrap_id _ (by omega) (by omega)]; omega
    have e3 : IntKind.i64.wrap (x.mark * 2 ^ min 32 IntKind.i64.bits) = x.mark * 4294967296 := by
      rw [show min 32 IntKind.i64.bits = 32 from rfl]; rw [wrap_id _ (by omega) (by omega)]; omega
    rw [e1, e2, e3]
    have b2 : 0 ≤ bit x.old 2 ∧ bit x.old 2 ≤ 2 ∧ ∃ c : Nat, bit x.old 2 = (c : Int) * 2 ^ 1 := by
      cases x.old
      · exact ⟨by decide, by decide, 0, by decide⟩
      · exact ⟨by decide, by decide, 1, by decide⟩
    have b4 : 0 ≤ bit x.done 4 ∧ bit x.done 4 ≤ 4 ∧ ∃ c : Nat, bit x.done 4 = (c : Int) * 2 ^ 2 := by
      cases x.done
      · exact ⟨by decide, by decide, 0, by decide⟩
      · exact ⟨by decide, by decide, 1, by decide⟩
    obtain ⟨b21, b22, c2, hc2⟩ := b2
    obtain ⟨b41, b42, c4, hc4⟩ := b4
    have f1 := or_sum (bit true 1) (bit x.old 2) 1 c2 (by decide) (by decide) hc2 (by simp [bit]; omega)
    have g1 : bit true 1 = 1 := rfl
    rw [g1] at f1 ⊢
    have f2 := or_sum (1 + bit x.old 2) (bit x.done 4) 2 c4 (by omega) (by omega) hc4 (by omega)
    have f3 := or_sum (1 + bit x.old 2 + bit x.done 4) (x.n * 8) 3 x.n.toNat (by omega) (by omega) (by omega) (by omega)
    have f4 := or_sum (1 + bit x.old 2 + bit x.done 4 + x.n * 8) (x.born * 1024) 10 x.born.toNat (by omega) (by omega) (by omega) (by omega)
    have f5 := or_sum (1 + bit x.old 2 + bit x.done 4 + x.n * 8 + x.born * 1024) (x.mark * 4294967296) 32 x.mark.toNat (by omega) (by omega) (by omega) (by omega)
    show IntKind.i64.wrap ↑(BitVec.ofInt 64 (IntKind.i64.wrap ↑(BitVec.ofInt 64 (IntKind.i64.wrap ↑(BitVec.ofInt 64 (IntKind.i64.wrap ↑(BitVec.ofInt 64 (IntKind.i64.wrap
      ↑(BitVec.ofInt 64 1 ||| BitVec.ofInt 64 (bit x.old 2)).toNat) ||| BitVec.ofInt 64 (bit x.done 4)).toNat) |||
      BitVec.ofInt 64 (x.n * 8)).toNat) ||| BitVec.ofInt 64 (x.born * 1024)).toNat) ||| BitVec.ofInt 64 (x.mark * 4294967296)).toNat = x.pack
    rw [f1, f2, f3, f4, f5]
    simp only [Head.pack, hu, g1]; omega

theorem raw_eq (w : Int) : (⟨!decide (IntKind.i64.wrap ↑(BitVec.ofInt IntKind.i64.bits w &&& BitVec.ofInt IntKind.i64.bits 1).toNat = 0),
    !decide (IntKind.i64.wrap ↑(BitVec.ofInt IntKind.i64.bits w &&& BitVec.ofInt IntKind.i64.bits 2).toNat = 0),
    !decide (IntKind.i64.wrap ↑(BitVec.ofInt IntKind.i64.bits w &&& BitVec.ofInt IntKind.i64.bits 4).toNat = 0),
    IntKind.i64.wrap ↑(BitVec.ofInt IntKind.i64.bits (w.fdiv (2 ^ min 3 IntKind.i64.bits)) &&& BitVec.ofInt IntKind.i64.bits 127).toNat,
    IntKind.i64.wrap ↑(BitVec.ofInt IntKind.i64.bits (w.fdiv (2 ^ min 10 IntKind.i64.bits)) &&& BitVec.ofInt IntKind.i64.bits 4194303).toNat,
    w.fdiv (2 ^ min 32 IntKind.i64.bits)⟩ : Head) = Head.raw w := by
  have h1 := and_bit w 0 1 (by decide) (by decide)
  have h2 := and_bit w 1 2 (by decide) (by decide)
  have h3 := and_bit w 2 4 (by decide) (by decide)
  have h4 := and_mask (w / 8) 7 127 (by decide) (by decide)
  have h5 := and_mask (w / 1024) 22 4194303 (by decide) (by decide)
  have d1 : w.fdiv (2 ^ min 3 IntKind.i64.bits) = w / 8 := by
    rw [show min 3 IntKind.i64.bits = 3 from rfl, Int.fdiv_eq_ediv_of_nonneg _ (by decide)]; rfl
  have d2 : w.fdiv (2 ^ min 10 IntKind.i64.bits) = w / 1024 := by
    rw [show min 10 IntKind.i64.bits = 10 from rfl, Int.fdiv_eq_ediv_of_nonneg _ (by decide)]; rfl
  have d3 : w.fdiv (2 ^ min 32 IntKind.i64.bits) = w / 4294967296 := by
    rw [show min 32 IntKind.i64.bits = 32 from rfl, Int.fdiv_eq_ediv_of_nonneg _ (by decide)]; rfl
  rw [d1, d2, d3]
  show (⟨!decide (IntKind.i64.wrap ↑(BitVec.ofInt 64 w &&& BitVec.ofInt 64 1).toNat = 0), !decide (IntKind.i64.wrap ↑(BitVec.ofInt 64 w &&& BitVec.ofInt 64 2).toNat = 0),
    !decide (IntKind.i64.wrap ↑(BitVec.ofInt 64 w &&& BitVec.ofInt 64 4).toNat = 0), IntKind.i64.wrap ↑(BitVec.ofInt 64 (w / 8) &&& BitVec.ofInt 64 127).toNat,
    IntKind.i64.wrap ↑(BitVec.ofInt 64 (w / 1024) &&& BitVec.ofInt 64 4194303).toNat, w / 4294967296⟩ : Head) = Head.raw w
  rw [h1, h2, h3, h4, h5]
  simp only [Head.raw, Head.mk.injEq]
  refine ⟨?_, ?_, ?_, ?_, ?_, trivial⟩
  · have : w / 2 ^ 0 % 2 * 2 ^ 0 = w % 2 := by simp
    rw [this]; by_cases h : w % 2 = 1 <;> simp [h] <;> omega
  · have : w / 2 ^ 1 % 2 * 2 ^ 1 = w / 2 % 2 * 2 := by rfl
    rw [this]; by_cases h : w / 2 % 2 = 1 <;> simp [h] <;> omega
  · have : w / 2 ^ 2 % 2 * 2 ^ 2 = w / 4 % 2 * 4 := by rfl
    rw [this]; by_cases h : w / 4 % 2 = 1 <;> simp [h] <;> omega
  · rfl
  · rfl

theorem raw_used (w : Int) : (!decide (IntKind.i64.wrap ↑(BitVec.ofInt IntKind.i64.bits w &&& BitVec.ofInt IntKind.i64.bits 1).toNat = 0)) = (Head.raw w).used := congrArg Head.used (raw_eq w)
theorem raw_old (w : Int) : (!decide (IntKind.i64.wrap ↑(BitVec.ofInt IntKind.i64.bits w &&& BitVec.ofInt IntKind.i64.bits 2).toNat = 0)) = (Head.raw w).old := congrArg Head.old (raw_eq w)
theorem raw_done (w : Int) : (!decide (IntKind.i64.wrap ↑(BitVec.ofInt IntKind.i64.bits w &&& BitVec.ofInt IntKind.i64.bits 4).toNat = 0)) = (Head.raw w).done := congrArg Head.done (raw_eq w)
theorem raw_n (w : Int) : IntKind.i64.wrap ↑(BitVec.ofInt IntKind.i64.bits (w.fdiv (2 ^ min 3 IntKind.i64.bits)) &&& BitVec.ofInt IntKind.i64.bits 127).toNat = (Head.raw w).n := congrArg Head.n (raw_eq w)
theorem raw_born (w : Int) : IntKind.i64.wrap ↑(BitVec.ofInt IntKind.i64.bits (w.fdiv (2 ^ min 10 IntKind.i64.bits)) &&& BitVec.ofInt IntKind.i64.bits 4194303).toNat = (Head.raw w).born := congrArg Head.born (raw_eq w)
theorem raw_mark (w : Int) : w.fdiv (2 ^ min 32 IntKind.i64.bits) = (Head.raw w).mark := congrArg Head.mark (raw_eq w)

theorem Head.may_flat (x : Head) : x.may = (decide (0 ≤ x.n) && decide (x.n ≤ 63) && decide (0 ≤ x.born) && decide (x.born ≤ 1048576) && decide (0 ≤ x.mark) && decide (x.mark ≤ 1048576) &&
    (x.used || (!x.old && !x.done && decide (x.n = 0) && decide (x.born = 0) && decide (x.mark = 0)))) := by
  rcases x with ⟨u, o, d, n, b, m⟩
  rw [Bool.eq_iff_iff]
  cases u <;> cases o <;> cases d <;> simp [Head.may, Head.zero, inR] <;> omega

theorem arenaMay_go (w : List Int) (h : w.length ≤ 274877906944) : arenaMay w = (decide ((w.length : Int).tmod 16 = 0) && inL (IntKind.i64.wrap ((w.length : Int).tdiv 16)) 1 64) := by
  rw [Int.tmod_eq_emod_of_nonneg (by omega), Int.tdiv_eq_ediv_of_nonneg (by omega), wrap_id _ (by omega) (by omega)]
  rw [Bool.eq_iff_iff]
  simp only [arenaMay, inL, Bool.and_eq_true, decide_eq_true_eq]; omega
theorem arenaMay_ref (w : List Int) : arenaMay w = (decide (16 ≤ (w.length : Int)) && decide ((w.length : Int) ≤ 1024) && decide ((w.length : Int).tmod 16 = 0)) := by
  rw [Int.tmod_eq_emod_of_nonneg (by omega)]
  rw [Bool.eq_iff_iff]
  simp only [arenaMay, Bool.and_eq_true, decide_eq_true_eq]; omega
end Rp
end

section
/- The document's unpacking of a word is the program's. -/
namespace Rp
open Go
theorem pack_raw (w : Int) : (Head.raw w).pack = w := by
  have h1 : bit (decide (w % 2 = 1)) 1 = w % 2 := by
    by_cases h : w % 2 = 1 <;> simp [bit, h] <;> omega
  have h2 : bit (decide (w / 2 % 2 = 1)) 2 = w / 2 % 2 * 2 := by
    by_cases h : w / 2 % 2 = 1 <;> simp [bit, h] <;> omega
  have h3 : bit (decide (w / 4 % 2 = 1)) 4 = w / 4 % 2 * 4 := by
    by_cases h : w / 4 % 2 = 1 <;> simp [bit, h] <;> omega
  simp only [Head.pack, Head.raw, h1, h2, h3]; omega

theorem unpackOk_eq (w : Int) : unpackOk w = (Head.raw w).may := by
  simp [unpackOk, pack_raw]

theorem unpack_zero : unpackOk 0 = true ∧ unpack 0 = Head.zero := by decide

theorem unpack_no {w : Int} (h0 : w ≠ 0) (h : w < 0 ∨ w % 2 = 0) : unpackOk w = false ∧ unpack w = Head.zero := by
  have hno : unpackOk w = false := by
    cases hk : unpackOk w with
    | false => rfl
    | true =>
      rw [unpackOk_eq] at hk
      rcases h with h | h
      · cases hu : (Head.raw w).used with
        | true =>
          have := Head.may_used hk hu
          simp only [Head.raw] at this; omega
        | false =>
          have h1 := Head.may_unused hk hu
          have h2 := pack_raw w
          rw [h1] at h2
          exact absurd h2.symm h0
      · have hu : (Head.raw w).used = false := by simp [Head.raw, h]
        have h1 := Head.may_unused hk hu
        have h2 := pack_raw w
        rw [h1] at h2
        exact absurd h2.symm h0
  exact ⟨hno, by simp [unpack, hno]⟩

/-- as the document reckons it -/
theorem raw_ref {w : Int} (h : 0 ≤ w) (h1 : w % 2 = 1) : Head.raw w = ⟨true, decide ((w.tdiv 2).tmod 2 = 1), decide ((w.tdiv 4).tmod 2 = 1), (w.tdiv 8).tmod 128, (w.tdiv 1024).tmod 4194304, w.tdiv 4294967296⟩ := by
  simp only [Int.tdiv_eq_ediv_of_nonneg h]
  rw [Int.tmod_eq_emod_of_nonneg (by omega), Int.tmod_eq_emod_of_nonneg (by omega), Int.tmod_eq_emod_of_nonneg (by omega), Int.tmod_eq_emod_of_nonneg (by omega)]
  simp [Head.raw, h1]
end Rp
namespace Rp
open Go
theorem rr_old {w : Int} (h : 0 ≤ w) (h1 : w % 2 = 1) (hw : w ≤ 9223372036854775807) : decide ((IntKind.i64.wrap (w.tdiv 2)).tmod 2 = 1) = (Head.raw w).old := by
  rw [raw_ref h h1, wrap_id _ (by rw [Int.tdiv_eq_ediv_of_nonneg h]; omega) (by rw [Int.tdiv_eq_ediv_of_nonneg h]; omega)]
theorem rr_done {w : Int} (h : 0 ≤ w) (h1 : w % 2 = 1) (hw : w ≤ 9223372036854775807) : decide ((IntKind.i64.wrap (w.tdiv 4)).tmod 2 = 1) = (Head.raw w).done := by
  rw [raw_ref h h1, wrap_id _ (by rw [Int.tdiv_eq_ediv_of_nonneg h]; omega) (by rw [Int.tdiv_eq_ediv_of_nonneg h]; omega)]
theorem rr_n {w : Int} (h : 0 ≤ w) (h1 : w % 2 = 1) (hw : w ≤ 9223372036854775807) : (IntKind.i64.wrap (w.tdiv 8)).tmod 128 = (Head.raw w).n := by
  rw [raw_ref h h1, wrap_id _ (by rw [Int.tdiv_eq_ediv_of_nonneg h]; omega) (by rw [Int.tdiv_eq_ediv_of_nonneg h]; omega)]
theorem rr_born {w : Int} (h : 0 ≤ w) (h1 : w % 2 = 1) (hw : w ≤ 9223372036854775807) : (IntKind.i64.wrap (w.tdiv 1024)).tmod 4194304 = (Head.raw w).born := by
  rw [raw_ref h h1, wrap_id _ (by rw [Int.tdiv_eq_ediv_of_nonneg h]; omega) (by rw [Int.tdiv_eq_ediv_of_nonneg h]; omega)]
theorem rr_mark {w : Int} (h : 0 ≤ w) (h1 : w % 2 = 1) (hw : w ≤ 9223372036854775807) : IntKind.i64.wrap (w.tdiv 4294967296) = (Head.raw w).mark := by
  rw [raw_ref h h1, wrap_id _ (by rw [Int.tdiv_eq_ediv_of_nonneg h]; omega) (by rw [Int.tdiv_eq_ediv_of_nonneg h]; omega)]
theorem rr_used {w : Int} (h1 : w % 2 = 1) : true = (Head.raw w).used := by simp [Head.raw, h1]
end Rp
namespace Rp
theorem unpack_no' {w : Int} (h0 : ¬ w = 0) (h : w < 0 ∨ w.tmod 2 = 0) : unpackOk w = false ∧ unpack w = Head.zero := by
  refine unpack_no h0 ?_
  rcases Int.lt_or_le w 0 with h1 | h1
  · exact .inl h1
  · rw [Int.tmod_eq_emod_of_nonneg h1] at h; omega
theorem odd_of {w : Int} (h1 : 0 ≤ w) (h : ¬ w.tmod 2 = 0) : w % 2 = 1 := by
  rw [Int.tmod_eq_emod_of_nonneg h1] at h; omega
end Rp
namespace Rp
open Go
theorem classOf_ok {n : Int} (h : (classOf n).2 = 0) : 1 ≤ n ∧ n ≤ 63 := by
  unfold classOf at h
  split at h
  · simp at h
  · split at h
    · simp at h
    · omega
theorem run_e {n : Int} (h : (!decide ((classOf n).2 = 0)) = true) : classRun n = (0, (classOf n).2) := by
  have : ¬ (classOf n).2 = 0 := by simpa using h
  simp [classRun, this]
theorem run_3 {n : Int} (h : (!decide ((classOf n).2 = 0)) = false) (h' : decide ((classOf n).1 < 3) = true) : classRun n = (0, 3) := by
  have h1 : (classOf n).2 = 0 := by simpa using h
  have h2 : (classOf n).1 < 3 := by simpa using h'
  simp [classRun, h1, h2]
theorem run_ok {n : Int} (h : (!decide ((classOf n).2 = 0)) = false) (h' : decide ((classOf n).1 < 3) = false) :
    classRun n = (IntKind.i64.wrap (IntKind.i64.wrap (n.tdiv 16) + 1), 0) := by
  have h1 : (classOf n).2 = 0 := by simpa using h
  have h2 : ¬ (classOf n).1 < 3 := by simpa using h'
  have h3 := classOf_ok h1
  rw [Int.tdiv_eq_ediv_of_nonneg (by omega), wrap_id (n / 16) (by omega) (by omega), wrap_id _ (by omega) (by omega)]
  simp [classRun, h1, h2]
end Rp
namespace Rp
open Go
theorem wrap_u (n : Int) (h1 : 0 ≤ n) (h2 : n ≤ 18446744073709551615) : IntKind.u64.wrap n = n := by
  simp only [IntKind.wrap, IntKind.bits, IntKind.signed]; simp; omega
end Rp
end
