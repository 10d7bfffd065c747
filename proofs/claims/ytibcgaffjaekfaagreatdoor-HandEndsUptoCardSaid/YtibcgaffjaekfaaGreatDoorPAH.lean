/- Part 8 of 22 of a proof: own engine, contracts and facts. -/
import Derived.Test.YtibcgaffjaekfaaGreatDoorPAG
set_option linter.all false
section
/- The engine, part 25: loops over functions. -/
set_option linter.unusedSimpArgs false
namespace Av
open Go

def runS {σ α : Type} (step : σ → α → σ × Bool) : σ → List α → σ × Bool
  | s, [] => (s, true)
  | s, x :: l => if (step s x).2 = true then runS step (step s x).1 l else ((step s x).1, false)

/-- what a function that is ranged over promises: it hands on the values cs, in turn, while it is told to go on -/
def SeqC (P : Program) (G : Globs) (f : FuncId) (fs caps : List IV) (cs : List SV) : Prop :=
  ∀ (σ : Type) (st : σ → List Blk) (step : σ → SV → σ × Bool) (I : Nat → σ → Prop) (K i n : Nat),
    (∀ s, (st s).length = n ∧ noMarks (st s) = true ∧ (st s).all (Blk.lt n) = true) → i < n → K ≤ n →
    (∀ (j : Nat) (x : SV) (s : σ), cs[j]? = some x → I j s → ((step s x).2 = true → I (j + 1) (step s x).1) ∧
      YC P G K i [x] (st s) (fun r L' => r = .im (.v (.bool (step s x).2)) ∧ L' = st (step s x).1)) →
    ∀ s0, I 0 s0 → ACallK P G K f (fs.map .im ++ [.yl i] ++ caps.map .im) (st s0) (fun r L' => r = .tup [] ∧ L' = st (runS step s0 cs).1)

theorem Step.take {K : Kf} {m : Nat} {β β' : List Gh} {M M' : Nat → Prop} {L L' : List Blk} {W W' : World} (h : Step K β M L W β' M' L' W') (hK : K.k ≤ m) (hF : K.f ≤ m) : Step K β M L W (β'.take m) M' (L'.take m) W' :=
  ⟨fun i g hi hg => by rw [List.getElem?_take_of_lt (by omega)]; exact h.pre i g hi hg, fun i g hi hg => by
      rw [List.getElem?_take_of_lt (by omega)]; exact h.kin i g hi hg, h.os, h.tape, h.output, h.size, h.heap, h.muts,
    fun b hb ⟨i, g, k, hg, hk, ho⟩ => h.sub b hb ⟨i, g, k, (take_get hg).2, (take_get hk).2, ho⟩⟩

theorem nomarks {L : List Blk} (hm : noMarks L = true) : ∀ k, k ∈ L → k.isMark = false := fun k hk => by
  have := List.all_eq_true.1 hm k hk; simpa using this

theorem noMarks_app {L L' : List Blk} : noMarks (L ++ L') = (noMarks L && noMarks L') := by simp [noMarks, List.all_append]

mutual
theorem SV.lt_mono {n m : Nat} (h : n ≤ m) : ∀ {x : SV}, x.lt n = true → x.lt m = true
  | .im x, _ => rfl
  | .loc i o, hx => by simp only [SV.lt, decide_eq_true_eq] at hx ⊢; omega
  | .app i, hx => by simp only [SV.lt, decide_eq_true_eq] at hx ⊢; omega
  | .sub i _ _ _ _, hx => by simp only [SV.lt, decide_eq_true_eq] at hx ⊢; omega
  | .ap i _, hx => by simp only [SV.lt, decide_eq_true_eq] at hx ⊢; omega
  | .agg cs, hx => by simp only [SV.lt] at hx ⊢; exact ltL_mono h hx
  | .tup cs, hx => by simp only [SV.lt] at hx ⊢; exact ltL_mono h hx
  | .yl i, hx => by simp only [SV.lt, decide_eq_true_eq] at hx ⊢; omega
  | .any, _ => rfl
theorem ltL_mono {n m : Nat} (h : n ≤ m) : ∀ {xs : List SV}, ltL n xs = true → ltL m xs = true
  | [], _ => rfl
  | x :: xs, hx => by
    simp only [ltL, Bool.and_eq_true] at hx ⊢
    exact ⟨SV.lt_mono h hx.1, ltL_mono h hx.2⟩
end
theorem allT_lt {n m : Nat} (h : n ≤ m) {T : Tm} (hT : allT (SV.lt n) T = true) : allT (SV.lt m) T = true := by
  simp only [allT, List.all_eq_true] at hT ⊢
  exact fun q hq => SV.lt_mono h (hT q hq)
theorem Blk.lt_mono {n m : Nat} (h : n ≤ m) {k : Blk} (hk : k.lt n = true) : k.lt m = true := by
  cases k with
  | vars cs t => exact ltL_mono h hk
  | lp T d => exact allT_lt h hk
  | _ => rfl

section
variable {C : Cx} {Q : QT} {T : Tm} {L : List Blk}

/-- the record of a loop is turned -/
theorem Conc.turn {G : Globs} {N n b : Nat} {K : Kf} {β : List Gh} {M : Nat → Prop} {a : Act} {W : World} {T0 : Tm} {d : LpD} (h : Conc G N T L β M a W) (hg : β[n]? = some (.blk b)) (hL : L[n]? = some (.lp T0 d)) (s : LoopState) (p : Option Code) :
    ∃ r : Loop, W.heap[b]? = some (.loop r) ∧ d.is r ∧ Conc G N T (L.set n (.lp T0 { d with s, p })) β M a (W.putObj b (.loop { r with state := s, pending := p })) ∧
      Step K β M L W β M (L.set n (.lp T0 { d with s, p })) (W.putObj b (.loop { r with state := s, pending := p })) := by
  obtain ⟨hM, r, hh, hd, hc⟩ := h.sat.ok n _ _ hg hL
  obtain ⟨h1, h2, h3, h4, h5, h6⟩ := hd
  refine ⟨r, hh, ⟨h1, h2, h3, h4, h5, h6⟩, ?_⟩
  have hsz : W.heap.size ≤ (W.putObj b (.loop { r with state := s, pending := p })).heap.size := by simp
  have still : ∀ c, c < W.heap.size → ¬ M c → (W.putObj b (.loop { r with state := s, pending := p })).heap[c]? = W.heap[c]? ∧ ¬ M c := fun c _ hM' => ⟨putObj_other (fun e => hM' (e ▸ hM)), hM'⟩
  exact h.modify (K := K) (k := .lp T0 d) (k' := .lp T0 { d with s, p }) (b := b) _ hg hL rfl rfl rfl (fun b' hb' => by simpa [own] using hb'.symm)
    ⟨hM, _, World.putObj_heap_same (Array.getElem?_eq_some_iff.1 hh).1, ⟨rfl, rfl, h3, h4, h5, h6⟩, fun k x hx => let ⟨u, hu, hr⟩ := hc k x hx; ⟨u, hu, hr.ext (fun _ _ h => h) hsz still⟩⟩

/-- one round, out of the walk of its body -/
theorem YC.round {P : Program} {G : Globs} {K n N p : Nat} {T : Tm} {asg body : Code} {x : SV} {go : Bool} {Lh Lh' : List Blk} (hlen : Lh.length = n) (hlen' : Lh'.length = n) (hm : noMarks Lh = true) (hm' : noMarks Lh' = true)
    (hlt' : Lh'.all (Blk.lt (n + 1)) = true) (hTlt : allT (SV.lt (n + 1)) T = true) (hp : p < N) (hK : K ≤ n + 1)
    (h : ∀ b, AWp ⟨P, some b, G, ⟨K, n + 1⟩, N⟩ asg (fun e T1 L1 => e = .normal ∧ L1[n]? = some (.lp T ⟨N, .ready, none, #[p], asg, body⟩) ∧
      AWp ⟨P, some b, G, ⟨K, n + 1⟩, N⟩ body (fun e _ L2 => e = (if go = true then .normal else .ret) ∧ L2.take (n + 1) = Lh' ++ [.lp T ⟨N, .busy, none, #[p], asg, body⟩]) T1 (L1.set n (.lp T ⟨N, .busy, none, #[p], asg, body⟩)))
      ((p, x) :: T) (Lh ++ [.lp T ⟨N, .ready, none, #[p], asg, body⟩])) :
    YC P G K n [x] (Lh ++ [.lp T ⟨N, .ready, none, #[p], asg, body⟩]) (fun r L' => r = .im (.v (.bool go)) ∧
      L' = Lh' ++ [.lp T ⟨N, if go = true then .ready else .done, if go = true then none else some .ret, #[p], asg, body⟩]) := by
  intro β M W vs b hs hg hn hv
  have hL : (Lh ++ [Blk.lp T ⟨N, .ready, none, #[p], asg, body⟩])[n]? = some (.lp T ⟨N, .ready, none, #[p], asg, body⟩) := by rw [List.getElem?_append_right (by omega)]; simp [hlen]
  obtain ⟨hM, r, hh, ⟨h1, h2, h3, h4, h5, h6⟩, hT⟩ := hs.ok n _ _ hg hL
  simp only [] at h1 h2 h3 h4 h5 h6
  obtain ⟨v0, hv0, hr0⟩ := hv 0 x rfl
  have hvs : vs = #[v0] := by
    apply Array.ext
    · simpa using hn
    · intro i h1 h2
      have : i = 0 := by simp at h2; omega
      subst this
      rw [Array.getElem?_eq_getElem h1] at hv0
      simpa using hv0
  subst hvs
  have hy := run_yield (P := P) (args := #[v0]) hh (by rw [h3]; rfl)
  refine ⟨_, _, _, _, hy, ?_⟩
  rw [h3, h4, h5]
  have htm : ((#[p] : Array Tmp).zip #[v0]).foldl (fun tmps (t, a) => tmps.setIfInBounds t a) r.tmps = r.tmps.setIfInBounds p v0 := by simp
  rw [htm]
  refine roundIn_of_wpIn trivial ?_
  have hc : Conc G N ((p, x) :: T) (Lh ++ [.lp T ⟨N, .ready, none, #[p], asg, body⟩]) β M { tmps := r.tmps.setIfInBounds p v0, defers := [] } W := by
    refine ⟨by simpa using h6, fun k y hk => ?_, hs, ?_⟩
    · simp only [get] at hk
      split at hk
      · rename_i e; subst e; cases hk
        exact ⟨v0, by simp [h6, hp], hr0⟩
      · rename_i e
        obtain ⟨u, hu, hr⟩ := hT k y hk
        exact ⟨u, by rw [Array.getElem?_setIfInBounds_ne e]; exact hu, hr⟩
    · rw [marks_none _ _ (nomarks (by rw [noMarks_app, hm]; rfl))]; rfl
  refine wpIn_mono (h b β M _ W β M _ W hc (Step.refl ..)) ?_
  rintro e a1 W1 ⟨β1, M1, T1, L1, ⟨rfl, hL1, hb⟩, hc1, hs1⟩
  obtain ⟨g1, hg1, hk1⟩ := hs1.kin n _ (Nat.lt_succ_self n) hg
  simp only [Gh.kin] at hk1; subst hk1
  obtain ⟨r1, hh1, hd1, c2, s2⟩ := hc1.turn (K := ⟨K, n + 1⟩) hg1 hL1 .busy none
  have hbr : (Instr.beginRound b).run P W1 = .ok () (W1.putObj b (.loop { r1 with state := .busy, pending := none })) := by
    have := run_beginRound (P := P) hh1 hd1.1
    have e : r1.pending = none := hd1.2.1
    rw [this, ← e]
  refine ⟨_, hbr, ?_⟩
  refine wpIn_mono (hb β M _ W β1 M1 a1 _ c2 (hs1.trans s2)) ?_
  rintro e a2 W2 ⟨β2, M2, T2, L2, ⟨he, hL2⟩, hc2, hs2⟩
  obtain ⟨g2, hg2, hk2⟩ := hs2.kin n _ (Nat.lt_succ_self n) hg
  simp only [Gh.kin] at hk2; subst hk2
  have hLn : L2[n]? = some (.lp T ⟨N, .busy, none, #[p], asg, body⟩) := by
    have : (L2.take (n + 1))[n]? = some (.lp T ⟨N, .busy, none, #[p], asg, body⟩) := by rw [hL2, List.getElem?_append_right (by omega)]; simp [hlen']
    rwa [List.getElem?_take_of_lt (by omega)] at this
  have fin : ∀ (jump : Option Code), jump = (if go = true then none else some .ret) → ∃ v w', (Instr.endRound b jump).run P W2 = .ok v w' ∧ (fun e W' => ∃ v r L' β' M', e = .returned v ∧ (r = .im (.v (.bool go)) ∧
      L' = Lh' ++ [.lp T ⟨N, if go = true then .ready else .done, if go = true then none else some .ret, #[p], asg, body⟩]) ∧ noMarks L' = true ∧ L'.length = (Lh ++ [Blk.lp T ⟨N, .ready, none, #[p], asg, body⟩]).length ∧ Sat G β' M' L' W' ∧ R β' M' W' r v ∧ Step ⟨K, (Lh ++ [Blk.lp T ⟨N, .ready, none, #[p], asg, body⟩]).length⟩ β M (Lh ++ [.lp T ⟨N, .ready, none, #[p], asg, body⟩]) W β' M' L' W') (Ending.returned v) w' := by
    rintro jump rfl
    obtain ⟨r2, hh2, hd2, c3, s3⟩ := hc2.turn (K := ⟨K, n + 1⟩) hg2 hLn (if go = true then .ready else .done) (if go = true then none else some .ret)
    have her := run_endRound (P := P) (if go = true then none else some Code.ret) hh2
    refine ⟨_, _, her, ?_⟩
    have e1 : (if (if go = true then none else some Code.ret).isNone = true then LoopState.ready else LoopState.done) = (if go = true then .ready else .done) := by cases go <;> rfl
    have e2 : (if go = true then none else some Code.ret).isNone = go := by cases go <;> rfl
    rw [e1, e2]
    have hset : (L2.set n (.lp T ⟨N, if go = true then .ready else .done, if go = true then none else some .ret, #[p], asg, body⟩)).take (n + 1) = Lh' ++ [.lp T ⟨N, if go = true then .ready else .done, if go = true then none else some .ret, #[p], asg, body⟩] := by
      rw [List.take_set, hL2, List.set_append_right _ _ (by omega)]; simp [hlen']
    refine ⟨_, _, _, β2.take (n + 1), M2, rfl, ⟨rfl, rfl⟩, ?_, ?_, ?_, .im (.v _), ?_⟩
    · rw [noMarks_app, hm']; rfl
    · simp [hlen, hlen']
    · rw [← hset]
      refine c3.sat.take (n + 1) ?_
      rw [hset, List.all_append, hlt']
      simp [Blk.lt, hTlt]
    · rw [← hset]
      have e := (hs2.trans s3).take (m := n + 1) hK (Nat.le_refl _)
      simp only [List.length_append, hlen, List.length_singleton]
      exact e
  cases go with
  | true =>
    simp only [if_true] at he; subst he
    exact fin none rfl
  | false =>
    simp only [Bool.false_eq_true, if_false] at he; subst he
    exact fin (some .ret) rfl

/-! ### The statement -/
def Blk.hide : Blk → Blk
  | .mark => .obj (.deferred (some []))
  | k => k
def hideL (L : List Blk) : List Blk := L.map Blk.hide

theorem own_hide (g : Gh) (k : Blk) : own g k.hide = own g k := by
  cases k with
  | mark => cases g with
    | blk b => rfl
    | slc a n c => cases a <;> rfl
  | _ => rfl
theorem BS_hide {β : List Gh} {M : Nat → Prop} {W : World} {g : Gh} {k : Blk} : BS β M W g k.hide ↔ BS β M W g k := by
  cases k with
  | mark => cases g <;> exact Iff.rfl
  | _ => exact Iff.rfl

theorem Sat.hide {G : Globs} {β : List Gh} {M : Nat → Prop} {W : World} : Sat G β M (hideL L) W ↔ Sat G β M L W := by
  constructor
  · intro h
    refine ⟨by simpa [hideL] using h.len, fun i g k hg hk => BS_hide.1 (h.ok i g k.hide hg (by simp [hideL, hk])), fun i j gi gj ki kj b h1 h2 h3 h4 h5 h6 => ?_, h.glob⟩
    exact h.dis i j gi gj ki.hide kj.hide b h1 (by simp [hideL, h2]) h3 (by simp [hideL, h4]) (by rw [own_hide]; exact h5) (by rw [own_hide]; exact h6)
  · intro h
    refine ⟨by simpa [hideL] using h.len, fun i g k hg hk => ?_, fun i j gi gj ki kj b h1 h2 h3 h4 h5 h6 => ?_, h.glob⟩
    · simp only [hideL, List.getElem?_map, Option.map_eq_some_iff] at hk
      obtain ⟨k', hk', rfl⟩ := hk
      exact BS_hide.2 (h.ok i g k' hg hk')
    · simp only [hideL, List.getElem?_map, Option.map_eq_some_iff] at h2 h4
      obtain ⟨k1, a1, rfl⟩ := h2
      obtain ⟨k2, b1, rfl⟩ := h4
      rw [own_hide] at h5 h6
      exact h.dis i j gi gj k1 k2 b h1 a1 h3 b1 h5 h6

theorem Owned.hide {β : List Gh} {b : Nat} : Owned β (hideL L) b ↔ Owned β L b := by
  constructor
  · rintro ⟨i, g, k, h1, h2, h3⟩
    simp only [hideL, List.getElem?_map, Option.map_eq_some_iff] at h2
    obtain ⟨k', a1, rfl⟩ := h2
    exact ⟨i, g, k', h1, a1, by rw [← own_hide]; exact h3⟩
  · rintro ⟨i, g, k, h1, h2, h3⟩
    exact ⟨i, g, k.hide, h1, by simp [hideL, h2], by rw [own_hide]; exact h3⟩

theorem noMarks_hide (L : List Blk) : noMarks (hideL L) = true := by
  simp only [noMarks, hideL, List.all_map, List.all_eq_true]
  intro k _; cases k <;> rfl

/-- the marks are where they were -/
theorem marks_kin : ∀ (β β' : List Gh) (L L' : List Blk), β.length = L.length → β'.length = L'.length → L.map Blk.isMark = L'.map Blk.isMark →
    (∀ i : Nat, L[i]? = some Blk.mark → ∃ b, β[i]? = some (Gh.blk b) ∧ β'[i]? = some (Gh.blk b)) → marks β L = marks β' L'
  | [], [], L, L', h1, h2, _, _ => by
    have e1 := List.length_eq_zero_iff.1 h1.symm; have e2 := List.length_eq_zero_iff.1 h2.symm; subst e1 e2; rfl
  | [], g' :: β', L, L', h1, h2, h3, _ => by
    have e1 := List.length_eq_zero_iff.1 h1.symm; subst e1
    cases L' <;> simp at h2 h3
  | g :: β, [], L, L', h1, h2, h3, _ => by
    have e1 := List.length_eq_zero_iff.1 h2.symm; subst e1
    cases L <;> simp at h1 h3
  | g :: β, g' :: β', [], L', h1, _, _, _ => by simp at h1
  | g :: β, g' :: β', k :: L, [], _, h2, _, _ => by simp at h2
  | g :: β, g' :: β', k :: L, k' :: L', h1, h2, h3, h4 => by
    simp only [List.map_cons, List.cons.injEq] at h3
    have ih := marks_kin β β' L L' (by simpa using h1) (by simpa using h2) h3.2 (fun i hi => h4 (i + 1) (by simpa using hi))
    by_cases hk : k = .mark
    · subst hk
      obtain ⟨b, e1, e2⟩ := h4 0 rfl
      simp only [List.getElem?_cons_zero, Option.some.injEq] at e1 e2
      subst e1 e2
      have : k' = .mark := by
        have := h3.1
        cases k' <;> simp [Blk.isMark] at this ⊢
      subst this
      simp [marks, ih]
    · have hk' : k' ≠ .mark := by
        rintro rfl
        have := h3.1
        cases k <;> simp [Blk.isMark] at this hk
      have e1 : marks (g :: β) (k :: L) = marks β L := by cases g <;> cases k <;> first | rfl | exact absurd rfl hk
      have e2 : marks (g' :: β') (k' :: L') = marks β' L' := by cases g' <;> cases k' <;> first | rfl | exact absurd rfl hk'
      rw [e1, e2, ih]

/-- what names no slice is so while the blocks keep their names -/
theorem R.ofKin {β β' : List Gh} {M M' : Nat → Prop} {W W' : World} {n : Nat} (hn : β.length = n) (hk : ∀ (j b : Nat), β[j]? = some (.blk b) → β'[j]? = some (.blk b))
    (hs : W.heap.size ≤ W'.heap.size) (still : ∀ b, b < W.heap.size → ¬ M b → W'.heap[b]? = W.heap[b]? ∧ ¬ M' b) {x : SV} {u : Value} (r : R β M W x u) (hx : x.bo n = true) : R β' M' W' x u := by
  have no : ∀ {j : Nat} {g : Gh}, n ≤ j → β[j]? = some g → False := fun h1 h2 => by have := (List.getElem?_eq_some_iff.1 h2).1; omega
  induction r with
  | im h => exact .im (h.ext hs still)
  | loc o h => exact .loc o (hk _ _ h)
  | app h => simp only [SV.bo, decide_eq_true_eq] at hx; exact (no hx h).elim
  | sub s lo hi m cp h hcp => simp only [SV.bo, decide_eq_true_eq] at hx; exact (no hx h).elim
  | ap k h => simp only [SV.bo, decide_eq_true_eq] at hx; exact (no hx h).elim
  | agg hsz val hv hr ih => simp only [SV.bo] at hx; exact .agg hsz val hv fun j c hj => ih j c hj (boL_mem hx c (List.mem_of_getElem? hj))
  | tup hsz val hv hr ih => simp only [SV.bo] at hx; exact .tup hsz val hv fun j c hj => ih j c hj (boL_mem hx c (List.mem_of_getElem? hj))
  | yl h => exact .yl (hk _ _ h)
  | any u => exact .any u

/-- a loop over a function -/
theorem AWp.rangeFunc {g : Operand} {p : Tmp} {asg body : Code} {k : FuncId} {fs caps : List IV} {cs : List SV} {σ : Type} (st : σ → List Blk) (step : σ → SV → σ × Bool) (I : Nat → σ → Prop) (s0 : σ) (n : Nat)
    (hro : C.ro = none) (hg : aev C.G T g = some (.im (.fn k fs caps))) (hrun : ∀ (vs : Array Value) (W : World), (callFunc k vs).run C.P W = .ok (.enter k vs) W)
    (hseq : SeqC C.P C.G k fs caps cs) (hL : L = st s0) (hst : ∀ s, (st s).length = n ∧ (st s).map Blk.isMark = (st s0).map Blk.isMark ∧ (st s).all (Blk.lt n) = true) (hK : C.K.k ≤ n) (hF : C.K.f ≤ n) (hp : p < C.N)
    (hT : boT n T = true) (hTl : allT (SV.lt n) T = true) (hI : I 0 s0)
    (hround : ∀ (j : Nat) (x : SV) (s : σ), cs[j]? = some x → I j s → ((step s x).2 = true → I (j + 1) (step s x).1) ∧ ∀ b,
      AWp ⟨C.P, some b, C.G, ⟨C.K.k, n + 2⟩, C.N⟩ asg (fun e T1 L1 => e = .normal ∧ L1[n + 1]? = some (.lp T ⟨C.N, .ready, none, #[p], asg, body⟩) ∧
        AWp ⟨C.P, some b, C.G, ⟨C.K.k, n + 2⟩, C.N⟩ body (fun e _ L2 => e = (if (step s x).2 = true then .normal else .ret) ∧
          L2.take (n + 2) = hideL (st (step s x).1) ++ [.obj (.deferred (some []))] ++ [.lp T ⟨C.N, .busy, none, #[p], asg, body⟩]) T1 (L1.set (n + 1) (.lp T ⟨C.N, .busy, none, #[p], asg, body⟩)))
        ((p, x) :: T) (hideL (st s) ++ [.obj (.deferred (some []))] ++ [.lp T ⟨C.N, .ready, none, #[p], asg, body⟩]))
    (hend : (runS step s0 cs).2 = true → Q .normal T (st (runS step s0 cs).1 ++ [.mark])) (hstop : (runS step s0 cs).2 = false → Q .ret T (st (runS step s0 cs).1 ++ [.mark])) :
    AWp C (.rangeFunc g #[p] asg body) Q T L := by
  subst hL
  intro β₀ M₀ L₀ W₀ β M a W hc hs
  refine wpIn_rangeFunc ?_
  intro fn _
  show ∃ l mark w₁ d w₁' f args w₂, _
  rw [show (FW C.ro).round = none from hro]
  obtain ⟨us, vs, hu, hus, hvs, hur, hvr⟩ := fn_R (hc.ev hg)
  have hlen := hc.sat.len
  have hln : (st s0).length = n := (hst s0).1
  -- the block for deferred calls
  obtain ⟨c1, s1⟩ := hc.alloc (K := C.K) (.deferred (some [])) (.blk W.heap.size) (.obj (.deferred (some []))) rfl rfl ⟨.inr rfl, World.alloc_heap_new W _⟩
  -- the record
  let rec0 : Loop := { state := .ready, pending := none, fn, tmps := a.tmps, params := #[p], assign := asg, body, defers := W.heap.size }
  have hW1 : (W.alloc (.deferred (some []))).heap.size = W.heap.size + 1 := by simp
  obtain ⟨c2, s2⟩ := c1.alloc (K := C.K) (.loop rec0) (.blk (W.heap.size + 1)) (.lp T ⟨C.N, .ready, none, #[p], asg, body⟩) rfl (by rw [hW1]; rfl) ⟨.inr hW1.symm, rec0, by rw [← hW1]; exact World.alloc_heap_new _ _, ⟨rfl, rfl, rfl, rfl, rfl, hc.size⟩, fun k x hx => by
    obtain ⟨u, hu, hr⟩ := c1.tm k x hx
    exact ⟨u, hu, hr.ext β_snoc (by simp) (still_alloc _)⟩⟩
  refine ⟨W.heap.size + 1, [{ target := .collected W.heap.size, args := #[] }], (W.alloc (.deferred (some []))).alloc (.loop rec0), { target := .fn (.func k) vs, args := us ++ #[.func (.yield (W.heap.size + 1)) #[] #[]] }, (W.alloc (.deferred (some []))).alloc (.loop rec0), k, us ++ #[.func (.yield (W.heap.size + 1)) #[] #[]] ++ vs, (W.alloc (.deferred (some []))).alloc (.loop rec0), run_enterLoop_outer fn a.tmps #[p] asg body, ?_, fun _ _ => trivial, ?_, fun h => by simp [FW, Fence.wide] at h, ?_⟩
  · simp [resolve, hu, Deferred.ofValue]; rfl
  · simp [invoke, hrun]
  -- the loop's side, as it is told to the function
  let st' : σ × Bool → List Blk := fun q => hideL (st q.1) ++ [.obj (.deferred (some []))] ++ [.lp T ⟨C.N, if q.2 = true then .ready else .done, if q.2 = true then none else some .ret, #[p], asg, body⟩]
  let step' : σ × Bool → SV → (σ × Bool) × Bool := fun q x => (step q.1 x, (step q.1 x).2)
  have hTl2 : ∀ m, n ≤ m → allT (SV.lt m) T = true := fun m hm => allT_lt hm hTl
  have hbl : ∀ (k : Blk) (m : Nat), n ≤ m → k.lt n = true → k.lt m = true := fun k m hm hk => Blk.lt_mono hm hk
  have hlt' : ∀ s m, n ≤ m → (hideL (st s) ++ [Blk.obj (.deferred (some []))]).all (Blk.lt m) = true := by
    intro s m hm
    rw [List.all_append]
    simp only [Bool.and_eq_true]
    refine ⟨?_, by simp [Blk.lt]⟩
    rw [List.all_eq_true]
    intro k hk
    simp only [hideL, List.mem_map] at hk
    obtain ⟨k', hk', rfl⟩ := hk
    have := List.all_eq_true.1 (hst s).2.2 k' hk'
    cases k' <;> first | exact hbl _ m hm this | rfl
  have hhl : ∀ s, (hideL (st s) ++ [Blk.obj (.deferred (some []))]).length = n + 1 := fun s => by simp [hideL, (hst s).1]
  have hnm : ∀ s, noMarks (hideL (st s) ++ [Blk.obj (.deferred (some []))]) = true := fun s => by rw [noMarks_app, noMarks_hide]; rfl
  have hcall := hseq (σ × Bool) st' step' (fun j q => q.2 = true ∧ I j q.1) C.K.k (n + 1) (n + 2)
    (fun q => ⟨by simp [st', hideL, (hst q.1).1], by simp only [st', noMarks_app, noMarks_hide]; rfl, by
      simp only [st']
      rw [List.all_append, hlt' q.1 (n + 2) (by omega)]
      simp [Blk.lt, hTl2 (n + 2) (by omega)]⟩) (by omega) (by omega)
    (fun j x q hx hq => by
      obtain ⟨s, f⟩ := q
      obtain ⟨hf, hq⟩ := hq
      simp only at hf; subst hf
      obtain ⟨r1, r2⟩ := hround j x s hx hq
      refine ⟨fun hgo => ⟨hgo, r1 hgo⟩, ?_⟩
      exact YC.round (go := (step s x).2) (hhl s) (hhl (step s x).1) (hnm s) (hnm _) (hlt' _ _ (by omega)) (hTl2 _ (by omega)) hp (by omega) r2)
    (s0, true) ⟨rfl, hI⟩
  have hrunS : ∀ (l : List SV) (s : σ), (runS step' (s, true) l).1 = ((runS step s l).1, (runS step s l).2) := by
    intro l
    induction l with
    | nil => intro s; rfl
    | cons x l ih =>
      intro s
      simp only [runS, step']
      cases hgo : (step s x).2 with
      | true =>
        simp only [if_true]
        have := ih (step s x).1
        rw [show step s x = ((step s x).1, true) from by rw [← hgo]]
        exact this
      | false => simp only [Bool.false_eq_true, if_false]; rw [show step s x = ((step s x).1, false) from by rw [← hgo]]
  rw [hrunS] at hcall
  have hsat2 : Sat C.G (β ++ [.blk W.heap.size] ++ [.blk (W.heap.size + 1)]) (fun b => (M b ∨ b = W.heap.size) ∨ b = (W.alloc (.deferred (some []))).heap.size) (st' (s0, true)) ((W.alloc (.deferred (some []))).alloc (.loop rec0)) := by
    have h := Sat.hide.2 c2.sat
    have e : hideL (st s0 ++ [Blk.obj (.deferred (some []))] ++ [Blk.lp T ⟨C.N, .ready, none, #[p], asg, body⟩]) = st' (s0, true) := by
      simp [hideL, st', Blk.hide]
    rw [e] at h; exact h
  have hres := hcall _ _ _ (us ++ #[.func (.yield (W.heap.size + 1)) #[] #[]] ++ vs) hsat2 (by simp [hus, hvs]; omega) (fun j x hj => by
    have ext : ∀ {c : IV} {v : Value}, RI M W c v → RI (fun b => (M b ∨ b = W.heap.size) ∨ b = (W.alloc (.deferred (some []))).heap.size) ((W.alloc (.deferred (some []))).alloc (.loop rec0)) c v := by
      intro c v hr
      refine (hr.ext (W := W) (W' := W.alloc (.deferred (some []))) (M' := fun b => M b ∨ b = W.heap.size) (by simp) (still_alloc _)).ext (by simp) (still_alloc _)
    rcases get_app3 hj with ⟨h1, h2⟩ | ⟨i, rfl, h1, h2⟩ | ⟨i, rfl, h1⟩
    · simp only [List.getElem?_map, Option.map_eq_some_iff] at h1
      obtain ⟨c, hc', rfl⟩ := h1
      obtain ⟨v, hv, hr⟩ := hur j c hc'
      have : j < us.size := (Array.getElem?_eq_some_iff.1 hv).1
      exact ⟨v, by rw [Array.append_assoc, Array.getElem?_append_left this]; exact hv, .im (ext hr)⟩
    · have hi0 : i = 0 := by simp at h2; omega
      subst hi0
      simp only [List.getElem?_cons_zero, Option.some.injEq] at h1; subst h1
      refine ⟨.func (.yield (W.heap.size + 1)) #[] #[], ?_, .yl ?_⟩
      · rw [List.length_map, ← hus, Array.append_assoc, Array.getElem?_append_right (by omega), show us.size + 0 - us.size = 0 by omega, Array.getElem?_append_left (by simp)]
        rfl
      · rw [List.getElem?_append_right (by simp; omega)]; simp [hlen, hln]
    · simp only [List.getElem?_map, Option.map_eq_some_iff] at h1
      obtain ⟨c, hc', rfl⟩ := h1
      obtain ⟨v, hv, hr⟩ := hvr i c hc'
      refine ⟨v, ?_, .im (ext hr)⟩
      have e1 : (fs.map SV.im).length + [SV.yl (n + 1)].length + i = (us ++ #[Value.func (.yield (W.heap.size + 1)) #[] #[]]).size + i := by simp [hus]
      rw [e1, Array.getElem?_append_right (by omega)]
      simpa using hv)
  refine ⟨trivial, fun cs' hr => ?_⟩
  obtain ⟨e, W', fr, ⟨v, r, Lr, β', M', rfl, ⟨hq1, hq2⟩, hmk, hsat, hrr, hst3⟩, hrest⟩ := hres.2 cs' (fun _ h => by simp [Fence.wide] at h)
  refine ⟨.returned v, W', fr, ?_, hrest⟩
  subst hq2
  -- behind the function
  obtain ⟨s', go⟩ : ∃ q : σ × Bool, q = runS step s0 cs := ⟨_, rfl⟩
  generalize hq : runS step s0 cs = q at hsat hst3 hend hstop hmk
  obtain ⟨s', go⟩ := q
  simp only at hend hstop
  have hlast : (st' (s', go))[n + 1]? = some (.lp T ⟨C.N, if go = true then .ready else .done, if go = true then none else some .ret, #[p], asg, body⟩) := by
    simp only [st']; rw [List.getElem?_append_right (by rw [hhl]; omega), hhl]; simp
  have hgn : (β ++ [Gh.blk W.heap.size] ++ [Gh.blk (W.heap.size + 1)])[n + 1]? = some (.blk (W.heap.size + 1)) := by
    rw [List.getElem?_append_right (by simp; omega)]; simp [hlen, hln]
  have hgD : (β ++ [Gh.blk W.heap.size] ++ [Gh.blk (W.heap.size + 1)])[n]? = some (.blk W.heap.size) := by
    rw [List.append_assoc, List.getElem?_append_right (by omega)]; simp [hlen, hln]
  have kinb : ∀ (j b : Nat), (β ++ [Gh.blk W.heap.size] ++ [Gh.blk (W.heap.size + 1)])[j]? = some (.blk b) → β'[j]? = some (.blk b) := by
    intro j b hj
    have hjl : j < n + 2 := by
      have := (List.getElem?_eq_some_iff.1 hj).1
      simp [hlen, hln] at this; omega
    obtain ⟨g', h1, h2⟩ := hst3.kin j _ (by show j < (st' (s0, true)).length; simp [st', hideL, hln]; omega) hj
    simp only [Gh.kin] at h2; subst h2; exact h1
  -- the record is shut
  have hfake : Conc C.G 0 [] (st' (s', go)) β' M' { tmps := #[], defers := [] } W' := ⟨rfl, fun k x hx => by simp [get] at hx, hsat, by rw [marks_none _ _ (nomarks hmk)]; rfl⟩
  obtain ⟨r4, hh4, hd4, c4, s4⟩ := hfake.turn (K := C.K) (kinb _ _ hgn) hlast .exhausted (if go = true then none else some .ret)
  have hpend : r4.pending = (if go = true then none else some .ret) := hd4.2.1
  have hel : (Instr.endLoop (W.heap.size + 1)).run C.P W' = .ok (if go = true then none else some .ret) (W'.putObj (W.heap.size + 1) (.loop { r4 with state := .exhausted, pending := if go = true then none else some .ret })) := by
    have := run_endLoop (P := C.P) hh4 (by rw [hd4.1]; cases go <;> simp)
    rw [this, hpend]
  -- the blocks of the frame
  have hsat5 : Sat C.G (β'.take (n + 1)) M' (st s' ++ [.mark]) (W'.putObj (W.heap.size + 1) (.loop { r4 with state := .exhausted, pending := if go = true then none else some .ret })) := by
    have htk : ((st' (s', go)).set (n + 1) (.lp T { N := C.N, s := .exhausted, p := if go = true then none else some .ret, ps := #[p], asg := asg, body := body })).take (n + 1) = hideL (st s' ++ [.mark]) := by
      simp only [st']
      rw [List.set_append_right _ _ (by rw [hhl]; omega), List.take_append_of_le_length (by rw [hhl]; omega), List.take_of_length_le (by rw [hhl]; omega)]
      simp [hideL, Blk.hide]
    have := c4.sat.take (n + 1) (by
      rw [htk]
      have := hlt' s' (n + 1) (by omega)
      simpa [hideL, Blk.hide] using this)
    rw [htk] at this
    exact Sat.hide.1 this
  have hstep5 : Step C.K β M (st s0) W (β'.take (n + 1)) M' (st s' ++ [.mark]) (W'.putObj (W.heap.size + 1) (.loop { r4 with state := .exhausted, pending := if go = true then none else some .ret })) := by
    have hsl : (st' (s0, true)).length = n + 2 := by simp [st', hideL, hln]
    have hidestep : Step C.K (β ++ [.blk W.heap.size] ++ [.blk (W.heap.size + 1)]) (fun b => (M b ∨ b = W.heap.size) ∨ b = (W.alloc (.deferred (some []))).heap.size) (st s0 ++ [Blk.obj (.deferred (some []))] ++ [Blk.lp T ⟨C.N, .ready, none, #[p], asg, body⟩]) ((W.alloc (.deferred (some []))).alloc (.loop rec0)) β' M' (st' (s', go)) W' := by
      have ho : ∀ b, Owned (β ++ [.blk W.heap.size] ++ [.blk (W.heap.size + 1)]) (st' (s0, true)) b ↔ Owned (β ++ [.blk W.heap.size] ++ [.blk (W.heap.size + 1)]) (st s0 ++ [Blk.obj (.deferred (some []))] ++ [Blk.lp T ⟨C.N, .ready, none, #[p], asg, body⟩]) b := by
        intro b
        have e : hideL (st s0 ++ [Blk.obj (.deferred (some []))] ++ [Blk.lp T ⟨C.N, .ready, none, #[p], asg, body⟩]) = st' (s0, true) := by simp [hideL, st', Blk.hide]
        rw [← e]; exact Owned.hide
      exact ⟨hst3.pre, fun i g hi hg => hst3.kin i g (by show i < (st' (s0, true)).length; omega) hg, hst3.os, hst3.tape, hst3.output, hst3.size, fun b hb h => hst3.heap b hb fun h' => h ((ho b).1 h'), fun b hb h => hst3.muts b hb fun h' => h ((ho b).1 h'), fun b hb h => (ho b).1 (hst3.sub b hb h)⟩
    have h5 := ((s1.trans s2).trans hidestep).trans s4
    have h6 := h5.take (m := n + 1) (by omega) (by omega)
    refine ⟨h6.pre, h6.kin, h6.os, h6.tape, h6.output, h6.size, h6.heap, h6.muts, fun b hb ho => h6.sub b hb ?_⟩
    have htk : ((st' (s', go)).set (n + 1) (.lp T { N := C.N, s := .exhausted, p := if go = true then none else some .ret, ps := #[p], asg := asg, body := body })).take (n + 1) = hideL (st s' ++ [.mark]) := by
      simp only [st']
      rw [List.set_append_right _ _ (by rw [hhl]; omega), List.take_append_of_le_length (by rw [hhl]; omega), List.take_of_length_le (by rw [hhl]; omega)]
      simp [hideL, Blk.hide]
    rw [htk]
    exact Owned.hide.2 ho
  have hconc : Conc C.G C.N T (st s' ++ [.mark]) (β'.take (n + 1)) M' { a with defers := [{ target := .collected W.heap.size, args := #[] }] ++ a.defers } (W'.putObj (W.heap.size + 1) (.loop { r4 with state := .exhausted, pending := if go = true then none else some .ret })) := by
    refine ⟨hc.size, fun k x hx => ?_, hsat5, ?_⟩
    · obtain ⟨u, hu, hr⟩ := hc.tm k x hx
      refine ⟨u, hu, hr.ofKin (n := n) (by omega) (fun j b hj => ?_) hstep5.size (hstep5.still hc.sat) (boT_get hT hx)⟩
      have hjl : j < n := by have := (List.getElem?_eq_some_iff.1 hj).1; omega
      rw [List.getElem?_take_of_lt (by omega)]
      exact kinb j b (by rw [List.append_assoc, List.getElem?_append_left (by omega)]; exact hj)
    · have hbl' : β'.length = n + 2 := by
        have := hsat.len; rw [this]; simp [st', hideL, (hst s').1]
      have hD : β'[n]? = some (.blk W.heap.size) := kinb _ _ hgD
      have e1 : β'.take (n + 1) = β'.take n ++ [.blk W.heap.size] := by
        rw [List.take_add_one, hD]; rfl
      rw [e1, marks_append _ _ _ _ (by simp [(hst s').1, hbl']), hc.dfr]
      have e2 : marks (β'.take n) (st s') = marks β (st s0) := by
        refine (marks_kin β (β'.take n) (st s0) (st s') hlen (by simp [(hst s').1, hbl']) (hst s').2.1.symm ?_).symm
        intro i hi
        have hin : i < n := by rw [← hln]; exact (List.getElem?_eq_some_iff.1 hi).1
        obtain ⟨g, hgi⟩ : ∃ g, β[i]? = some g := ⟨β[i]'(by omega), List.getElem?_eq_getElem _⟩
        have hB := hc.sat.ok i g _ hgi hi
        cases g with
        | slc a n c => exact hB.elim
        | blk b =>
          refine ⟨b, hgi, ?_⟩
          rw [List.getElem?_take_of_lt hin]
          exact kinb i b (by rw [List.append_assoc, List.getElem?_append_left (by omega)]; exact hgi)
      rw [e2]
      simp [marks]
  refine ⟨_, _, hel, ?_⟩
  cases go with
  | true => exact ⟨_, _, _, _, hend rfl, hconc, hs.trans hstep5⟩
  | false => exact wpIn_ret ⟨_, _, _, _, hstop rfl, hconc, hs.trans hstep5⟩
end
end Av
end

section
/- The engine, part 26: blocks that are told of no more. -/
set_option linter.unusedSimpArgs false
namespace Av
open Go
section
variable {C : Cx} {Q : QT} {T : Tm} {L : List Blk}

/-- the blocks behind the first m are told of no more -/
theorem Conc.cut {G : Globs} {N : Nat} {K : Kf} {β : List Gh} {M : Nat → Prop} {a : Act} {W : World} (h : Conc G N T L β M a W) (m : Nat) (hK : K.k ≤ m) (hF : K.f ≤ m) (hT : allT (SV.lt m) T = true) (hL : (L.take m).all (Blk.lt m) = true) (hm : noMarks (L.drop m) = true) :
    Conc G N T (L.take m) (β.take m) M a W ∧ Step K β M L W (β.take m) M (L.take m) W := by
  refine ⟨⟨h.size, fun k x hx => ?_, h.sat.take m hL, ?_⟩, (Step.refl K β M L W).take hK hF⟩
  · obtain ⟨u, hu, hr⟩ := h.tm k x hx
    exact ⟨u, hu, hr.take (allT_get hT hx)⟩
  · rw [h.dfr]
    have key : ∀ (β : List Gh) (L : List Blk) (m : Nat), noMarks (L.drop m) = true → marks β L = marks (β.take m) (L.take m) := by
      intro β
      induction β with
      | nil => intro L m _; cases L <;> cases m <;> simp [marks]
      | cons g β ih =>
        intro L m hm
        cases m with
        | zero =>
          simp only [List.take_zero]
          rw [marks_none _ _ (nomarks (by simpa using hm))]; rfl
        | succ m =>
          cases L with
          | nil => cases g <;> simp [marks]
          | cons k L =>
            have := ih L m (by simpa using hm)
            cases g <;> cases k <;> simp [marks, this]
    rw [key β L m hm]

theorem AWp.cut {c : Code} (m : Nat) (h : AWp C c Q T (L.take m)) (hK : C.K.k ≤ m) (hF : C.K.f ≤ m) (hT : allT (SV.lt m) T = true) (hL : (L.take m).all (Blk.lt m) = true) (hm : noMarks (L.drop m) = true) : AWp C c Q T L := by
  intro β₀ M₀ L₀ W₀ β M a W hc hs
  obtain ⟨c1, c2⟩ := hc.cut m hK hF hT hL hm
  exact h β₀ M₀ L₀ W₀ _ M a W c1 (hs.trans c2)

/-- a loop over states of one's own; the blocks that a round has laid are told of no more behind it -/
theorem AWp.loopC {σ : Type} {c : Code} (I : σ → Prop) (μ : σ → Nat) (Tk : σ → Tm) (Lk : σ → List Blk) (s₀ : σ) (n : Nat) (hK : C.K.k ≤ n) (hF : C.K.f ≤ n) (hTl : ∀ s, allT (SV.lt n) (Tk s) = true) (hLl : ∀ s, (Lk s).all (Blk.lt n) = true) (h₀ : I s₀ ∧ subT (Tk s₀) T ∧ L = Lk s₀)
    (round : ∀ s, I s → AWp C c (thenQ (fun T' L' => ∃ s', I s' ∧ μ s' < μ s ∧ subT (Tk s') T' ∧ L'.take n = Lk s' ∧ noMarks (L'.drop n) = true) Q) (Tk s) (Lk s)) : AWp C (.loop c) Q T L := by
  intro β₀ M₀ L₀ W₀ β M a W hc hs
  refine wpIn_loop_rel (fun m a W => ∃ β M s, I s ∧ m = μ s ∧ Conc C.G C.N (Tk s) (Lk s) β M a W ∧ Step C.K β₀ M₀ L₀ W₀ β M (Lk s) W) (m := μ s₀) ⟨β, M, s₀, h₀.1, rfl, by rw [← h₀.2.2]; exact hc.tms (subT_spec h₀.2.1), by rw [← h₀.2.2]; exact hs⟩ ?_
  rintro m a W ⟨β, M, s, hI, rfl, hc, hs⟩
  refine wpIn_mono (round s hI β₀ M₀ L₀ W₀ β M a W hc hs) ?_
  rintro e a' W' ⟨β', M', T', L', q, hc', hs'⟩
  cases e with
  | normal =>
    obtain ⟨s', hI', hm, hT', hL', hnm⟩ := q
    obtain ⟨c1, c2⟩ := (hc'.tms (subT_spec hT')).cut (K := C.K) n hK hF (hTl s') (by rw [hL']; exact hLl s') hnm
    rw [hL'] at c1 c2
    exact ⟨μ s', hm, _, _, s', hI', rfl, c1, hs'.trans c2⟩
  | exit id => exact ⟨β', M', T', L', q, hc', hs'⟩
  | goto l => exact ⟨β', M', T', L', q, hc', hs'⟩
  | ret => exact ⟨β', M', T', L', q, hc', hs'⟩
  | panic ch => exact ⟨β', M', T', L', q, hc', hs'⟩
  | outgrown => exact ⟨β', M', T', L', q, hc', hs'⟩
end
end Av
end

section
/- The engine, part 27: open-order regions with more than calls among their oracles. -/
namespace Av
open Go
section
variable {C : Cx} {Q : QT}

def OpOk (C : Cx) (l : List Oper) (Tf : Tm) (i : Nat) (y : SV) : Prop :=
  ∀ o, l[i]? = some o → ∀ T L, (∀ z, z ∈ o.op.operands.toList → aev C.G T z = aev C.G Tf z) → OpTo C o T L (fun T' L' => T' = put T o.dst y ∧ L' = L)

theorem CallOk.op {l : List Oper} {Tf : Tm} {i : Nat} {y : SV} (h : CallOk C l Tf i y) (hd : l.all (fun o => dstOk C.N o.dst) = true) : OpOk C l Tf i y := by
  intro o hl T L hag
  obtain ⟨o', fv, args, ts, k, fs, caps, xs', h1, h2, h3, h4, h5, h6, h7, h8⟩ := h
  rw [hl] at h1; cases h1
  have hops : o.op.operands.toList = fv :: args.toList := by rw [h2]; simp [Op.operands, Call.operands]
  have hdo : dstOk C.N o.dst = true := List.all_eq_true.1 hd o (List.mem_of_getElem? hl)
  refine (OpTo.call h2 hdo (by rw [hag fv (by rw [hops]; simp)]; exact h3) h7 (by rw [callArgs_agree fun z hz => hag z (by rw [hops]; simp [hz])]; exact h4) h5 h8).mono ?_
  rintro T' L' ⟨r, Lr, ⟨rfl, rfl⟩, rfl, rfl⟩
  rw [SV.cl_ren h6, map_nil_ren]; exact ⟨rfl, rfl⟩

theorem OpOk.eqAgg {l : List Oper} {Tf : Tm} {i : Nat} {o : Oper} {op : BinOp} {t yt : TypeId} {x y : Operand} {sx sy : SV} {cs ds : List SV} {xs ys : List Value} {b : Bool} (hl : l[i]? = some o) (ho : o.op = .binOp op t x y yt) (hop : op = .eql ∨ op = .neq) (hd : dstOk C.N o.dst = true)
    (hg : C.P.eqGuardType C.P.depth t = false) (hx : aev C.G Tf x = some sx) (hy : aev C.G Tf y = some sy) (hcx : aggOf sx = some cs) (hcy : aggOf sy = some ds) (hlx : lits cs = some xs) (hly : lits ds = some ys)
    (heq : ∀ W, (Op.equalIn 10000 t (.agg xs.toArray) (.agg ys.toArray)).run C.P W = .ok b W) : OpOk C l Tf i (.im (.v (.bool (if op = .eql then b else !b)))) := by
  intro o' hl' T L hag
  rw [hl] at hl'; cases hl'
  have hops : ∀ z, z = x ∨ z = y → z ∈ o.op.operands.toList := by
    intro z hz
    rw [ho]
    rcases hz with rfl | rfl <;> simp [Op.operands]
  exact OpTo.eqAgg ho hop hd hg (by rw [hag x (hops x (.inl rfl))]; exact hx) (by rw [hag y (hops y (.inr rfl))]; exact hy) hcx hcy hlx hly heq

def AllOps (C : Cx) (l : List Oper) (Tf : Tm) : List (Nat × SV) → Prop
  | [] => True
  | (i, y) :: r => OpOk C l Tf i y ∧ AllOps C l Tf r

theorem AllOps.get {l : List Oper} {Tf : Tm} : ∀ {cs : List (Nat × SV)} {i : Nat} {y : SV}, AllOps C l Tf cs → lk cs i = some y → OpOk C l Tf i y
  | [], i, y, _, h => by simp [lk] at h
  | (k, x) :: r, i, y, h, hy => by
    simp only [lk] at hy
    split at hy
    · rename_i e; subst e; simp only [Option.some.injEq] at hy; subst hy; exact h.1
    · exact AllOps.get h.2 hy

theorem AWp.draws3 {id : Nat} {l : List Oper} {T0 : Tm} {L0 : List Blk} {xs : List SV} {Ls : List (List Blk)} (rows : List Row) (m : Nat) (cs : List (Nat × SV)) (hm : C.P.follows .mixedOrders = true)
    (hp : planOk l rows m = true) (hd : l.all (fun o => dstOk C.N o.dst) = true) (_ : trun C.P C.G l.toArray (lk cs) l rows 0 T0 L0 = some (xs, Ls))
    (hc : chkAll C l.toArray (lk cs) (tS (fun _ => true) (fun i => xs.getD i .any) T0 l 0) (L0 :: Ls) l rows xs 0)
    (hO : AllOps C l (tS (fun _ => true) (fun i => xs.getD i .any) T0 l 0) cs)
    (hq : Q .normal (tS (fun _ => true) (fun i => xs.getD i .any) T0 l 0) ((L0 :: Ls).getD m [])) : AWp C (.region id l.toArray true) Q T0 L0 := by
  refine AWp.draws (rows := rows) (m := m) (xs := xs) (Ls := L0 :: Ls) (lk cs) hm hp hd ?_ hc hq
  intro i o y hl hy T L hag
  exact hO.get hy o hl T L hag
end
end Av
end

section
/- The engine, part 28: parts of slices of one's own, in their place; what 'append' makes of a number; the capacity of nothing. -/
set_option linter.unusedSimpArgs false
namespace Av
open Go
section
variable {C : Cx} {Q : QT} {T : Tm} {L : List Blk}

theorem OpTo.capNil {o : Oper} {x : Operand} {t e : TypeId} {ti : TI} (ho : o.op = .call ⟨.builtin .cap, #[x], #[t]⟩) (hd : dstOk C.N o.dst = true) (hti : tinfo C.P t = some ti) (hk : ti.kind = .slice e) (hx : aev C.G T x = some (.im (.v (.slice none 0 0)))) :
    OpTo C o T L (fun T' L' => T' = put T o.dst (.im (.v (.int .i64 0))) ∧ L' = L) :=
  OpTo.pure (fun c => by rw [ho]; exact fun e => by cases e) (dstOk_spec hd) fun β M a W hc => by
    obtain ⟨d, h1, h2, h3, h4⟩ := run_underlying (W := W) hti
    have hd' : d = .slice e := by rw [hk] at h3; cases d <;> simp [kindOf] at h3; subst h3; rfl
    subst hd'
    have hu := (hc.ev hx).bool
    exact ⟨.int .i64 0, by simp [execOp, ho, resolve, invoke, builtin, Builtin.cap_, h1, hu, goInt], .im (.v _)⟩

theorem OpTo.sliceNil {o : Oper} {t e : TypeId} {x : Operand} {lo hi : Option Operand} {ti te : TI} (ho : o.op = .slice t x lo hi none) (hd : dstOk C.N o.dst = true)
    (hti : tinfo C.P t = some ti) (hk : ti.kind = .slice e) (hte : tinfo C.P e = some te) (hx : aev C.G T x = some (.im (.v (.slice none 0 0)))) (hlo : bnd C.G T 0 lo = some 0) (hhi : bnd C.G T 0 hi = some 0) :
    OpTo C o T L (fun T' L' => T' = put T o.dst (.im (.v (.slice none 0 0))) ∧ L' = L) :=
  OpTo.pure (fun c => by rw [ho]; exact fun e => by cases e) (dstOk_spec hd) fun β M a W hc => by
    obtain ⟨d, h1, h2, h3, h4⟩ := run_underlying (W := W) hti
    have hd' : d = .slice e := by rw [hk] at h3; cases d <;> simp [kindOf] at h3; subst h3; rfl
    subst hd'
    have hu := (hc.ev hx).bool
    obtain ⟨m, hb, hm1, hm2, hm3, hm4⟩ := run_bounds (P := C.P) (isS := true) (len := 0) (cap := 0) (mx := none) hc hlo hhi (Nat.le_refl 0) (.inl ⟨rfl, Nat.le_refl 0⟩)
    have hm := hm3 rfl
    subst hm
    have hb' : (Instr.sliceBounds true 0 0 (lo.map a.eval) (hi.map a.eval) none).run C.P W = .ok (0, 0, 0) W := hb
    exact ⟨.slice none 0 0, by simp [execOp, ho, Instr.sliceAt, h1, Instr.slice, hu, hb', run_sizeOf hte], .im (.v _)⟩

/-- 'x[:h]', x one's own, which is told of no more -/
theorem OpTo.cutA {o : Oper} {t e : TypeId} {x : Operand} {lo hi : Option Operand} {ti te : TI} {es : List (List IV)} {i h : Nat} (ho : o.op = .slice t x lo hi none) (hd : dstOk C.N o.dst = true)
    (hti : tinfo C.P t = some ti) (hk : ti.kind = .slice e) (hte : tinfo C.P e = some te) (hx : aev C.G T x = some (.app i)) (hL : L[i]? = some (.app te.size es e)) (hlo : bnd C.G T 0 lo = some 0) (hhi : bnd C.G T es.length hi = some h)
    (hh : h ≤ es.length) : OpTo C o T L (fun T' L' => T' = put T o.dst (.app L.length) ∧ L' = L.set i .dead ++ [.app te.size (es.take h) e]) := by
  intro β M a W hc next Qx hkk
  obtain ⟨d, h1, h2, h3, h4⟩ := run_underlying (W := W) hti
  have hd' : d = .slice e := by rw [hk] at h3; cases d <;> simp [kindOf] at h3; subst h3; rfl
  subst hd'
  have hil : i < L.length := (List.getElem?_eq_some_iff.1 hL).1
  have hlenβ := hc.sat.len
  obtain ⟨g, hg⟩ : ∃ g, β[i]? = some g := ⟨β[i]'(by omega), List.getElem?_eq_getElem _⟩
  have hB := hc.sat.ok i g _ hg hL
  cases g with
  | blk b => exact hB.elim
  | slc ad n cap =>
    obtain ⟨rfl, hB⟩ := hB
    have hu : a.eval x = .slice ad es.length cap := by
      have := hc.ev hx
      generalize a.eval x = u at this
      cases this with | app h => rw [hg] at h; cases h; rfl
    have hcap : h ≤ cap := by
      rcases hB with ⟨rfl, rfl⟩ | ⟨b, off, arr, rfl, hM, hh', hc0, hc1, _⟩
      · simpa using hh
      · omega
    obtain ⟨m, hb, hm1, hm2, hm3, hm4⟩ := run_bounds (P := C.P) (isS := true) (cap := cap) (mx := none) hc hlo hhi (Nat.zero_le _) (.inl ⟨rfl, hcap⟩)
    have hm := hm3 rfl
    subst hm
    have hb' : (Instr.sliceBounds true es.length m (lo.map a.eval) (hi.map a.eval) none).run C.P W = .ok (0, h, m) W := hb
    have had : (if m = 0 then ad else ad.map (·.add (0 * te.size))) = ad := by
      rcases hB with ⟨_, rfl⟩ | ⟨b, off, arr, rfl, _⟩
      · simp
      · split
        · rfl
        · simp [add_mk]
    have hrun : (execOp a.eval o).run C.P W = .ok (.value (.slice ad h m)) W := by
      simp only [execOp, ho, Instr.sliceAt, h1, Instr.slice, hu, run_sizeOf hte, Sem.run_bind, Sem.run_pure, Result.andThen_ok, Option.map_none, hb', Nat.sub_zero, had]
    rw [Oper.semAt_eq _ _ _ (fun c => by rw [ho]; exact fun e => by cases e), hrun, Oper.uponIn_value]
    have hown : own (.slc ad h m) (.app te.size (es.take h) e) = own (.slc ad es.length m) (.app te.size es e) := by cases ad <;> rfl
    obtain ⟨c1, c2⟩ := hc.move (K := C.K) (k := .app te.size es e) (W' := W) hg hL rfl (.slc ad h m) (.app te.size (es.take h) e) rfl rfl rfl rfl rfl (fun _ _ => rfl) (fun b hb2 => by rw [← hown]; exact hb2) (by
      have key : BS β M W (.slc ad h m) (.app te.size (es.take h) e) := by
        refine ⟨by simp; omega, ?_⟩
        rcases hB with ⟨rfl, rfl⟩ | ⟨b, off, arr, rfl, hM, hh', hc0, hc1, hc2, hc3, hc4⟩
        · exact .inl ⟨by simp, rfl⟩
        · refine .inr ⟨b, off, arr, rfl, hM, hh', hc0, by simp; omega, hc2, fun r hr => hc3 r (List.mem_of_mem_take hr), fun q r j c hq hj => hc4 q r j c ?_ hj⟩
          exact (take_get hq).2
      exact BS.keep (k := .app te.size (es.take h) e) (β := β) (β' := β ++ [.slc ad h m]) β_snoc (Nat.le_refl _) (fun _ _ h => ⟨rfl, h⟩) (fun b hb2 => ⟨rfl, (key.own_spec hb2).1⟩) key)
    exact hkk _ _ _ _ _ _ ⟨rfl, rfl⟩ (c1.put (dstOk_spec hd) (.app (by rw [← hlenβ]; simp))) c2

/-- 'x[:h]', x one's own, in its place -/
theorem OpTo.cutI {o : Oper} {t e : TypeId} {x : Operand} {lo hi : Option Operand} {ti te : TI} {es : List (List IV)} {i h : Nat} (ho : o.op = .slice t x lo hi none) (hd : dstOk C.N o.dst = true)
    (hti : tinfo C.P t = some ti) (hk : ti.kind = .slice e) (hte : tinfo C.P e = some te) (hx : aev C.G T x = some (.app i)) (hL : L[i]? = some (.app te.size es e)) (hlo : bnd C.G T 0 lo = some 0) (hhi : bnd C.G T es.length hi = some h)
    (hh : h ≤ es.length) (hK : C.K.k ≤ i) : OpTo C o T L (fun T' L' => T' = klT i L.length (put T o.dst (.app L.length)) ∧ L' = (L.map (Blk.kl i L.length)).set i (.app te.size (es.take h) e)) :=
  OpTo.inPlace hL hK (OpTo.cutA ho hd hti hk hte hx hL hlo hhi hh)

/-- 'append(nil, make(.., n)...)' -/
theorem OpTo.appendZ {o : Oper} {t e t2 : TypeId} {ti te ti2 : TI} {z : List Value} {x y : Operand} {n : Nat} {k2 : IntKind} (ho : o.op = .call ⟨.builtin .append, #[x, y], #[t, t2]⟩) (hd : dstOk C.N o.dst = true)
    (hti : tinfo C.P t = some ti) (hk : ti.kind = .slice e) (hte : tinfo C.P e = some te) (hz : te.zero = some z) (hzl : z.length = te.size) (hs0 : te.size ≠ 0) (hb0 : te.bytes ≠ 0) (hb1 : te.bytes ≤ 512) (ht2 : tinfo C.P t2 = some ti2) (hk2 : ti2.kind = .int k2)
    (hx : aev C.G T x = some (.im (.v (.slice none 0 0)))) (hy : aev C.G T y = some (.im (.v (.int .i64 (n : Int))))) (hn : 0 < n) (hbig : n ≤ bigN) :
    OpTo C o T L (fun T' L' => T' = put T o.dst (.app L.length) ∧ L' = L ++ [.app te.size (List.replicate n (z.map .v)) e]) := by
  intro β M a W hc next Qx hkk
  obtain ⟨d, h1, h2, h3, h4⟩ := run_underlying (W := W) hti
  have hd' : d = .slice e := by rw [hk] at h3; cases d <;> simp [kindOf] at h3; subst h3; rfl
  subst hd'
  obtain ⟨d2, g1, g2, g3, g4⟩ := run_underlying (W := W) ht2
  have hd2' : d2 = .int k2 := by rw [hk2] at g3; cases d2 <;> simp [kindOf] at g3; subst g3; rfl
  subst hd2'
  have hlenβ := hc.sat.len
  have hxe := (hc.ev hx).bool
  have hye := (hc.ev hy).bool
  have hsz := run_sizeOf (W := W) hte
  have hB : (0 + n) * te.bytes ≤ 140737488355328 := by
    have h1 : (0 + n) * te.bytes ≤ bigN * 512 := Nat.mul_le_mul (by omega) hb1
    exact Nat.le_trans h1 (by decide)
  have hgrow := growslice_fits (need := 0 + n) (old := 0) (bytes := te.bytes) (by omega) hB
  obtain ⟨zv, hzv, hzc⟩ := run_zeroValue (W := W.drew) hte hz
  obtain ⟨inf, hinf, hi1, hi2, hi3⟩ := run_typeInfo (W := W) hte
  obtain ⟨inf', hinf', hi1', hi2', hi3'⟩ := run_typeInfo (W := W.drew) hte
  have hcap : ∃ nc, 0 + n ≤ nc ∧ (choose (.appendCap (0 + n) 0 e)).run C.P W = .ok nc W.drew := by
    refine ⟨(Question.appendCap (0 + n) 0 e).cut (W.tape W.drawn (Question.appendCap (0 + n) 0 e)), ?_, ?_⟩
    · simp [Question.cut]
    · simp [Question.forced]
  obtain ⟨nc, hnc, hch⟩ := hcap
  have hbn : n ≤ 274877906944 := hbig
  have hwrap : ∀ q : Int, 0 ≤ q → q ≤ 274877906944 → IntKind.i64.wrap q = q := by
    intro q h1 h2
    simp only [IntKind.wrap, IntKind.bits, IntKind.signed]; simp; split <;> omega
  have hw : IntKind.i64.wrap (n : Int) = n := hwrap _ (by omega) (by omega)
  have hlb : ¬ ((n : Int) * (te.bytes : Int) > 2 ^ 48) := by
    have hB' : n * te.bytes ≤ 140737488355328 := by rw [Nat.zero_add] at hB; exact hB
    have e : (n : Int) * (te.bytes : Int) = ((n * te.bytes : Nat) : Int) := by simp
    rw [e]
    have h48 : (2 : Int) ^ 48 = 281474976710656 := by decide
    rw [h48]; omega
  have hns : ¬ (n * te.size = 0) := fun h => by rcases Nat.mul_eq_zero.1 h with h | h <;> omega
  rw [Oper.semAt_eq _ _ _ (fun c => by rw [ho]; exact fun e => by cases e)]
  have holds : (Builtin.firstCells te.size 0 (.slice none 0 0)).run C.P W.drew = .ok #[] W.drew := by simp [Builtin.firstCells]
  have hrun : (execOp a.eval o).run C.P W = .ok (.value (.slice (some ⟨W.heap.size, 0, none⟩) (0 + n) nc))
      (W.drew.alloc (.cells (#[] ++ Builtin.zeroCells z.toArray n ++ Builtin.zeroCells z.toArray (nc - (0 + n))) e)) := by
    simp only [execOp, ho, resolve, Sem.run_pure, Sem.run_bind, Result.andThen_ok, invoke, builtin, List.map_toArray, List.map_cons, List.map_nil, Builtin.append_, List.getElem?_toArray,
      List.getElem?_cons_zero, List.getElem?_cons_succ, h1, g1, hxe, hye, hsz, if_true, asInt, asIntOf, hw]
    rw [if_neg (by omega)]
    simp only [hinf, Result.andThen_ok, Sem.run_bind, hi2, Sem.run_pure]
    rw [if_neg hlb]
    simp only [Sem.run_bind, Sem.run_pure, Result.andThen_ok, Int.toNat_natCast]
    rw [if_neg (by omega)]
    simp only [hinf, Result.andThen_ok, Sem.run_bind, hi2, hb0, or_true, and_true]
    rw [if_neg (by simp only [IntKind.max, IntKind.bits]; have : n ≤ 274877906944 := hbig; simp; omega)]
    simp only [Sem.run_bind, Sem.run_pure, hinf, Result.andThen_ok, hi2]
    rw [if_neg (by omega)]
    simp only [Sem.run_bind, hch, Result.andThen_ok, hinf', run_askRoom, holds, hzv, hzc, newRow, run_newObj, Sem.run_pure, Bool.not_true, Bool.false_eq_true, if_false, hns]
    rfl
  rw [hrun, Oper.uponIn_value]
  obtain ⟨d1, d2⟩ := hc.drew (K := C.K)
  have hzc1 : (Builtin.zeroCells z.toArray n).size = n * te.size := by simp [Builtin.zeroCells, hzl]
  have hzc' : (Builtin.zeroCells z.toArray (nc - (0 + n))).size = (nc - (0 + n)) * te.size := by simp [Builtin.zeroCells, hzl]
  have hnew := World.alloc_heap_new W.drew (.cells (#[] ++ Builtin.zeroCells z.toArray n ++ Builtin.zeroCells z.toArray (nc - (0 + n))) e)
  obtain ⟨c1, c2⟩ := d1.alloc (K := C.K) (.cells (#[] ++ Builtin.zeroCells z.toArray n ++ Builtin.zeroCells z.toArray (nc - (0 + n))) e)
    (.slc (some ⟨W.heap.size, 0, none⟩) (0 + n) nc) (.app te.size (List.replicate n (z.map .v)) e) rfl (by simp [own]; omega)
    ⟨by simp, .inr ⟨W.heap.size, 0, _, rfl, .inr rfl, hnew, by omega, by simp; omega, by
      simp only [Array.size_append, hzc', hzc1, List.size_toArray, List.length_nil]
      rw [Nat.zero_add, Nat.zero_add, Nat.zero_add]
      rw [← Nat.add_mul, Nat.add_sub_cancel' (by omega)]; exact Nat.le_refl _, fun r hr => by rw [List.eq_of_mem_replicate hr]; simpa using hzl, fun m r j c hm hj => by
      have hmn : m < n := by have := (List.getElem?_eq_some_iff.1 hm).1; simpa using this
      rw [List.getElem?_replicate] at hm
      rw [if_pos hmn] at hm
      simp only [Option.some.injEq] at hm; subst hm
      simp only [List.getElem?_map, Option.map_eq_some_iff] at hj
      obtain ⟨v, hv, rfl⟩ := hj
      have hjl : j < z.length := (List.getElem?_eq_some_iff.1 hv).1
      have hq : m * te.size + j < n * te.size := by
        calc m * te.size + j < m * te.size + te.size := by omega
          _ = (m + 1) * te.size := by rw [Nat.succ_mul]
          _ ≤ n * te.size := Nat.mul_le_mul_right _ hmn
      refine ⟨v, ?_, .v v⟩
      simp only [Nat.zero_add, Array.empty_append]
      rw [Array.getElem?_append_left (by rw [hzc1]; exact hq)]
      have hmod : (m * te.size + j) % z.length = j := by rw [hzl, Nat.add_comm, Nat.add_mul_mod_self_right, Nat.mod_eq_of_lt (by omega)]
      have hv' : z[j] = v := by rw [List.getElem?_eq_getElem hjl] at hv; exact Option.some.inj hv
      simp only [Builtin.zeroCells, Array.getElem?_map, List.size_toArray, hzl]
      rw [Array.getElem?_range, if_pos hq]
      simp only [Option.map_some, Option.some.injEq]
      have e2 : (m * te.size + j) % te.size = j := by rw [← hzl]; rw [← hzl] at hmod; exact hmod
      rw [e2]; simp [hjl, hv']⟩⟩
  exact hkk _ _ _ _ _ _ ⟨rfl, rfl⟩ (c1.put (dstOk_spec hd) (.app (by rw [← hlenβ]; simp))) (d2.trans c2)
end
end Av
end
