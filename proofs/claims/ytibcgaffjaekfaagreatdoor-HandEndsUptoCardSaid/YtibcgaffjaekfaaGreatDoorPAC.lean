/- Part 3 of 22 of a proof: own engine, contracts and facts. -/
import Derived.RangeFuncLeaves
import Derived.Test.YtibcgaffjaekfaaGreatDoorPAB
set_option linter.all false
section
/- The engine, part 8: functions and calls. -/
namespace Av
open Go

/-! ### Runs of operations -/
def arun (P : Program) (G : Globs) (N : Nat) (ops : Array Oper) : Nat → List Oper → Tm → List Blk → Option (List Oper × Tm × List Blk)
  | 0, l, T, L => some (l, T, L)
  | n + 1, o :: l, T, L => match o.guard with
    | none => match astep P G N o T L with
      | some (T', L') => arun P G N ops n l T' L'
      | none => none
    | some (j, b) => match yieldsT ops T j with
      | some (.im (.v (.bool b'))) => match b', b with
        | true, true | false, false => match astep P G N o T L with
          | some (T', L') => arun P G N ops n l T' L'
          | none => none
        | true, false | false, true => if dstOk N o.dst = true then arun P G N ops n l (put T o.dst (.im (.v undef))) L else none
      | some (.im (.v (.tuple _))) => if dstOk N o.dst = true then arun P G N ops n l (put T o.dst (.im (.v undef))) L else none
      | _ => none
  | _ + 1, [], _, _ => none

section
variable {C : Cx} {Q : QT}

theorem AL.run {ops : Array Oper} (n : Nat) : ∀ {l l' : List Oper} {T T' : Tm} {L L' : List Blk}, arun C.P C.G C.N ops n l T L = some (l', T', L') → AL C ops Q l' T' L' → AL C ops Q l T L := by
  induction n with
  | zero =>
    intro l l' T T' L L' h k
    simp only [arun, Option.some.injEq, Prod.mk.injEq] at h
    obtain ⟨rfl, rfl, rfl⟩ := h; exact k
  | succ n ih =>
    intro l l' T T' L L' h k
    cases l with
    | nil => simp [arun] at h
    | cons o l =>
      simp only [arun] at h
      split at h
      · rename_i hg
        split at h
        · rename_i T1 L1 hs
          exact AL.cons (OpTo.astep hs) hg fun T2 L2 ⟨e1, e2⟩ => by subst e1 e2; exact ih h k
        · cases h
      · rename_i j b hg
        split at h
        · rename_i b' hy
          split at h
          · split at h
            · rename_i T1 L1 hs
              exact AL.want (OpTo.astep hs) hg hy fun T2 L2 ⟨e1, e2⟩ => by subst e1 e2; exact ih h k
            · cases h
          · split at h
            · rename_i T1 L1 hs
              exact AL.want (OpTo.astep hs) hg hy fun T2 L2 ⟨e1, e2⟩ => by subst e1 e2; exact ih h k
            · cases h
          · split at h
            · rename_i hd
              exact AL.pass hg hy (by simp) (dstOk_spec hd) (ih h k)
            · cases h
          · split at h
            · rename_i hd
              exact AL.pass hg hy (by simp) (dstOk_spec hd) (ih h k)
            · cases h
        · rename_i vs hy
          split at h
          · rename_i hd
            exact AL.pass hg hy (by simp) (dstOk_spec hd) (ih h k)
          · cases h
        · cases h
end

/-! ### Contracts -/
def noMarks (L : List Blk) : Bool := L.all fun k => !k.isMark

def ACall (P : Program) (G : Globs) (f : FuncId) (xs : List SV) (L : List Blk) (Q : SV → List Blk → Prop) : Prop :=
  ∀ (β : List Gh) (M : Nat → Prop) (W : World) (vs : Array Value), Sat G β M L W → vs.size = xs.length →
    (∀ (j : Nat) (x : SV), xs[j]? = some x → ∃ u : Value, vs[j]? = some u ∧ R β M W x u) →
    CallsIn Fence.wide 0 P f vs W (fun e W' => ∃ v r L' β' M', e = .returned v ∧ Q r L' ∧ noMarks L' = true ∧ Sat G β' M' L' W' ∧ R β' M' W' r v ∧ Step L.length β M L W β' M' L' W')

theorem ACall.mono {P : Program} {G : Globs} {f : FuncId} {xs : List SV} {L : List Blk} {Q Q' : SV → List Blk → Prop} (h : ACall P G f xs L Q) (hq : ∀ r L', Q r L' → Q' r L') :
    ACall P G f xs L Q' := fun β M W vs hs hn hv => by
  obtain ⟨h1, h2⟩ := h β M W vs hs hn hv
  refine ⟨h1, fun cs hr => ?_⟩
  obtain ⟨e, w', fr, ⟨v, r, L', β', M', h3, h4, h5⟩, hs⟩ := h2 cs hr
  exact ⟨e, w', fr, ⟨v, r, L', β', M', h3, hq _ _ h4, h5⟩, hs⟩

def resS (P : Program) (L : List Blk) (T : Tm) : List ResultVar → Option (List SV)
  | [] => some []
  | .tmp t :: r => (get T t).bind fun s => (resS P L T r).map (s :: ·)
  | .cell t ty :: r => (get T t).bind fun p => (tinfo P ty).bind fun ti => (rd L ti p).bind fun s => (resS P L T r).map (s :: ·)

def pack : List SV → SV
  | [s] => s
  | l => .tup l


mutual
def SV.lt (m : Nat) : SV → Bool
  | .im _ => true
  | .loc i _ => decide (i < m)
  | .app i => decide (i < m)
  | .sub i _ _ _ _ => decide (i < m)
  | .ap i _ => decide (i < m)
  | .agg cs => ltL m cs
  | .tup cs => ltL m cs
  | .yl i => decide (i < m)
  | .any => true
def ltL (m : Nat) : List SV → Bool
  | [] => true
  | x :: xs => x.lt m && ltL m xs
end

theorem ltL_mem {m : Nat} : ∀ {xs : List SV}, ltL m xs = true → ∀ x, x ∈ xs → x.lt m = true
  | [], _, x, h => by simp at h
  | y :: ys, h, x, hx => by
    simp only [ltL, Bool.and_eq_true] at h
    rcases List.mem_cons.1 hx with rfl | hx
    · exact h.1
    · exact ltL_mem h.2 x hx

theorem R.take {β : List Gh} {M : Nat → Prop} {W : World} {m : Nat} {x : SV} {u : Value} (r : R β M W x u) (hx : x.lt m = true) : R (β.take m) M W x u := by
  induction r with
  | im h => exact .im h
  | loc o h => simp only [SV.lt, decide_eq_true_eq] at hx; exact .loc o (by rw [List.getElem?_take_of_lt hx]; exact h)
  | app h => simp only [SV.lt, decide_eq_true_eq] at hx; exact .app (by rw [List.getElem?_take_of_lt hx]; exact h)
  | sub s lo hi m' cp h hcp => simp only [SV.lt, decide_eq_true_eq] at hx; exact .sub s lo hi m' cp (by rw [List.getElem?_take_of_lt hx]; exact h) hcp
  | ap k h => simp only [SV.lt, decide_eq_true_eq] at hx; exact .ap k (by rw [List.getElem?_take_of_lt hx]; exact h)
  | yl h => simp only [SV.lt, decide_eq_true_eq] at hx; exact .yl (by rw [List.getElem?_take_of_lt hx]; exact h)
  | agg hs val hv hr ih =>
    simp only [SV.lt] at hx
    exact .agg hs val hv fun j c hj => ih j c hj (ltL_mem hx c (List.mem_of_getElem? hj))
  | tup hs val hv hr ih =>
    simp only [SV.lt] at hx
    exact .tup hs val hv fun j c hj => ih j c hj (ltL_mem hx c (List.mem_of_getElem? hj))
  | any u => exact .any u

def Blk.lt (m : Nat) : Blk → Bool
  | .vars cs _ => ltL m cs
  | .lp T _ => allT (SV.lt m) T
  | _ => true

theorem BS.take {β : List Gh} {M : Nat → Prop} {W : World} {m : Nat} {g : Gh} {k : Blk} (h : BS β M W g k) (hk : k.lt m = true) : BS (β.take m) M W g k := by
  cases k with
  | vars cs t =>
    cases g with
    | blk b =>
      obtain ⟨hM, arr, hh, hsz, hc⟩ := h
      simp only [Blk.lt] at hk
      exact ⟨hM, arr, hh, hsz, fun k c hk' => let ⟨u, hu, hr⟩ := hc k c hk'; ⟨u, hu, hr.take (ltL_mem hk c (List.mem_of_getElem? hk'))⟩⟩
    | slc a n c => exact h.elim
  | lp T d =>
    cases g with
    | blk b =>
      obtain ⟨hM, r, hh, hd, hc⟩ := h
      simp only [Blk.lt] at hk
      exact ⟨hM, r, hh, hd, fun k c hk' => let ⟨u, hu, hr⟩ := hc k c hk'; ⟨u, hu, hr.take (allT_get hk hk')⟩⟩
    | slc a n c => exact h.elim
  | _ => cases g <;> exact h

theorem take_get {α : Type} {l : List α} {m i : Nat} {x : α} (h : (l.take m)[i]? = some x) : i < m ∧ l[i]? = some x := by
  have hi : i < m := by
    rcases Nat.lt_or_ge i m with h' | h'
    · exact h'
    · rw [List.getElem?_eq_none (by simp; omega)] at h; cases h
  rw [List.getElem?_take_of_lt hi] at h
  exact ⟨hi, h⟩

theorem Sat.take {G : Globs} {β : List Gh} {M : Nat → Prop} {L : List Blk} {W : World} (h : Sat G β M L W) (m : Nat) (hL : (L.take m).all (Blk.lt m) = true) : Sat G (β.take m) M (L.take m) W := by
  refine ⟨by simp [h.len], fun i g k hg hk => ?_, fun i j gi gj ki kj b hgi hki hgj hkj hoi hoj => ?_, h.glob⟩
  · exact (h.ok i g k (take_get hg).2 (take_get hk).2).take (List.all_eq_true.1 hL k (List.mem_of_getElem? hk))
  · exact h.dis i j gi gj ki kj b (take_get hgi).2 (take_get hki).2 (take_get hgj).2 (take_get hkj).2 hoi hoj

/-- what is asked where a function ends: of the blocks the first m alone are told of behind it -/
def retQ (P : Program) (K : Nat) (rs : List ResultVar) (Q : SV → List Blk → Prop) : QT
  | .normal, T, L | .ret, T, L => noMarks L = true ∧ ∃ m ss, K ≤ m ∧ resS P L T rs = some ss ∧ (pack ss).lt m = true ∧ (L.take m).all (Blk.lt m) = true ∧ Q (pack ss) (L.take m)
  | _, _, _ => False

def argsT (xs : List SV) : Tm := xs.zipIdx.map fun (x, i) => (i, x)

theorem get_argsT_aux : ∀ (xs : List SV) (n k : Nat) (x : SV), get ((xs.zipIdx n).map fun (x, i) => (i, x)) k = some x → n ≤ k ∧ xs[k - n]? = some x
  | [], _, _, _, h => by simp [get] at h
  | y :: ys, n, k, x, h => by
    simp only [List.zipIdx_cons, List.map_cons, get] at h
    split at h
    · rename_i e; subst e; simp at h; subst h; simp
    · rename_i hne
      obtain ⟨h1, h2⟩ := get_argsT_aux ys (n + 1) k x h
      refine ⟨by omega, ?_⟩
      rw [show k - n = (k - (n + 1)) + 1 by omega, List.getElem?_cons_succ]; exact h2

theorem get_argsT {xs : List SV} {k : Nat} {x : SV} (h : get (argsT xs) k = some x) : xs[k]? = some x := by
  have := get_argsT_aux xs 0 k x h
  simpa using this.2

theorem AWp.ret' {C : Cx} {T : Tm} {L : List Blk} {K : Nat} {rs : List ResultVar} {Q : SV → List Blk → Prop} (m : Nat) {ss : List SV} (hr : resS C.P L T rs = some ss) (hm : noMarks L = true) (hK : K ≤ m)
    (hl : (pack ss).lt m = true) (hb : (L.take m).all (Blk.lt m) = true) (hq : Q (pack ss) (L.take m)) : AWp C .ret (retQ C.P K rs Q) T L :=
  AWp.ret ⟨hm, m, ss, hK, hr, hl, hb, hq⟩

theorem resS_run {C : Cx} {T : Tm} {L : List Blk} {β : List Gh} {M : Nat → Prop} {a : Act} {W : World} (hc : Conc C.G C.N T L β M a W) : ∀ (rs : List ResultVar) (ss : List SV), resS C.P L T rs = some ss →
    ∃ vs : List Value, (rs.mapM (fun
      | .tmp t => Pure.pure (a.tmps.getD t undef)
      | .cell ad t => do loadVar t (← asAddr (a.tmps.getD ad undef)) : ResultVar → Sem Value)).run C.P W = .ok vs W ∧ vs.length = ss.length ∧
      ∀ (j : Nat) (s : SV), ss[j]? = some s → ∃ v : Value, vs[j]? = some v ∧ R β M W s v
  | [], ss, h => by simp [resS] at h; subst h; exact ⟨[], rfl, rfl, fun j s hj => by simp at hj⟩
  | .tmp t :: rs, ss, h => by
    simp only [resS, Option.bind_eq_some_iff, Option.map_eq_some_iff] at h
    obtain ⟨s, hs, r, hr, rfl⟩ := h
    obtain ⟨vs, h1, h2, h3⟩ := resS_run hc rs r hr
    obtain ⟨u, hu, hur⟩ := hc.tm t s hs
    refine ⟨u :: vs, ?_, by simp [h2], fun j s' hj => ?_⟩
    · rw [List.mapM_cons, Sem.run_bind]
      simp only [Array.getD_eq_getD_getElem?, hu, Option.getD_some, Sem.run_pure, Result.andThen_ok, Sem.run_bind]
      simp only [Array.getD_eq_getD_getElem?] at h1
      rw [h1]; rfl
    · cases j with
      | zero => simp at hj; subst hj; exact ⟨u, rfl, hur⟩
      | succ j => exact h3 j s' (by simpa using hj)
  | .cell t ty :: rs, ss, h => by
    simp only [resS, Option.bind_eq_some_iff, Option.map_eq_some_iff] at h
    obtain ⟨p, hp, ti, hti, s, hs, r, hr, rfl⟩ := h
    obtain ⟨vs, h1, h2, h3⟩ := resS_run hc rs r hr
    obtain ⟨u, hu, hur⟩ := hc.tm t p hp
    obtain ⟨v, hv, hvr⟩ := rd_R hc hti hur hs
    refine ⟨v :: vs, ?_, by simp [h2], fun j s' hj => ?_⟩
    · have hload : (do loadVar ty (← asAddr u) : Sem Value).run C.P W = .ok v W := by
        have hp' : ∃ ad, u = .pointer (some ad) := by
          cases hur with
          | loc => exact ⟨_, rfl⟩
          | im hi => cases hi <;> first | exact ⟨_, rfl⟩ | simp [rd] at hs
          | _ => simp [rd] at hs
        obtain ⟨ad, rfl⟩ := hp'
        simpa [Instr.loadAt, Instr.sureAddr, asAddr] using hv
      rw [List.mapM_cons, Sem.run_bind]
      simp only [Array.getD_eq_getD_getElem?, hu, Option.getD_some]
      rw [hload, Result.andThen_ok, Sem.run_bind]
      simp only [Array.getD_eq_getD_getElem?] at h1
      rw [h1]; rfl
    · cases j with
      | zero => simp at hj; subst hj; exact ⟨v, rfl, hvr⟩
      | succ j => exact h3 j s' (by simpa using hj)

theorem results_run {C : Cx} {T : Tm} {L : List Blk} {β : List Gh} {M : Nat → Prop} {a : Act} {W : World} (hc : Conc C.G C.N T L β M a W) {fn : Func} {ss : List SV}
    (h : resS C.P L T fn.results.toList = some ss) : ∃ v, (results fn a.tmps).run C.P W = .ok v W ∧ R β M W (pack ss) v := by
  obtain ⟨vs, h1, h2, h3⟩ := resS_run hc fn.results.toList ss h
  have hm : (results fn a.tmps).run C.P W = .ok (if h : vs.toArray.size = 1 then vs.toArray[0] else .tuple vs.toArray) W := by
    unfold results
    rw [Sem.run_bind, Array.mapM_eq_mapM_toList, Sem.run_map]
    have : (fn.results.toList.mapM (fun
      | .tmp t => Pure.pure (a.tmps.getD t undef)
      | .cell ad t => do loadVar t (← asAddr (a.tmps.getD ad undef)) : ResultVar → Sem Value)).run C.P W = .ok vs W := h1
    erw [this]; rfl
  refine ⟨_, hm, ?_⟩
  match vs, ss, h2, h3 with
  | [v], [s], _, h3 =>
    obtain ⟨v', hv', hr⟩ := h3 0 s rfl
    simp at hv'; subst hv'
    simpa [pack] using hr
  | [], [], _, _ => exact .tup rfl (fun _ => undef) (fun j c hj => by simp at hj) (fun j c hj => by simp at hj)
  | v :: v' :: vs, s :: s' :: ss, h2, h3 =>
    rw [dif_neg (by simp)]
    refine .tup (by simpa using h2) (fun j => (v :: v' :: vs).getD j undef) (fun j c hj => ?_) (fun j c hj => ?_)
    · obtain ⟨u, hu, _⟩ := h3 j c hj
      simp only [List.getElem?_toArray, List.getD_eq_getElem?_getD, hu, Option.getD_some]
    · obtain ⟨u, hu, hr⟩ := h3 j c hj
      simpa only [List.getD_eq_getElem?_getD, hu, Option.getD_some] using hr

/-- a function's contract, out of its body -/
theorem ACall.enter {P : Program} {G : Globs} {f : FuncId} {fn : Func} {c : Code} {xs : List SV} {L : List Blk} {Q : SV → List Blk → Prop} {N : Nat} {rs : List ResultVar}
    (hf : P.funcs[f]? = some fn) (hb : fn.body = some c) (hN : fn.ntmps = N) (hrs : fn.results.toList = rs) (hx : xs.length ≤ N) (hm : noMarks L = true)
    (h : AWp ⟨P, none, G, L.length, N⟩ c (retQ P L.length rs Q) (argsT xs) L) : ACall P G f xs L Q := by
  intro β M W vs hs hn hv
  have nomarks : ∀ {L : List Blk}, noMarks L = true → ∀ k, k ∈ L → k.isMark = false := fun hm k hk => by
    have := List.all_eq_true.1 hm k hk; simpa using this
  refine callsIn_of_wp hf hb trivial ?_
  have hc : Conc G N (argsT xs) L β M { tmps := vs ++ Array.replicate (fn.ntmps - vs.size) undef, defers := [] } W := by
    refine ⟨?_, fun k x hk => ?_, hs, ?_⟩
    · simp; omega
    · have hk' := get_argsT hk
      obtain ⟨u, hu, hr⟩ := hv k x hk'
      have hlt : k < vs.size := (Array.getElem?_eq_some_iff.1 hu).1
      exact ⟨u, by rw [Array.getElem?_append_left hlt]; exact hu, hr⟩
    · rw [marks_none β L (nomarks hm)]; rfl
  refine wpIn_mono (h β M L W β M _ W hc (Step.refl ..)) ?_
  rintro e a' W' ⟨β', M', T', L', q, hc', hs'⟩
  have fin : (noMarks L' = true ∧ ∃ m ss, L.length ≤ m ∧ resS P L' T' rs = some ss ∧ (pack ss).lt m = true ∧ (L'.take m).all (Blk.lt m) = true ∧ Q (pack ss) (L'.take m)) → a'.defers = [] ∧ ∃ v, (results fn a'.tmps).run P W' = .ok v W' ∧
      ∃ v' r L'' β'' M'', Ending.returned v = .returned v' ∧ Q r L'' ∧ noMarks L'' = true ∧ Sat G β'' M'' L'' W' ∧ R β'' M'' W' r v' ∧ Step L.length β M L W β'' M'' L'' W' := by
    rintro ⟨hm', m, ss, hKm, hss, hlt, hblt, hq⟩
    subst hrs
    obtain ⟨v, hv, hr⟩ := results_run (C := ⟨P, none, G, L.length, N⟩) hc' (fn := fn) hss
    refine ⟨by rw [hc'.dfr, marks_none β' L' (nomarks hm')]; rfl, v, hv, v, pack ss, L'.take m, β'.take m, M', rfl, hq, ?_, hc'.sat.take m hblt, hr.take hlt, ?_⟩
    · exact List.all_eq_true.2 fun k hk => List.all_eq_true.1 hm' k (List.mem_of_mem_take hk)
    · exact ⟨fun i g hi hg => by rw [List.getElem?_take_of_lt (by have : i < L.length := hi; omega)]; exact hs'.pre i g hi hg, fun i g hi hg => by rw [List.getElem?_take_of_lt (by have := (List.getElem?_eq_some_iff.1 hg).1; rw [hs.len] at this; omega)]; exact hs'.kin i g hi hg, hs'.os, hs'.tape, hs'.output, hs'.size, hs'.heap, hs'.muts,
        fun b hb ⟨i, g, k, hg, hk, ho⟩ => hs'.sub b hb ⟨i, g, k, (take_get hg).2, (take_get hk).2, ho⟩⟩
  cases e with
  | normal => exact fin q
  | ret => exact fin q
  | exit id => exact q.elim
  | goto l => exact q.elim
  | panic ch => exact q.elim
  | outgrown => exact q.elim
end Av
end

section
/- The engine, part 9: a call by its contract. -/
namespace Av
open Go

mutual
def SV.ren (ρ : Nat → Nat) : SV → SV
  | .im x => .im x
  | .loc i o => .loc (ρ i) o
  | .app i => .app (ρ i)
  | .sub i s lo hi m => .sub (ρ i) s lo hi m
  | .ap i k => .ap (ρ i) k
  | .agg cs => .agg (renL ρ cs)
  | .tup cs => .tup (renL ρ cs)
  | .yl i => .yl (ρ i)
  | .any => .any
def renL (ρ : Nat → Nat) : List SV → List SV
  | [] => []
  | x :: xs => x.ren ρ :: renL ρ xs
end

theorem renL_eq (ρ : Nat → Nat) : ∀ xs, renL ρ xs = xs.map (SV.ren ρ)
  | [] => by simp [renL]
  | x :: xs => by simp [renL, renL_eq ρ xs]

theorem R.rename {β β' : List Gh} {M : Nat → Prop} {W : World} {ρ : Nat → Nat} (hβ : ∀ (i : Nat) (g : Gh), β[i]? = some g → β'[ρ i]? = some g) {x : SV} {u : Value} (r : R β M W x u) : R β' M W (x.ren ρ) u := by
  induction r with
  | im h => simp only [SV.ren]; exact .im h
  | loc o h => simp only [SV.ren]; exact .loc o (hβ _ _ h)
  | app h => simp only [SV.ren]; exact .app (hβ _ _ h)
  | sub s lo hi m cp h hcp => simp only [SV.ren]; exact .sub s lo hi m cp (hβ _ _ h) hcp
  | ap k h => simp only [SV.ren]; exact .ap k (hβ _ _ h)
  | agg hs val hv hr ih =>
    simp only [SV.ren, renL_eq]
    refine .agg (by simpa using hs) val (fun j c hj => ?_) (fun j c hj => ?_)
    · simp only [List.getElem?_map, Option.map_eq_some_iff] at hj; obtain ⟨c', hc', rfl⟩ := hj; exact hv j c' hc'
    · simp only [List.getElem?_map, Option.map_eq_some_iff] at hj; obtain ⟨c', hc', rfl⟩ := hj; exact ih j c' hc'
  | tup hs val hv hr ih =>
    simp only [SV.ren, renL_eq]
    refine .tup (by simpa using hs) val (fun j c hj => ?_) (fun j c hj => ?_)
    · simp only [List.getElem?_map, Option.map_eq_some_iff] at hj; obtain ⟨c', hc', rfl⟩ := hj; exact hv j c' hc'
    · simp only [List.getElem?_map, Option.map_eq_some_iff] at hj; obtain ⟨c', hc', rfl⟩ := hj; exact ih j c' hc'
  | yl h => simp only [SV.ren]; exact .yl (hβ _ _ h)
  | any u => simp only [SV.ren]; exact .any u

def Blk.ren (ρ : Nat → Nat) : Blk → Blk
  | .vars cs t => .vars (renL ρ cs) t
  | .lp T d => .lp (mapT (SV.ren ρ) T) d
  | k => k

theorem own_ren (ρ : Nat → Nat) (g : Gh) (k : Blk) : own g (k.ren ρ) = own g k := by
  cases k with
  | vars cs t => cases g with
    | blk b => rfl
    | slc a n c => cases a <;> rfl
  | lp T d => cases g with
    | blk b => rfl
    | slc a n c => cases a <;> rfl
  | _ => rfl

theorem BS.rename {β β' : List Gh} {M : Nat → Prop} {W : World} {ρ : Nat → Nat} (hβ : ∀ (i : Nat) (g : Gh), β[i]? = some g → β'[ρ i]? = some g) {g : Gh} {k : Blk} (h : BS β M W g k) : BS β' M W g (k.ren ρ) := by
  cases k with
  | vars cs t =>
    cases g with
    | blk b =>
      obtain ⟨hM, arr, hh, hsz, hc⟩ := h
      refine ⟨hM, arr, hh, by simpa [renL_eq] using hsz, fun k c hk => ?_⟩
      simp only [renL_eq, List.getElem?_map, Option.map_eq_some_iff] at hk
      obtain ⟨c', hc', rfl⟩ := hk
      obtain ⟨u, hu, hr⟩ := hc k c' hc'
      exact ⟨u, hu, hr.rename hβ⟩
    | slc a n c => exact h.elim
  | lp T d =>
    cases g with
    | blk b =>
      obtain ⟨hM, r, hh, hd, hc⟩ := h
      refine ⟨hM, r, hh, hd, fun k c hk => ?_⟩
      rw [mapT_get, Option.map_eq_some_iff] at hk
      obtain ⟨c', hc', rfl⟩ := hk
      obtain ⟨u, hu, hr⟩ := hc k c' hc'
      exact ⟨u, hu, hr.rename hβ⟩
    | slc a n c => exact h.elim
  | _ => cases g <;> exact h

mutual
def SV.cl : SV → Bool
  | .im _ => true
  | .agg cs => clL cs
  | .tup cs => clL cs
  | .any => true
  | _ => false
def clL : List SV → Bool
  | [] => true
  | x :: xs => x.cl && clL xs
end

mutual
theorem SV.cl_ren {ρ : Nat → Nat} : ∀ {x : SV}, x.cl = true → x.ren ρ = x
  | .im x, _ => by simp [SV.ren]
  | .agg cs, h => by simp only [SV.cl] at h; simp only [SV.ren]; rw [clL_ren h]
  | .tup cs, h => by simp only [SV.cl] at h; simp only [SV.ren]; rw [clL_ren h]
  | .any, _ => by simp [SV.ren]
  | .loc _ _, h => by simp [SV.cl] at h
  | .app _, h => by simp [SV.cl] at h
  | .sub _ _ _ _ _, h => by simp [SV.cl] at h
  | .ap _ _, h => by simp [SV.cl] at h
  | .yl _, h => by simp [SV.cl] at h
theorem clL_ren {ρ : Nat → Nat} : ∀ {xs : List SV}, clL xs = true → renL ρ xs = xs
  | [], _ => by simp [renL]
  | x :: xs, h => by
    simp only [clL, Bool.and_eq_true] at h
    simp only [renL]; rw [SV.cl_ren h.1, clL_ren h.2]
end

theorem clL_mem : ∀ {xs : List SV}, clL xs = true → ∀ x, x ∈ xs → x.cl = true
  | [], _, x, h => by simp at h
  | y :: ys, h, x, hx => by
    simp only [clL, Bool.and_eq_true] at h
    rcases List.mem_cons.1 hx with rfl | hx
    · exact h.1
    · exact clL_mem h.2 x hx

/-- what does not name the frame's blocks is so under whatever names -/
theorem R.closed {β β' : List Gh} {M : Nat → Prop} {W : World} {x : SV} {u : Value} (r : R β M W x u) (hx : x.cl = true) : R β' M W x u := by
  induction r with
  | im h => exact .im h
  | agg hs val hv hr ih =>
    simp only [SV.cl] at hx
    exact .agg hs val hv fun j c hj => ih j c hj (clL_mem hx c (List.mem_of_getElem? hj))
  | tup hs val hv hr ih =>
    simp only [SV.cl] at hx
    exact .tup hs val hv fun j c hj => ih j c hj (clL_mem hx c (List.mem_of_getElem? hj))
  | any u => exact .any u
  | _ => simp [SV.cl] at hx

section
variable {C : Cx} {Q : QT} {T : Tm} {L : List Blk}

/-- the frame's blocks behind a call that was told of none of them -/
theorem Conc.behind {G : Globs} {N : Nat} {K : Kf} {β β' : List Gh} {M M' : Nat → Prop} {a : Act} {W W' : World} {L' : List Blk} (h : Conc G N T L β M a W) (hs : Sat G β' M' L' W')
    (st : Step ⟨0, 0⟩ [] M [] W β' M' L' W') (hm : noMarks L' = true) :
    Conc G N T (L ++ L'.map (Blk.ren (L.length + ·))) (β ++ β') M' a W' ∧ Step K β M L W (β ++ β') M' (L ++ L'.map (Blk.ren (L.length + ·))) W' ∧
      ∀ {x : SV} {u : Value}, R β' M' W' x u → R (β ++ β') M' W' (x.ren (L.length + ·)) u := by
  have none_owned : ∀ b, ¬ Owned ([] : List Gh) ([] : List Blk) b := by rintro b ⟨i, g, k, h1, _⟩; simp at h1
  have heap : ∀ b, b < W.heap.size → W'.heap[b]? = W.heap[b]? := fun b hb => st.heap b hb (none_owned b)
  have muts : ∀ b, b < W.heap.size → (M' b ↔ M b) := fun b hb => st.muts b hb (none_owned b)
  have new : ∀ b, Owned β' L' b → W.heap.size ≤ b := fun b ho => Nat.le_of_not_lt fun hb => none_owned b (st.sub b hb ho)
  have still : ∀ b, b < W.heap.size → ¬ M b → W'.heap[b]? = W.heap[b]? ∧ ¬ M' b := fun b hb hM => ⟨heap b hb, fun h => hM ((muts b hb).1 h)⟩
  have hlen := h.sat.len
  have hβ : ∀ (i : Nat) (g : Gh), β[i]? = some g → (β ++ β')[i]? = some g := fun i g hg => by rw [List.getElem?_append_left (List.getElem?_eq_some_iff.1 hg).1]; exact hg
  have hβ' : ∀ (i : Nat) (g : Gh), β'[i]? = some g → (β ++ β')[L.length + i]? = some g := fun i g hg => by rw [← hlen, List.getElem?_append_right (by omega), Nat.add_sub_cancel_left]; exact hg
  have split : ∀ (i : Nat) (g : Gh) (k : Blk), (β ++ β')[i]? = some g → (L ++ L'.map (Blk.ren (L.length + ·)))[i]? = some k →
      (i < L.length ∧ β[i]? = some g ∧ L[i]? = some k) ∨ (∃ j k', i = L.length + j ∧ β'[j]? = some g ∧ L'[j]? = some k' ∧ k = k'.ren (L.length + ·)) := by
    intro i g k hg hk
    rcases Nat.lt_or_ge i L.length with hi | hi
    · rw [List.getElem?_append_left (by omega)] at hg
      rw [List.getElem?_append_left hi] at hk
      exact .inl ⟨hi, hg, hk⟩
    · rw [List.getElem?_append_right (by omega)] at hg
      rw [List.getElem?_append_right hi, List.getElem?_map, Option.map_eq_some_iff] at hk
      obtain ⟨k', hk', rfl⟩ := hk
      exact .inr ⟨i - L.length, k', by omega, by rw [← hlen]; exact hg, hk', rfl⟩
  refine ⟨⟨h.size, fun n x hx => ?_, ⟨by simp [hlen, hs.len], ?_, ?_, ?_⟩, ?_⟩, ?_, fun hr => hr.rename hβ'⟩
  · obtain ⟨u, hu, hr⟩ := h.tm n x hx
    exact ⟨u, hu, hr.ext hβ st.size still⟩
  · intro i g k hg hk
    rcases split i g k hg hk with ⟨_, hg', hk'⟩ | ⟨j, k', rfl, hg', hk', rfl⟩
    · refine (h.sat.ok i g k hg' hk').keep hβ st.size still fun b hb => ?_
      have := h.sat.owned ⟨i, g, k, hg', hk', hb⟩
      exact ⟨heap b this.2, (muts b this.2).2 this.1⟩
    · exact (hs.ok j g k' hg' hk').rename hβ'
  · intro i j gi gj ki kj b hgi hki hgj hkj hoi hoj
    rcases split i gi ki hgi hki with ⟨_, hgi', hki'⟩ | ⟨i', ki', rfl, hgi', hki', rfl⟩ <;> rcases split j gj kj hgj hkj with ⟨_, hgj', hkj'⟩ | ⟨j', kj', rfl, hgj', hkj', rfl⟩
    · exact h.sat.dis i j gi gj ki kj b hgi' hki' hgj' hkj' hoi hoj
    · rw [own_ren] at hoj
      have h1 := (h.sat.owned ⟨i, gi, ki, hgi', hki', hoi⟩).2
      have h2 := new b ⟨j', gj, kj', hgj', hkj', hoj⟩
      omega
    · rw [own_ren] at hoi
      have h1 := (h.sat.owned ⟨j, gj, kj, hgj', hkj', hoj⟩).2
      have h2 := new b ⟨i', gi, ki', hgi', hki', hoi⟩
      omega
    · rw [own_ren] at hoi hoj
      rw [hs.dis i' j' gi gj ki' kj' b hgi' hki' hgj' hkj' hoi hoj]
  · exact hs.glob
  · rw [h.dfr, marks_append _ _ _ _ hlen, marks_none β' (L'.map _), List.append_nil]
    intro k hk
    obtain ⟨k', hk', rfl⟩ := List.mem_map.1 hk
    have := List.all_eq_true.1 hm k' hk'
    cases k' <;> simp [Blk.ren, Blk.isMark] at this ⊢
  · refine ⟨fun i g _ hg => hβ i g hg, fun i g _ hg => ⟨g, hβ i g hg, g.kin_refl⟩, st.os, st.tape, st.output, st.size, fun b hb _ => heap b hb, fun b hb _ => muts b hb, ?_⟩
    rintro b hb ⟨i, g, k, hg, hk, ho⟩
    rcases split i g k hg hk with ⟨_, hg', hk'⟩ | ⟨j, k', rfl, hg', hk', rfl⟩
    · exact ⟨i, g, k, hg', hk', ho⟩
    · rw [own_ren] at ho
      have := new b ⟨j, g, k', hg', hk', ho⟩
      omega

theorem nilSat {G : Globs} {β : List Gh} {M : Nat → Prop} {W : World} (h : Sat G β M L W) : Sat G [] M [] W :=
  ⟨rfl, fun i g k hg _ => by simp at hg, fun i j gi gj ki kj b hg _ _ _ _ _ => by simp at hg, h.glob⟩

/-- the arguments that a function is handed -/
def callArgs (G : Globs) (T : Tm) (fs : List IV) (xs : List Operand) (caps : List IV) : Option (List SV) :=
  (aevs G T xs).map fun ss => fs.map .im ++ ss ++ caps.map .im

theorem fn_R {β : List Gh} {M : Nat → Prop} {W : World} {k : FuncId} {fs caps : List IV} {u : Value} (h : R β M W (.im (.fn k fs caps)) u) :
    ∃ us vs : Array Value, u = .func (.func k) us vs ∧ us.size = fs.length ∧ vs.size = caps.length ∧
      (∀ (j : Nat) (c : IV), fs[j]? = some c → ∃ v : Value, us[j]? = some v ∧ RI M W c v) ∧ (∀ (j : Nat) (c : IV), caps[j]? = some c → ∃ v : Value, vs[j]? = some v ∧ RI M W c v) := by
  cases h with | im h => cases h with
    | fn hu hs valf val hvf hrf hv hr => exact ⟨_, _, rfl, hu, hs, fun j c hj => ⟨valf j, hvf j c hj, hrf j c hj⟩, fun j c hj => ⟨val j, hv j c hj, hr j c hj⟩⟩

theorem get_app3 {α : Type} {x y z : List α} {j : Nat} {a : α} (h : (x ++ y ++ z)[j]? = some a) :
    (x[j]? = some a ∧ j < x.length) ∨ (∃ i, j = x.length + i ∧ y[i]? = some a ∧ i < y.length) ∨ (∃ i, j = x.length + y.length + i ∧ z[i]? = some a) := by
  rcases Nat.lt_or_ge j x.length with h1 | h1
  · rw [List.append_assoc, List.getElem?_append_left h1] at h; exact .inl ⟨h, h1⟩
  · rcases Nat.lt_or_ge j (x.length + y.length) with h2 | h2
    · rw [List.getElem?_append_left (by simp; omega), List.getElem?_append_right h1] at h
      exact .inr (.inl ⟨j - x.length, by omega, h, by omega⟩)
    · rw [List.getElem?_append_right (by simp; omega)] at h
      exact .inr (.inr ⟨j - (x.length + y.length), by omega, by simpa using h⟩)

/-- a call of a function that is told of none of the frame's blocks -/
theorem OpTo.call {o : Oper} {fv : Operand} {args : Array Operand} {ts : Array TypeId} {k : FuncId} {fs caps : List IV} {xs : List SV} {Qc : SV → List Blk → Prop}
    (ho : o.op = .call ⟨.value fv, args, ts⟩) (hd : dstOk C.N o.dst = true) (hfv : aev C.G T fv = some (.im (.fn k fs caps)))
    (hrun : ∀ (vs : Array Value) (W : World), (callFunc k vs).run C.P W = .ok (.enter k vs) W) (hxs : callArgs C.G T fs args.toList caps = some xs) (hcl : clL xs = true)
    (hc : ACall C.P C.G k xs [] Qc) :
    OpTo C o T L (fun T' L' => ∃ r Lr, Qc r Lr ∧ T' = put T o.dst (r.ren (L.length + ·)) ∧ L' = L ++ Lr.map (Blk.ren (L.length + ·))) := by
  intro β M a W hcc next Qx hk
  simp only [callArgs, Option.map_eq_some_iff] at hxs
  obtain ⟨ss, hss, rfl⟩ := hxs
  obtain ⟨us, vs, hu, hus, hvs, hur, hvr⟩ := fn_R (hcc.ev hfv)
  obtain ⟨hl, hm⟩ := mapR hcc hss
  rw [Oper.semAt_eq _ _ _ (fun c => by rw [ho]; exact fun e => by cases e)]
  have hex : (execOp a.eval o).run C.P W = .ok (.enter k (us ++ args.map a.eval ++ vs)) W := by
    simp [execOp, ho, resolve, hu, Deferred.ofValue, invoke, hrun]
  rw [hex, Oper.uponIn_enter]
  refine ⟨fun h => by simp [FW, Fence.wide] at h, ?_⟩
  have hsz : (us ++ args.map a.eval ++ vs).size = (fs.map SV.im ++ ss ++ caps.map SV.im).length := by
    simp at hl
    simp [hus, hvs, hl]
  have hcall := hc [] M W (us ++ args.map a.eval ++ vs) (nilSat hcc.sat) hsz (fun j x hj => by
    have hxc : x.cl = true := clL_mem hcl x (List.mem_of_getElem? hj)
    have hlen : us.size + args.size = (fs.map SV.im).length + ss.length := by simp at hl; simp [hus, hl]
    rcases get_app3 hj with ⟨h1, h2⟩ | ⟨i, rfl, h1, h2⟩ | ⟨i, rfl, h1⟩
    · simp only [List.getElem?_map, Option.map_eq_some_iff] at h1
      obtain ⟨c, hc', rfl⟩ := h1
      obtain ⟨v, hv, hr⟩ := hur j c hc'
      have : j < us.size := (Array.getElem?_eq_some_iff.1 hv).1
      exact ⟨v, by rw [Array.append_assoc, Array.getElem?_append_left this]; exact hv, .im hr⟩
    · obtain ⟨v, hv, hr⟩ := hm i x h1
      have h3 : (args.map a.eval)[i]? = some v := by rw [← Array.getElem?_toList, Array.toList_map]; exact hv
      have h4 : i < (args.map a.eval).size := (Array.getElem?_eq_some_iff.1 h3).1
      refine ⟨v, ?_, hr.closed hxc⟩
      rw [List.length_map, ← hus, Array.getElem?_append_left (by simp at h4 ⊢; omega), Array.getElem?_append_right (by omega), Nat.add_sub_cancel_left]
      exact h3
    · simp only [List.getElem?_map, Option.map_eq_some_iff] at h1
      obtain ⟨c, hc', rfl⟩ := h1
      obtain ⟨v, hv, hr⟩ := hvr i c hc'
      refine ⟨v, ?_, .im hr⟩
      rw [← hlen, Array.getElem?_append_right (by simp)]
      simpa using hv)
  refine ⟨trivial, fun cs hr => ?_⟩
  obtain ⟨e, W', fr, ⟨v, r, Lr, β', M', he, hq, hmk, hsat, hrr, hst⟩, hrest⟩ := hcall.2 cs (fun _ h => by simp [Fence.wide] at h)
  subst he
  refine ⟨.returned v, W', fr, ?_, hrest⟩
  obtain ⟨h1, h2, h3⟩ := hcc.behind hsat hst hmk
  exact hk _ _ _ _ _ _ ⟨r, Lr, hq, rfl, rfl⟩ (h1.put (dstOk_spec hd) (h3 hrr)) h2
end
end Av
end

section
/- The engine, part 10: shorter rules. -/
namespace Av
open Go

section
variable {C : Cx} {Q : QT} {T : Tm} {L : List Blk}

theorem map_nil_ren (L : List Blk) (ρ : Nat → Nat) : L ++ ([] : List Blk).map (Blk.ren ρ) = L := by simp

theorem Conc.tms' {G : Globs} {N : Nat} {T' : Tm} {β : List Gh} {M : Nat → Prop} {a : Act} {W : World} (h : Conc G N T L β M a W)
    (ht : ∀ k x, get T' k = some x → get T k = some x) : Conc G N T' L β M a W := h.tms ht

/-- a call whose result is known, and names no block -/
theorem AL.call {ops : Array Oper} {o : Oper} {rest : List Oper} {fv : Operand} {args : Array Operand} {ts : Array TypeId} {k : FuncId} {fs caps : List IV} {xs : List SV} {x : SV}
    (ho : o.op = .call ⟨.value fv, args, ts⟩) (hg : o.guard = none) (hd : dstOk C.N o.dst = true) (hfv : aev C.G T fv = some (.im (.fn k fs caps)))
    (hrun : ∀ (vs : Array Value) (W : World), (callFunc k vs).run C.P W = .ok (.enter k vs) W) (hxs : callArgs C.G T fs args.toList caps = some xs) (hcl : clL xs = true)
    (hc : ACall C.P C.G k xs [] (fun r L' => r = x ∧ L' = [])) (hx : x.cl = true) (hk : AL C ops Q rest (put T o.dst x) L) : AL C ops Q (o :: rest) T L := by
  refine AL.cons (OpTo.call ho hd hfv hrun hxs hcl hc) hg ?_
  rintro T' L' ⟨r, Lr, ⟨rfl, rfl⟩, rfl, rfl⟩
  rw [SV.cl_ren hx, map_nil_ren]; exact hk

theorem AL.callG {ops : Array Oper} {o : Oper} {rest : List Oper} {fv : Operand} {args : Array Operand} {ts : Array TypeId} {k : FuncId} {fs caps : List IV} {xs : List SV} {x : SV} {j : Nat} {b : Bool}
    (ho : o.op = .call ⟨.value fv, args, ts⟩) (hg : o.guard = some (j, b)) (hy : yieldsT ops T j = some (.im (.v (.bool b)))) (hd : dstOk C.N o.dst = true) (hfv : aev C.G T fv = some (.im (.fn k fs caps)))
    (hrun : ∀ (vs : Array Value) (W : World), (callFunc k vs).run C.P W = .ok (.enter k vs) W) (hxs : callArgs C.G T fs args.toList caps = some xs) (hcl : clL xs = true)
    (hc : ACall C.P C.G k xs [] (fun r L' => r = x ∧ L' = [])) (hx : x.cl = true) (hk : AL C ops Q rest (put T o.dst x) L) : AL C ops Q (o :: rest) T L := by
  refine AL.want (OpTo.call ho hd hfv hrun hxs hcl hc) hg hy ?_
  rintro T' L' ⟨r, Lr, ⟨rfl, rfl⟩, rfl, rfl⟩
  rw [SV.cl_ren hx, map_nil_ren]; exact hk

/-- what a guard asks for is not known yet -/
theorem AL.split {ops : Array Oper} {l : List Oper} (d : Nat) {b : Bool} (hg : get T d = some (.im (.v (.bool b)))) (h1 : b = true → AL C ops Q l ((d, .im (.v (.bool true))) :: T) L)
    (h2 : b = false → AL C ops Q l ((d, .im (.v (.bool false))) :: T) L) : AL C ops Q l T L := by
  have key : ∀ b', b = b' → AL C ops Q l ((d, .im (.v (.bool b'))) :: T) L → AL C ops Q l T L := by
    rintro b' rfl h β₀ M₀ L₀ W₀ β M a W hc hs
    refine h β₀ M₀ L₀ W₀ β M a W (hc.tms' fun k x hk => ?_) hs
    simp only [get] at hk
    split at hk
    · rename_i e; subst e; cases hk; exact hg
    · exact hk
  cases hb : b
  · exact key false hb (h2 hb)
  · exact key true hb (h1 hb)

/-- a region that is followed by more -/
theorem AWp.reg {id : Nat} {l : List Oper} {y : Code} (h : AL C l.toArray (thenQ (AWp C y Q) Q) l T L) : AWp C (.seq (.region id l.toArray false) y) Q T L :=
  AWp.seq (AWp.region h)

theorem AL.fin {ops : Array Oper} {y : Code} (h : AWp C y Q T L) : AL C ops (thenQ (AWp C y Q) Q) [] T L := AL.nil h

/-- the rest of a region behind a part of it -/
theorem AL.append {ops : Array Oper} {l₂ : List Oper} : ∀ {l₁ : List Oper} {T : Tm} {L : List Blk}, AL C ops (thenQ (AL C ops Q l₂) Q) l₁ T L → AL C ops Q (l₁ ++ l₂) T L := by
  have mono : ∀ (l₁ : List Oper) (Q₁ Q₂ : Exit → Act → World → Prop) (a : Act) (W : World), (∀ a W, Q₁ .normal a W → wpListIn (FW C.ro) 0 C.P ops Q₂ l₂ a W) →
      (∀ e a W, e ≠ .normal → Q₁ e a W → Q₂ e a W) → wpListIn (FW C.ro) 0 C.P ops Q₁ l₁ a W → wpListIn (FW C.ro) 0 C.P ops Q₂ (l₁ ++ l₂) a W := by
    intro l₁ Q₁ Q₂
    induction l₁ with
    | nil => intro a W h1 h2 h; exact h1 a W h
    | cons o l ih =>
      intro a W h1 h2 h
      simp only [List.cons_append, wpListIn] at h ⊢
      split at h
      · rename_i hw
        rw [if_pos hw]
        refine ⟨h.1, ?_⟩
        have h' := h.2
        generalize (o.semAt (FW C.ro).round a.eval).run C.P W = r at h' ⊢
        have hout : LetsOut Q₁ → LetsOut Q₂ := fun ⟨a, w, q⟩ => ⟨a, w, h2 _ a w (by simp) q⟩
        cases r with
        | ok n w' =>
          cases n <;> simp only [Oper.uponIn] at h' ⊢ <;> first
            | exact ih _ _ h1 h2 h'
            | exact ⟨h'.1, h'.2.1, fun cs hr => by
                obtain ⟨e, w'', fr, hR, hrest⟩ := h'.2.2 cs hr
                refine ⟨e, w'', fr, ?_, hrest⟩
                cases e with
                | returned v => exact ih _ _ h1 h2 hR
                | panicked ch => exact h2 _ _ _ (by simp) hR
                | outgrown => exact hout hR⟩
            | exact ⟨h'.1, RowsIn.mono h'.2 fun v w'' hR => ih _ _ h1 h2 hR⟩
            | exact ⟨h'.1, RoundIn.mono h'.2 fun e w'' hR => by
                cases e with
                | returned v => exact ih _ _ h1 h2 hR
                | panicked ch => exact h2 _ _ _ (by simp) hR
                | outgrown => exact hout hR⟩
            | exact h'
        | halt x w' => cases x <;> simp only [Oper.uponIn] at h' ⊢ <;> first | exact h2 _ _ _ (by simp) h' | exact h'
      · rename_i hw
        rw [if_neg hw]
        exact ⟨h.1, ih _ _ h1 h2 h.2⟩
  intro l₁ T L h β₀ M₀ L₀ W₀ β M a W hc hs
  refine mono l₁ _ _ a W ?_ ?_ (h β₀ M₀ L₀ W₀ β M a W hc hs)
  · rintro a W ⟨β', M', T', L', q, hc', hs'⟩
    exact q β₀ M₀ L₀ W₀ β' M' a W hc' hs'
  · rintro e a W hne ⟨β', M', T', L', q, hc', hs'⟩
    cases e with
    | normal => exact absurd rfl hne
    | _ => exact ⟨β', M', T', L', q, hc', hs'⟩

/-- weaker views of what is in slots -/
def Vw (x y : SV) : Prop := ∀ β M W u, R β M W x u → R β M W y u

theorem Vw.rfl' {x : SV} : Vw x x := fun _ _ _ _ h => h
theorem Vw.any {x : SV} : Vw x .any := fun _ _ _ u _ => .any u
theorem Vw.nil {s : Nat} {a : Option Addr} {c : Nat} : Vw (.im (.v (.slice a 0 c))) (.im (.sl s [])) := fun β M W u h => by
  have := h.bool; subst this; exact .im (.emp s a c)

theorem AL.view {ops : Array Oper} {l : List Oper} (T' : Tm) (ht : ∀ k y, get T' k = some y → ∃ x, get T k = some x ∧ Vw x y) (h : AL C ops Q l T' L) : AL C ops Q l T L :=
  fun β₀ M₀ L₀ W₀ β M a W hc hs => h β₀ M₀ L₀ W₀ β M a W ⟨hc.size, fun k y hk => by
    obtain ⟨x, hx, hv⟩ := ht k y hk
    obtain ⟨u, hu, hr⟩ := hc.tm k x hx
    exact ⟨u, hu, hv _ _ _ _ hr⟩, hc.sat, hc.dfr⟩ hs
theorem AWp.view {c : Code} (T' : Tm) (ht : ∀ k y, get T' k = some y → ∃ x, get T k = some x ∧ Vw x y) (h : AWp C c Q T' L) : AWp C c Q T L :=
  fun β₀ M₀ L₀ W₀ β M a W hc hs => h β₀ M₀ L₀ W₀ β M a W ⟨hc.size, fun k y hk => by
    obtain ⟨x, hx, hv⟩ := ht k y hk
    obtain ⟨u, hu, hr⟩ := hc.tm k x hx
    exact ⟨u, hu, hv _ _ _ _ hr⟩, hc.sat, hc.dfr⟩ hs
end
end Av
namespace Av
open Go
section
variable {C : Cx} {Q : QT} {T : Tm} {L : List Blk}
theorem AL.call2 {ops : Array Oper} {o : Oper} {rest : List Oper} {fv : Operand} {args : Array Operand} {ts : Array TypeId} {k : FuncId} {fs caps : List IV} {xs : List SV}
    (ho : o.op = .call ⟨.value fv, args, ts⟩) (hg : o.guard = none) (hd : dstOk C.N o.dst = true) (hfv : aev C.G T fv = some (.im (.fn k fs caps)))
    (hrun : ∀ (vs : Array Value) (W : World), (callFunc k vs).run C.P W = .ok (.enter k vs) W) (hxs : callArgs C.G T fs args.toList caps = some xs)
    (h : ∃ x, ACall C.P C.G k xs [] (fun r L' => r = x ∧ L' = []) ∧ clL xs = true ∧ x.cl = true ∧ AL C ops Q rest (put T o.dst x) L) : AL C ops Q (o :: rest) T L := by
  obtain ⟨x, hc, hcl, hx, hk⟩ := h
  exact AL.call ho hg hd hfv hrun hxs hcl hc hx hk

theorem AL.call2G {ops : Array Oper} {o : Oper} {rest : List Oper} {fv : Operand} {args : Array Operand} {ts : Array TypeId} {k : FuncId} {fs caps : List IV} {xs : List SV} {j : Nat} {b : Bool}
    (ho : o.op = .call ⟨.value fv, args, ts⟩) (hg : o.guard = some (j, b)) (hy : yieldsT ops T j = some (.im (.v (.bool b)))) (hd : dstOk C.N o.dst = true) (hfv : aev C.G T fv = some (.im (.fn k fs caps)))
    (hrun : ∀ (vs : Array Value) (W : World), (callFunc k vs).run C.P W = .ok (.enter k vs) W) (hxs : callArgs C.G T fs args.toList caps = some xs)
    (h : ∃ x, ACall C.P C.G k xs [] (fun r L' => r = x ∧ L' = []) ∧ clL xs = true ∧ x.cl = true ∧ AL C ops Q rest (put T o.dst x) L) : AL C ops Q (o :: rest) T L := by
  obtain ⟨x, hc, hcl, hx, hk⟩ := h
  exact AL.callG ho hg hy hd hfv hrun hxs hcl hc hx hk
end
end Av
end
