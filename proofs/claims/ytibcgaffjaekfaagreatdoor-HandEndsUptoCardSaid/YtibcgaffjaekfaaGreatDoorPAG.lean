/- Part 7 of 22 of a proof: own engine, contracts and facts. -/
import Derived.Test.YtibcgaffjaekfaaGreatDoorPAF
set_option linter.all false
section
/- The engine, part 23: 'append' to a slice of one's own, in its place. -/
set_option linter.unusedSimpArgs false
namespace Av
open Go
section
variable {C : Cx} {Q : QT} {T : Tm} {L : List Blk}

mutual
/-- the slice i is told of no more; n takes its name -/
def SV.kl (i n : Nat) : SV → SV
  | .app j => if j = i then .any else if j = n then .app i else .app j
  | .agg cs => .agg (klL i n cs)
  | .tup cs => .tup (klL i n cs)
  | .im x => .im x
  | .loc j o => if j = i then .any else .loc j o
  | .sub j s lo hi m => if j = i then .any else if j = n then .sub i s lo hi m else .sub j s lo hi m
  | .ap j k => if j = i then .any else if j = n then .ap i k else .ap j k
  | .yl j => if j = i then .any else .yl j
  | .any => .any
def klL (i n : Nat) : List SV → List SV
  | [] => []
  | x :: xs => SV.kl i n x :: klL i n xs
end
theorem klL_eq (i n : Nat) : ∀ xs, klL i n xs = xs.map (SV.kl i n)
  | [] => rfl
  | x :: xs => by simp [klL, klL_eq i n xs]
def Blk.kl (i n : Nat) : Blk → Blk
  | .vars cs t => .vars (klL i n cs) t
  | .lp T d => .lp (mapT (SV.kl i n) T) d
  | k => k
def klT (i n : Nat) : Tm → Tm
  | [] => []
  | (k, x) :: T => (k, x.kl i n) :: klT i n T
theorem klT_get (i n : Nat) : ∀ (T : Tm) (k : Nat), get (klT i n T) k = (get T k).map (SV.kl i n)
  | [], _ => rfl
  | (k', x) :: T, k => by simp only [klT, get]; split <;> simp [klT_get i n T k]

theorem own_kl (i n : Nat) (g : Gh) (k : Blk) : own g (k.kl i n) = own g k := by
  cases k with
  | vars cs t => cases g with
    | blk b => rfl
    | slc a n c => cases a <;> rfl
  | lp T d => cases g with
    | blk b => rfl
    | slc a n c => cases a <;> rfl
  | _ => rfl

theorem R.kl {β β' : List Gh} {M : Nat → Prop} {W : World} {i n : Nat} {g' : Gh} (hs' : ∀ b, β[n]? ≠ some (.blk b)) (hβ : ∀ (j : Nat) (g : Gh), j ≠ i → j ≠ n → β[j]? = some g → β'[j]? = some g)
    (hn : β[n]? = some g') (hi : β'[i]? = some g') {x : SV} {u : Value} (r : R β M W x u) : R β' M W (x.kl i n) u := by
  induction r with
  | im h => exact .im h
  | loc o h =>
    simp only [SV.kl]; split
    · exact .any _
    · rename_i h1; exact .loc o (hβ _ _ h1 (fun e => hs' _ (e ▸ h)) h)
  | app h =>
    simp only [SV.kl]; split
    · exact .any _
    · rename_i h1
      split
      · rename_i h2; subst h2; rw [hn] at h; cases h; exact .app hi
      · rename_i h2; exact .app (hβ _ _ h1 h2 h)
  | sub s lo hi' m cp h hcp =>
    simp only [SV.kl]; split
    · exact .any _
    · rename_i h1
      split
      · rename_i h2; subst h2; rw [hn] at h; cases h; exact .sub s lo hi' m cp hi hcp
      · rename_i h2; exact .sub s lo hi' m cp (hβ _ _ h1 h2 h) hcp
  | ap k h =>
    simp only [SV.kl]; split
    · exact .any _
    · rename_i h1
      split
      · rename_i h2; subst h2; rw [hn] at h; cases h; exact .ap k hi
      · rename_i h2; exact .ap k (hβ _ _ h1 h2 h)
  | agg hsz val hv hr ih =>
    simp only [SV.kl, klL_eq]
    refine .agg (by simpa using hsz) val (fun j c hj => ?_) (fun j c hj => ?_)
    all_goals (simp only [List.getElem?_map, Option.map_eq_some_iff] at hj; obtain ⟨c', hc', rfl⟩ := hj)
    · exact hv j c' hc'
    · exact ih j c' hc'
  | tup hsz val hv hr ih =>
    simp only [SV.kl, klL_eq]
    refine .tup (by simpa using hsz) val (fun j c hj => ?_) (fun j c hj => ?_)
    all_goals (simp only [List.getElem?_map, Option.map_eq_some_iff] at hj; obtain ⟨c', hc', rfl⟩ := hj)
    · exact hv j c' hc'
    · exact ih j c' hc'
  | yl h =>
    simp only [SV.kl]; split
    · exact .any _
    · rename_i h1; exact .yl (hβ _ _ h1 (fun e => hs' _ (e ▸ h)) h)
  | any u => exact .any u

/-- the last block takes the place of one that is dead -/
theorem Conc.compact {G : Globs} {N : Nat} {β : List Gh} {M : Nat → Prop} {a : Act} {W : World} {i s : Nat} {es : List (List IV)} {t : TypeId} (h : Conc G N T (L ++ [.app s es t]) β M a W)
    (hL : L[i]? = some .dead) :
    ∃ β' g', β[L.length]? = some g' ∧ (∃ x n c, g' = .slc x n c) ∧ β' = (β.take L.length).set i g' ∧ Conc G N (klT i L.length T) ((L.map (Blk.kl i L.length)).set i (.app s es t)) β' M a W := by
  have hi : i < L.length := (List.getElem?_eq_some_iff.1 hL).1
  have hlen : β.length = L.length + 1 := by simpa using h.sat.len
  obtain ⟨g', hg'⟩ : ∃ g', β[L.length]? = some g' := ⟨β[L.length]'(by omega), List.getElem?_eq_getElem _⟩
  have hB' := h.sat.ok L.length g' (.app s es t) hg' (by simp)
  have hslc : ∃ x n c, g' = .slc x n c := by
    cases g' with
    | blk b => exact hB'.elim
    | slc a n c => exact ⟨a, n, c, rfl⟩
  refine ⟨_, g', hg', hslc, rfl, ?_⟩
  have hs' : ∀ b, β[L.length]? ≠ some (.blk b) := by
    obtain ⟨x, n, c, rfl⟩ := hslc
    intro b e; rw [hg'] at e; cases e
  have hgi : ((β.take L.length).set i g')[i]? = some g' := List.getElem?_set_self (by simp; omega)
  have hgj : ∀ (j : Nat) (g : Gh), j ≠ i → j ≠ L.length → β[j]? = some g → ((β.take L.length).set i g')[j]? = some g := by
    intro j g h1 h2 h3
    have : j < β.length := (List.getElem?_eq_some_iff.1 h3).1
    rw [List.getElem?_set_ne (Ne.symm h1), List.getElem?_take_of_lt (by omega)]; exact h3
  have back : ∀ (j : Nat) (g : Gh) (k : Blk), ((β.take L.length).set i g')[j]? = some g → ((L.map (Blk.kl i L.length)).set i (.app s es t))[j]? = some k →
      (j = i ∧ g = g' ∧ k = .app s es t) ∨ (j ≠ i ∧ j < L.length ∧ β[j]? = some g ∧ ∃ k', L[j]? = some k' ∧ k = k'.kl i L.length) := by
    intro j g k h1 h2
    by_cases hj : j = i
    · subst hj
      rw [hgi] at h1
      rw [List.getElem?_set_self (by simpa using hi)] at h2
      cases h1; cases h2; exact .inl ⟨rfl, rfl, rfl⟩
    · rw [List.getElem?_set_ne (Ne.symm hj)] at h1 h2
      obtain ⟨h3, h4⟩ := take_get h1
      simp only [List.getElem?_map, Option.map_eq_some_iff] at h2
      obtain ⟨k', hk', rfl⟩ := h2
      exact .inr ⟨hj, h3, h4, k', hk', rfl⟩
  have hkl : ∀ {x : SV} {u : Value}, R β M W x u → R ((β.take L.length).set i g') M W (x.kl i L.length) u := fun r => r.kl hs' hgj hg' hgi
  refine ⟨h.size, fun k x hx => ?_, ⟨by simp; omega, ?_, ?_, h.sat.glob⟩, ?_⟩
  · rw [klT_get] at hx
    simp only [Option.map_eq_some_iff] at hx
    obtain ⟨y, hy, rfl⟩ := hx
    obtain ⟨u, hu, hr⟩ := h.tm k y hy
    exact ⟨u, hu, hkl hr⟩
  · intro j g k h1 h2
    rcases back j g k h1 h2 with ⟨rfl, rfl, rfl⟩ | ⟨h3, h4, h5, k', h6, rfl⟩
    · exact BS.keep (k := .app s es t) (β' := β) (fun _ _ h => h) (Nat.le_refl _) (fun _ _ h => ⟨rfl, h⟩) (fun b hb => ⟨rfl, (hB'.own_spec hb).1⟩) hB' |> fun h => by
        cases g with
        | blk b => exact h.elim
        | slc a n c => exact h
    · have hb := h.sat.ok j g k' h5 (by rw [List.getElem?_append_left h4]; exact h6)
      cases k' with
      | vars cs t' =>
        cases g with
        | blk b =>
          obtain ⟨hM, arr, hh, hsz, hc⟩ := hb
          refine ⟨hM, arr, hh, by simpa [klL_eq] using hsz, fun q c hq => ?_⟩
          simp only [klL_eq, List.getElem?_map, Option.map_eq_some_iff] at hq
          obtain ⟨c', hc', rfl⟩ := hq
          obtain ⟨u, hu, hr⟩ := hc q c' hc'
          exact ⟨u, hu, hkl hr⟩
        | slc a n c => exact hb.elim
      | lp T d =>
        cases g with
        | blk b =>
          obtain ⟨hM, r, hh, hd, hc⟩ := hb
          refine ⟨hM, r, hh, hd, fun q c hq => ?_⟩
          rw [mapT_get, Option.map_eq_some_iff] at hq
          obtain ⟨c', hc', rfl⟩ := hq
          obtain ⟨u, hu, hr⟩ := hc q c' hc'
          exact ⟨u, hu, hkl hr⟩
        | slc a n c => exact hb.elim
      | _ => cases g <;> exact hb
  · intro j l gj gl kj kl c h1 h2 h3 h4 h5 h6
    have cv : ∀ (j : Nat) (g : Gh) (k : Blk), ((β.take L.length).set i g')[j]? = some g → ((L.map (Blk.kl i L.length)).set i (.app s es t))[j]? = some k → own g k = some c →
        ∃ j' k', β[j']? = some g ∧ (L ++ [.app s es t])[j']? = some k' ∧ own g k' = some c ∧ (j' = L.length ∧ j = i ∨ j' = j ∧ j ≠ i ∧ j < L.length) := by
      intro j g k h1 h2 h3
      rcases back j g k h1 h2 with ⟨rfl, rfl, rfl⟩ | ⟨h4, h5, h6, k', h7, rfl⟩
      · exact ⟨L.length, _, hg', by simp, h3, .inl ⟨rfl, rfl⟩⟩
      · rw [own_kl] at h3
        exact ⟨j, k', h6, by rw [List.getElem?_append_left h5]; exact h7, h3, .inr ⟨rfl, h4, h5⟩⟩
    obtain ⟨j', kj', a1, a2, a3, a4⟩ := cv j gj kj h1 h2 h5
    obtain ⟨l', kl', b1, b2, b3, b4⟩ := cv l gl kl h3 h4 h6
    have := h.sat.dis j' l' gj gl kj' kl' c a1 a2 b1 b2 a3 b3
    omega
  · rw [h.dfr]
    have hm1 : marks β (L ++ [.app s es t]) = marks (β.take L.length) L := by
      have e : β = β.take L.length ++ [g'] := by
        apply List.ext_getElem?
        intro j
        rcases Nat.lt_trichotomy j L.length with hj | hj | hj
        · rw [List.getElem?_append_left (by simp; omega), List.getElem?_take_of_lt hj]
        · have e1 : (β.take L.length).length = L.length := by simp; omega
          subst hj; rw [List.getElem?_append_right (by omega), e1, Nat.sub_self]; exact hg'
        · rw [List.getElem?_eq_none (by omega), List.getElem?_eq_none (by simp; omega)]
      have e2 : marks (β.take L.length ++ [g']) (L ++ [.app s es t]) = marks (β.take L.length) L := by
        rw [marks_append _ _ _ _ (by simp; omega), marks_none [g'] [.app s es t] (fun k hk => by simp at hk; subst hk; rfl)]
        simp
      rw [← e] at e2; exact e2
    have hm2 : ∀ (β : List Gh) (L : List Blk) (n : Nat), marks β (L.map (Blk.kl i n)) = marks β L := by
      intro β
      induction β with
      | nil => intro L n; cases L <;> rfl
      | cons g β ih =>
        intro L n
        cases L with
        | nil => cases g <;> rfl
        | cons k L => cases g <;> cases k <;> simp [marks, Blk.kl, ih]
    rw [hm1, marks_set _ _ i g' (Blk.kl i L.length .dead) (.app s es t) (by simp [hL]) rfl rfl, hm2]

/-- a slice of one's own that is told of anew: in its place -/
theorem OpTo.inPlace {o : Oper} {i s s' : Nat} {e e' : TypeId} {es es' : List (List IV)} (hL : L[i]? = some (.app s es e)) (hK : C.K.k ≤ i)
    (h : OpTo C o T L (fun T' L' => T' = put T o.dst (.app L.length) ∧ L' = L.set i .dead ++ [.app s' es' e'])) :
    OpTo C o T L (fun T' L' => T' = klT i L.length (put T o.dst (.app L.length)) ∧ L' = (L.map (Blk.kl i L.length)).set i (.app s' es' e')) := by
  intro β M a W hc next Qx hkk
  have hi : i < L.length := (List.getElem?_eq_some_iff.1 hL).1
  have hlen := hc.sat.len
  obtain ⟨g, hg⟩ : ∃ g, β[i]? = some g := ⟨β[i]'(by omega), List.getElem?_eq_getElem _⟩
  have hB := hc.sat.ok i g _ hg hL
  have hslc : ∃ x n c, g = .slc x n c := by
    cases g with
    | blk b => exact hB.elim
    | slc a n c => exact ⟨a, n, c, rfl⟩
  refine h β M a W hc next Qx ?_
  rintro β' M' a' W' T' L' ⟨rfl, rfl⟩ hc' hs'
  have hls : (L.set i Blk.dead).length = L.length := by simp
  have hlen' : β'.length = L.length + 1 := by simpa using hc'.sat.len
  obtain ⟨β'', g', h1, h2, h3, h4⟩ := hc'.compact (i := i) (by rw [List.getElem?_set_self hi])
  rw [hls] at h1 h3 h4
  have hset : (((L.set i Blk.dead).map (Blk.kl i L.length)).set i (.app s' es' e')) = (L.map (Blk.kl i L.length)).set i (.app s' es' e') := by
    rw [List.map_set, List.set_set]
  rw [hset] at h4
  refine hkk β'' M' a' W' _ _ ⟨rfl, rfl⟩ h4 ?_
  have hget : ∀ j, j ≠ i → j < L.length → β''[j]? = β'[j]? := fun j h5 h6 => by rw [h3, List.getElem?_set_ne (Ne.symm h5), List.getElem?_take_of_lt h6]
  have hgeti : β''[i]? = some g' := by rw [h3, List.getElem?_set_self (by simp; omega)]
  refine ⟨fun j gj hj hgj => ?_, fun j gj hf hgj => ?_, hs'.os, hs'.tape, hs'.output, hs'.size, hs'.heap, hs'.muts, ?_⟩
  · rw [hget j (by omega) (by omega)]; exact hs'.pre j gj hj hgj
  · have hjl : j < L.length := by rw [← hlen]; exact (List.getElem?_eq_some_iff.1 hgj).1
    by_cases hj : j = i
    · subst hj
      rw [hg] at hgj; cases hgj
      obtain ⟨x, n, c, rfl⟩ := hslc
      exact ⟨g', hgeti, h2⟩
    · rw [hget j hj hjl]; exact hs'.kin j gj hf hgj
  · rintro b hb ⟨j, gj, kj, hgj, hkj, ho'⟩
    refine hs'.sub b hb ?_
    by_cases hj : j = i
    · subst hj
      rw [hgeti] at hgj; cases hgj
      rw [List.getElem?_set_self (by simpa using hi)] at hkj; cases hkj
      exact ⟨L.length, _, _, h1, by rw [List.getElem?_append_right (by simp)]; simp, ho'⟩
    · have hjl : j < L.length := by
        have := (List.getElem?_eq_some_iff.1 hkj).1
        simpa using this
      rw [hget j hj hjl] at hgj
      rw [List.getElem?_set_ne (Ne.symm hj)] at hkj
      simp only [List.getElem?_map, Option.map_eq_some_iff] at hkj
      obtain ⟨k', hk', rfl⟩ := hkj
      rw [own_kl] at ho'
      exact ⟨j, gj, k', hgj, by rw [List.getElem?_append_left (by simpa using hjl), List.getElem?_set_ne (Ne.symm hj)]; exact hk', ho'⟩


/-- 'append' to a slice of one's own, in its place -/
theorem OpTo.appendI {o : Oper} {t e : TypeId} {ti te : TI} {z : List Value} {x y : Operand} {i : Nat} {es ys : List (List IV)} (ho : o.op = .call ⟨.builtin .append, #[x, y], #[t, t]⟩) (hd : dstOk C.N o.dst = true)
    (hti : tinfo C.P t = some ti) (hk : ti.kind = .slice e) (hte : tinfo C.P e = some te) (hz : te.zero = some z) (hzl : z.length = te.size) (hb0 : te.bytes ≠ 0) (hb1 : te.bytes ≤ 512) (hx : aev C.G T x = some (.app i))
    (hL : L[i]? = some (.app te.size es e)) (hy : aev C.G T y = some (.im (.sl te.size ys))) (hbig : es.length + ys.length ≤ bigN) (hoc : ∀ r, r ∈ ys → ∀ c, c ∈ r → oc (.im c) = true) (hK : C.K.k ≤ i) :
    OpTo C o T L (fun T' L' => T' = klT i L.length (put T o.dst (.app L.length)) ∧ L' = (L.map (Blk.kl i L.length)).set i (.app te.size (es ++ ys) e)) :=
  OpTo.inPlace hL hK (OpTo.appendA ho hd hti hk hte hz hzl hb0 hb1 hx hL hy hbig hoc)

/-- a variable that has nothing at all may be told of as having a slice of one's own -/
theorem Conc.newAppV {G : Globs} {N : Nat} {K : Kf} {β : List Gh} {M : Nat → Prop} {a : Act} {W : World} (h : Conc G N T L β M a W) (s : Nat) (t : TypeId) (v q : Nat) {cs : List SV} {bt : TypeId} (hv : L[v]? = some (.vars cs bt)) (hq : cs[q]? = some (.im (.v (.slice none 0 0)))) :
    ∃ β', Conc G N T (L.set v (.vars (cs.set q (.app L.length)) bt) ++ [.app s [] t]) β' M a W ∧ Step K β M L W β' M (L.set v (.vars (cs.set q (.app L.length)) bt) ++ [.app s [] t]) W := by
  obtain ⟨c1, c2⟩ := h.add (K := K) (.slc none 0 0) (.app s [] t) rfl rfl ⟨rfl, .inl ⟨rfl, rfl⟩⟩
  have hvl : v < L.length := (List.getElem?_eq_some_iff.1 hv).1
  have hv' : (L ++ [Blk.app s [] t])[v]? = some (.vars cs bt) := by rw [List.getElem?_append_left hvl]; exact hv
  have hset : L.set v (.vars (cs.set q (.app L.length)) bt) ++ [Blk.app s [] t] = (L ++ [Blk.app s [] t]).set v (.vars (cs.set q (.app L.length)) bt) := by rw [List.set_append_left _ _ hvl]
  rw [hset]
  have hcase : ∀ (j : Nat) (kj : Blk), ((L ++ [Blk.app s [] t]).set v (.vars (cs.set q (.app L.length)) bt))[j]? = some kj → (j = v ∧ kj = .vars (cs.set q (.app L.length)) bt) ∨ (j ≠ v ∧ (L ++ [Blk.app s [] t])[j]? = some kj) := by
    intro j kj hj
    by_cases e : j = v
    · subst e; rw [List.getElem?_set_self (by simp; omega)] at hj; cases hj; exact .inl ⟨rfl, rfl⟩
    · rw [List.getElem?_set_ne (Ne.symm e)] at hj; exact .inr ⟨e, hj⟩
  have ownv : ∀ g, own g (.vars (cs.set q (.app L.length)) bt) = own g (.vars cs bt) := by intro g; cases g with
    | blk b => rfl
    | slc a n c => cases a <;> rfl
  refine ⟨β ++ [.slc none 0 0], ⟨c1.size, c1.tm, ⟨by simpa using h.sat.len, ?_, ?_, c1.sat.glob⟩, ?_⟩, ⟨c2.pre, c2.kin, c2.os, c2.tape, c2.output, c2.size, c2.heap, c2.muts, ?_⟩⟩
  · intro j gj kj h1 h2
    rcases hcase j kj h2 with ⟨rfl, rfl⟩ | ⟨hne, h3⟩
    · have hb := c1.sat.ok j gj _ h1 hv'
      cases gj with
      | slc a n c => exact hb.elim
      | blk b =>
        obtain ⟨hM, arr, hh, hsz, hc⟩ := hb
        refine ⟨hM, arr, hh, by simpa using hsz, fun k c hk => ?_⟩
        by_cases e : k = q
        · subst e
          rw [List.getElem?_set_self (List.getElem?_eq_some_iff.1 hq).1] at hk
          cases hk
          obtain ⟨u, hu, hr⟩ := hc k _ hq
          have := hr.bool; subst this
          exact ⟨_, hu, .app (by rw [← h.sat.len]; simp)⟩
        · rw [List.getElem?_set_ne (Ne.symm e)] at hk
          exact hc k c hk
    · exact c1.sat.ok j gj kj h1 h3
  · intro j l gj gl kj kl c h1 h2 h3 h4 h5 h6
    have cv : ∀ (j : Nat) (kj : Blk), ((L ++ [Blk.app s [] t]).set v (.vars (cs.set q (.app L.length)) bt))[j]? = some kj → ∃ k', (L ++ [Blk.app s [] t])[j]? = some k' ∧ ∀ g, own g kj = own g k' := by
      intro j kj hj
      rcases hcase j kj hj with ⟨rfl, rfl⟩ | ⟨hne, h3⟩
      · exact ⟨_, hv', ownv⟩
      · exact ⟨_, h3, fun _ => rfl⟩
    obtain ⟨k1, a1, a2⟩ := cv j kj h2
    obtain ⟨k2, b1, b2⟩ := cv l kl h4
    exact c1.sat.dis j l gj gl k1 k2 c h1 a1 h3 b1 (by rw [← a2]; exact h5) (by rw [← b2]; exact h6)
  · rw [c1.dfr]
    have hg : ∃ g, (β ++ [Gh.slc none 0 0])[v]? = some g := ⟨(β ++ [Gh.slc none 0 0])[v]'(by have := h.sat.len; simp; omega), List.getElem?_eq_getElem _⟩
    obtain ⟨g, hg⟩ := hg
    have := marks_set (β ++ [Gh.slc none 0 0]) (L ++ [Blk.app s [] t]) v g (.vars cs bt) (.vars (cs.set q (.app L.length)) bt) hv' rfl rfl
    have hβ : (β ++ [Gh.slc none 0 0]).set v g = β ++ [Gh.slc none 0 0] := by
      apply List.ext_getElem?
      intro j
      by_cases hj : j = v
      · subst hj; rw [List.getElem?_set_self (List.getElem?_eq_some_iff.1 hg).1, hg]
      · rw [List.getElem?_set_ne (Ne.symm hj)]
    rw [hβ] at this; rw [this]
  · rintro b hb ⟨j, gj, kj, h1, h2, h3⟩
    refine c2.sub b hb ?_
    rcases hcase j kj h2 with ⟨rfl, rfl⟩ | ⟨hne, h4⟩
    · exact ⟨j, gj, _, h1, hv', by rw [← ownv]; exact h3⟩
    · exact ⟨j, gj, kj, h1, h4, h3⟩

theorem AWp.newAppV {c : Code} (s : Nat) (t : TypeId) (v q : Nat) {cs : List SV} {bt : TypeId} (hv : L[v]? = some (.vars cs bt)) (hq : cs[q]? = some (.im (.v (.slice none 0 0))))
    (h : AWp C c Q T (L.set v (.vars (cs.set q (.app L.length)) bt) ++ [.app s [] t])) : AWp C c Q T L := by
  intro β₀ M₀ L₀ W₀ β M a W hc hs
  obtain ⟨β', c1, c2⟩ := hc.newAppV (K := C.K) s t v q hv hq
  exact h β₀ M₀ L₀ W₀ _ M a W c1 (hs.trans c2)
end
end Av
end

section
/- The engine, part 24: functions with marks; what a loop's rounds promise; the call of 'yield'. -/
set_option linter.unusedSimpArgs false
namespace Av
open Go

/-- a function's contract, where the first K of the blocks alone keep their names -/
def ACallK (P : Program) (G : Globs) (K : Nat) (f : FuncId) (xs : List SV) (L : List Blk) (Q : SV → List Blk → Prop) : Prop :=
  ∀ (β : List Gh) (M : Nat → Prop) (W : World) (vs : Array Value), Sat G β M L W → vs.size = xs.length →
    (∀ (j : Nat) (x : SV), xs[j]? = some x → ∃ u : Value, vs[j]? = some u ∧ R β M W x u) →
    CallsIn Fence.wide 0 P f vs W (fun e W' => ∃ v r L' β' M', e = .returned v ∧ Q r L' ∧ noMarks L' = true ∧ Sat G β' M' L' W' ∧ R β' M' W' r v ∧ Step ⟨K, L.length⟩ β M L W β' M' L' W')

theorem ACallK.toC {P : Program} {G : Globs} {f : FuncId} {xs : List SV} {L : List Blk} {Q : SV → List Blk → Prop} (h : ACallK P G L.length f xs L Q) : ACall P G f xs L Q := h

/-- what a round promises: the loop is the block i -/
def YC (P : Program) (G : Globs) (K i : Nat) (xs : List SV) (L : List Blk) (Q : SV → List Blk → Prop) : Prop :=
  ∀ (β : List Gh) (M : Nat → Prop) (W : World) (vs : Array Value) (b : Nat), Sat G β M L W → β[i]? = some (.blk b) → vs.size = xs.length →
    (∀ (j : Nat) (x : SV), xs[j]? = some x → ∃ u : Value, vs[j]? = some u ∧ R β M W x u) →
    ∃ fn tmps assign body, (Instr.yield b vs).run P W = .ok (.round b fn tmps assign body) W ∧
      RoundIn Fence.wide 0 P b fn tmps assign body W (fun e W' => ∃ v r L' β' M', e = .returned v ∧ Q r L' ∧ noMarks L' = true ∧ L'.length = L.length ∧ Sat G β' M' L' W' ∧ R β' M' W' r v ∧ Step ⟨K, L.length⟩ β M L W β' M' L' W')

theorem marks_snoc : ∀ (β : List Gh) (L : List Blk) (xs : List Deferred) (d : Deferred), marks β L = xs ++ [d] →
    ∃ i b, β[i]? = some (.blk b) ∧ L[i]? = some .mark ∧ d = { target := .collected b, args := #[] } ∧ ∀ o, marks β (L.set i (.obj o)) = xs
  | [], L, xs, d, h => by cases L <;> simp [marks] at h
  | g :: β, [], xs, d, h => by cases g <;> simp [marks] at h
  | g :: β, k :: L, xs, d, h => by
    have ih := marks_snoc β L
    by_cases hk : ∃ b, g = .blk b ∧ k = .mark
    · obtain ⟨b, rfl, rfl⟩ := hk
      simp only [marks] at h
      cases xs with
      | nil =>
        simp only [List.nil_append, List.cons.injEq] at h
        obtain ⟨rfl, h⟩ := h
        exact ⟨0, b, rfl, rfl, rfl, fun o => by simp [marks, h]⟩
      | cons x xs =>
        simp only [List.cons_append, List.cons.injEq] at h
        obtain ⟨rfl, h⟩ := h
        obtain ⟨i, b', h1, h2, h3, h4⟩ := ih xs d h
        exact ⟨i + 1, b', by simpa using h1, by simpa using h2, h3, fun o => by simp [marks, h4 o]⟩
    · have hm : ∀ L', marks (g :: β) (k :: L') = marks β L' := by
        intro L'
        cases g with
        | blk b => cases k <;> first | rfl | exact absurd ⟨b, rfl, rfl⟩ hk
        | slc a n c => cases k <;> rfl
      rw [hm] at h
      obtain ⟨i, b', h1, h2, h3, h4⟩ := ih xs d h
      exact ⟨i + 1, b', by simpa using h1, by simpa using h2, h3, fun o => by simp only [List.set_cons_succ, hm, h4 o]⟩

section
variable {C : Cx} {Q : QT} {T : Tm} {L : List Blk}

/-- a block told of in another way -/
theorem Conc.exch {G : Globs} {N : Nat} {K : Kf} {β : List Gh} {M : Nat → Prop} {a : Act} {W : World} (h : Conc G N T L β M a W) {i : Nat} {k k' : Blk} {ds : List Deferred} (hL : L[i]? = some k)
    (ho : ∀ g, own g k' = own g k) (hB : ∀ g, BS β M W g k → BS β M W g k') (hd : ds = (marks β (L.set i k')).reverse) :
    Conc G N T (L.set i k') β M { a with defers := ds } W ∧ Step K β M L W β M (L.set i k') W := by
  have hi : i < L.length := (List.getElem?_eq_some_iff.1 hL).1
  have hset : ∀ (j : Nat) (kj : Blk), (L.set i k')[j]? = some kj → ∃ k0, L[j]? = some k0 ∧ (∀ g, own g kj = own g k0) ∧ ∀ g, BS β M W g k0 → BS β M W g kj := by
    intro j kj hj
    by_cases hji : j = i
    · subst hji; rw [List.getElem?_set_self hi] at hj; cases hj; exact ⟨k, hL, ho, hB⟩
    · rw [List.getElem?_set_ne (Ne.symm hji)] at hj; exact ⟨kj, hj, fun _ => rfl, fun _ h => h⟩
  refine ⟨⟨h.size, h.tm, ⟨by simpa using h.sat.len, ?_, ?_, h.sat.glob⟩, hd⟩, ⟨fun _ _ _ h => h, fun _ g _ h => ⟨g, h, g.kin_refl⟩, rfl, rfl, rfl, Nat.le_refl _, fun _ _ _ => rfl, fun _ _ _ => Iff.rfl, ?_⟩⟩
  · intro j gj kj h1 h2
    obtain ⟨k0, a1, a2, a3⟩ := hset j kj h2
    exact a3 _ (h.sat.ok j gj k0 h1 a1)
  · intro j l gj gl kj kl c h1 h2 h3 h4 h5 h6
    obtain ⟨k0, a1, a2, _⟩ := hset j kj h2
    obtain ⟨k1, b1, b2, _⟩ := hset l kl h4
    exact h.sat.dis j l gj gl k0 k1 c h1 a1 h3 b1 (by rw [← a2]; exact h5) (by rw [← b2]; exact h6)
  · rintro b hb ⟨j, gj, kj, h1, h2, h3⟩
    obtain ⟨k0, a1, a2, _⟩ := hset j kj h2
    exact ⟨j, gj, k0, h1, a1, by rw [← a2]; exact h3⟩

theorem Conc.unmark {G : Globs} {N : Nat} {K : Kf} {β : List Gh} {M : Nat → Prop} {a : Act} {W : World} (h : Conc G N T L β M a W) {d : Deferred} {ds : List Deferred} (hd : a.defers = d :: ds) :
    ∃ i b, β[i]? = some (.blk b) ∧ L[i]? = some .mark ∧ d = { target := .collected b, args := #[] } ∧ W.heap[b]? = some (.deferred (some [])) ∧
      Conc G N T (L.set i (.obj (.deferred none))) β M { a with defers := ds } (W.putObj b (.deferred none)) ∧ Step K β M L W β M (L.set i (.obj (.deferred none))) (W.putObj b (.deferred none)) := by
  have hm : marks β L = ds.reverse ++ [d] := by
    have := h.dfr; rw [hd] at this
    have e := congrArg List.reverse this
    simpa using e.symm
  obtain ⟨i, b, h1, h2, h3, h4⟩ := marks_snoc β L _ _ hm
  have hB := h.sat.ok i _ _ h1 h2
  have hi : i < L.length := (List.getElem?_eq_some_iff.1 h2).1
  obtain ⟨c1, c2⟩ := h.exch (K := K) (k' := .obj (.deferred (some []))) (ds := ds) h2 (fun g => by cases g with
    | blk b => rfl
    | slc a n c => cases a <;> rfl) (fun g hg => by cases g with
    | blk b => exact hg
    | slc a n c => exact hg.elim) (by rw [h4]; simp)
  obtain ⟨m1, m2⟩ := c1.modify (K := K) (k := .obj (.deferred (some []))) (k' := .obj (.deferred none)) (b := b) (.deferred none) h1 (List.getElem?_set_self hi) rfl rfl rfl (fun b' hb' => by simpa [own] using hb'.symm)
    ⟨hB.1, World.putObj_heap_same (Array.getElem?_eq_some_iff.1 hB.2).1⟩
  rw [List.set_set] at m1 m2
  exact ⟨i, b, h1, h2, h3, hB.2, m1, c2.trans m2⟩

/-- what is asked where a function with marks ends -/
def retQM (P : Program) (K : Nat) (rs : List ResultVar) (Q : SV → List Blk → Prop) : QT
  | .normal, T, L | .ret, T, L => ∃ m ss, K ≤ m ∧ noMarks (L.take m) = true ∧ resS P L T rs = some ss ∧ (pack ss).lt m = true ∧ (L.take m).all (Blk.lt m) = true ∧ Q (pack ss) (L.take m)
  | _, _, _ => False

theorem rd_mark {L : List Blk} {ti : TI} {p : SV} {i : Nat} {o : Obj} (h : L[i]? = some .mark) : rd (L.set i (.obj o)) ti p = rd L ti p := by
  cases p with
  | loc j q =>
    simp only [rd]
    by_cases hj : j = i
    · subst hj; rw [List.getElem?_set_self (List.getElem?_eq_some_iff.1 h).1, h]
    · rw [List.getElem?_set_ne (Ne.symm hj)]
  | im x => cases x <;> rfl
  | _ => rfl

theorem resS_mark {P : Program} {L : List Blk} {T : Tm} {i : Nat} {o : Obj} (h : L[i]? = some .mark) : ∀ rs, resS P (L.set i (.obj o)) T rs = resS P L T rs
  | [] => rfl
  | .tmp t :: rs => by simp only [resS, resS_mark h rs]
  | .cell t ty :: rs => by simp only [resS, resS_mark h rs, rd_mark h]

theorem leavesM {P : Program} {G : Globs} {N m : Nat} {K : Kf} {fn : Func} {rs : List ResultVar} {ss : List SV} {tmps : Array Value} {R' : Ending → World → Prop} {β₀ : List Gh} {M₀ : Nat → Prop} {L₀ : List Blk} {W₀ : World} {Lm : List Blk} (hrs : fn.results.toList = rs)
    (fin : ∀ β M L a W, a.tmps = tmps → Conc G N T L β M a W → Step K β₀ M₀ L₀ W₀ β M L W → resS P L T rs = some ss → L.take m = Lm → ∃ v, (results fn tmps).run P W = .ok v W ∧ R' (.returned v) W) :
    ∀ (ds : List Deferred) (β : List Gh) (M : Nat → Prop) (L : List Blk) (a : Act) (W : World), a.tmps = tmps → a.defers = ds → Conc G N T L β M a W → Step K β₀ M₀ L₀ W₀ β M L W → resS P L T rs = some ss → L.take m = Lm → noMarks Lm = true →
      LeavesInM Fence.wide 0 P fn tmps R' ds .returning W
  | [], β, M, L, a, W, h0, hd, hc, hs, hr, hm, hn => by
    obtain ⟨v, h1, h2⟩ := fin β M L a W h0 hc hs hr hm
    exact ⟨v, h1, h2⟩
  | d :: ds, β, M, L, a, W, h0, hd, hc, hs, hr, hm, hn => by
    obtain ⟨i, b, h1, h2, rfl, h4, h5, h6⟩ := hc.unmark (K := K) hd
    have him : m ≤ i := by
      rcases Nat.lt_or_ge i m with h | h
      · have : Lm[i]? = some .mark := by rw [← hm, List.getElem?_take_of_lt h]; exact h2
        have := List.all_eq_true.1 hn _ (List.mem_of_getElem? this)
        simp [Blk.isMark] at this
      · exact h
    refine ⟨by simp, .inl ⟨b, _, rfl, run_takeDeferred h4, ?_⟩⟩
    exact leavesM hrs fin ds β M (L.set i (.obj (.deferred none))) { a with defers := ds } _ h0 rfl h5 (hs.trans h6) (by rw [resS_mark h2]; exact hr) (by rw [List.take_set_of_le him]; exact hm) hn

/-- a function's contract, out of its body; it may hold loops over functions -/
theorem ACallK.enter {P : Program} {G : Globs} {K : Nat} {f : FuncId} {fn : Func} {c : Code} {xs : List SV} {L : List Blk} {Q : SV → List Blk → Prop} {N : Nat} {rs : List ResultVar}
    (hf : P.funcs[f]? = some fn) (hb : fn.body = some c) (hN : fn.ntmps = N) (hrs : fn.results.toList = rs) (hx : xs.length ≤ N) (hm : noMarks L = true) (hKL : K ≤ L.length)
    (h : AWp ⟨P, none, G, ⟨K, L.length⟩, N⟩ c (retQM P L.length rs Q) (argsT xs) L) : ACallK P G K f xs L Q := by
  intro β M W vs hs hn hv
  have nomarks : ∀ {L : List Blk}, noMarks L = true → ∀ k, k ∈ L → k.isMark = false := fun hm k hk => by
    have := List.all_eq_true.1 hm k hk; simpa using this
  refine callsIn_of_wp_marks hf hb trivial ?_
  have hc : Conc G N (argsT xs) L β M { tmps := vs ++ Array.replicate (fn.ntmps - vs.size) undef, defers := [] } W := by
    refine ⟨?_, fun k x hk => ?_, hs, ?_⟩
    · simp; omega
    · have hk' := get_argsT hk
      obtain ⟨u, hu, hr⟩ := hv k x hk'
      have hlt : k < vs.size := (Array.getElem?_eq_some_iff.1 hu).1
      exact ⟨u, by rw [Array.getElem?_append_left hlt]; exact hu, hr⟩
    · rw [marks_none β L (nomarks hm)]; rfl
  refine wpIn_mono (h β M L W β M _ W hc (Step.refl ..)) ?_
  rintro e a' W' ⟨β', M', T', L', q, hc', hs'⟩
  have fin : retQM P L.length rs Q .ret T' L' → LeavesInM Fence.wide 0 P fn a'.tmps (fun e W' => ∃ v r L' β' M', e = .returned v ∧ Q r L' ∧ noMarks L' = true ∧ Sat G β' M' L' W' ∧ R β' M' W' r v ∧ Step ⟨K, L.length⟩ β M L W β' M' L' W') a'.defers .returning W' := by
    rintro ⟨m, ss, hKm, hnm, hss, hlt, hblt, hq⟩
    refine leavesM (G := G) (N := N) (K := ⟨K, L.length⟩) (m := m) (T := T') (β₀ := β) (M₀ := M) (L₀ := L) (W₀ := W) (Lm := L'.take m) hrs ?_ _ β' M' L' a' W' rfl rfl hc' hs' hss rfl hnm
    rintro β'' M'' L'' a'' W'' hat hc'' hs'' hss'' hLm
    rw [← hat]
    subst hrs
    obtain ⟨v, hv, hr⟩ := results_run (C := ⟨P, none, G, ⟨K, L.length⟩, N⟩) hc'' (fn := fn) hss''
    refine ⟨v, hv, v, pack ss, L''.take m, β''.take m, M'', rfl, by rw [hLm]; exact hq, by rw [hLm]; exact hnm, hc''.sat.take m (by rw [hLm]; exact hblt), hr.take hlt, ?_⟩
    exact ⟨fun i g hi hg => by rw [List.getElem?_take_of_lt (by have : i < K := hi; omega)]; exact hs''.pre i g hi hg, fun i g hi hg => by
        rw [List.getElem?_take_of_lt (by have : i < L.length := hi; omega)]; exact hs''.kin i g hi hg, hs''.os, hs''.tape, hs''.output, hs''.size, hs''.heap, hs''.muts,
      fun b hb ⟨i, g, k, hg, hk, ho⟩ => hs''.sub b hb ⟨i, g, k, (take_get hg).2, (take_get hk).2, ho⟩⟩
  cases e with
  | normal => exact fin q
  | ret => exact fin q
  | exit id => exact q.elim
  | goto l => exact q.elim
  | panic ch => exact q.elim
  | outgrown => exact q.elim

/-! ### The blocks behind the first n, while these are in another's hands -/
mutual
/-- names no slice among the first n blocks -/
def SV.bo (n : Nat) : SV → Bool
  | .app j => decide (n ≤ j)
  | .sub j _ _ _ _ => decide (n ≤ j)
  | .ap j _ => decide (n ≤ j)
  | .agg cs => boL n cs
  | .tup cs => boL n cs
  | _ => true
def boL (n : Nat) : List SV → Bool
  | [] => true
  | x :: xs => x.bo n && boL n xs
end
theorem boL_mem {n : Nat} : ∀ {xs : List SV}, boL n xs = true → ∀ x, x ∈ xs → x.bo n = true
  | [], _, x, h => by simp at h
  | y :: ys, h, x, hx => by
    simp only [boL, Bool.and_eq_true] at h
    rcases List.mem_cons.1 hx with rfl | hx
    · exact h.1
    · exact boL_mem h.2 x hx
def Blk.bo (n : Nat) : Blk → Bool
  | .vars cs _ => boL n cs
  | .lp T _ => allT (SV.bo n) T
  | _ => true
def boT (n : Nat) (T : Tm) : Bool := T.all fun p => p.2.bo n
theorem boT_get {n : Nat} : ∀ {T : Tm} {k : Nat} {x : SV}, boT n T = true → get T k = some x → x.bo n = true
  | [], k, x, _, h => by simp [get] at h
  | (k', y) :: T, k, x, hb, h => by
    simp only [boT, List.all_cons, Bool.and_eq_true] at hb
    simp only [get] at h
    split at h
    · cases h; exact hb.1
    · exact boT_get hb.2 h

theorem R.behindP {β β' : List Gh} {M M' : Nat → Prop} {W W' : World} {n : Nat} (hn : β'.length = n) (hk : ∀ (j b : Nat), j < n → β[j]? = some (.blk b) → β'[j]? = some (.blk b))
    (hs : W.heap.size ≤ W'.heap.size) (still : ∀ b, b < W.heap.size → ¬ M b → W'.heap[b]? = W.heap[b]? ∧ ¬ M' b) {x : SV} {u : Value} (r : R β M W x u) (hx : x.bo n = true) : R (β' ++ β.drop n) M' W' x u := by
  have far : ∀ (j : Nat) (g : Gh), n ≤ j → β[j]? = some g → (β' ++ β.drop n)[j]? = some g := by
    intro j g h1 h2
    rw [List.getElem?_append_right (by omega), List.getElem?_drop, hn, Nat.add_sub_cancel' h1]; exact h2
  have blk : ∀ (j b : Nat), β[j]? = some (.blk b) → (β' ++ β.drop n)[j]? = some (.blk b) := by
    intro j b h
    rcases Nat.lt_or_ge j n with h1 | h1
    · rw [List.getElem?_append_left (by omega)]; exact hk j b h1 h
    · exact far j _ h1 h
  induction r with
  | im h => exact .im (h.ext hs still)
  | loc o h => exact .loc o (blk _ _ h)
  | app h => simp only [SV.bo, decide_eq_true_eq] at hx; exact .app (far _ _ hx h)
  | sub s lo hi m cp h hcp => simp only [SV.bo, decide_eq_true_eq] at hx; exact .sub s lo hi m cp (far _ _ hx h) hcp
  | ap k h => simp only [SV.bo, decide_eq_true_eq] at hx; exact .ap k (far _ _ hx h)
  | agg hsz val hv hr ih => simp only [SV.bo] at hx; exact .agg hsz val hv fun j c hj => ih j c hj (boL_mem hx c (List.mem_of_getElem? hj))
  | tup hsz val hv hr ih => simp only [SV.bo] at hx; exact .tup hsz val hv fun j c hj => ih j c hj (boL_mem hx c (List.mem_of_getElem? hj))
  | yl h => exact .yl (blk _ _ h)
  | any u => exact .any u

theorem Conc.behindP {G : Globs} {N n : Nat} {K : Kf} {Lp Lx : List Blk} {β β' : List Gh} {M M' : Nat → Prop} {a : Act} {W W' : World} {Lp' : List Blk} (h : Conc G N T (Lp ++ Lx) β M a W) (hLp : Lp.length = n) (hT : boT n T = true) (hLx : Lx.all (Blk.bo n) = true)
    (hs : Sat G β' M' Lp' W') (st : Step ⟨K.k, n⟩ (β.take n) M Lp W β' M' Lp' W') (hsat : Sat G (β.take n) M Lp W) (hl : Lp'.length = n) (hm : noMarks Lp = true) (hm' : noMarks Lp' = true) (hK : K.k ≤ n) :
    Conc G N T (Lp' ++ Lx) (β' ++ β.drop n) M' a W' ∧ Step K β M (Lp ++ Lx) W (β' ++ β.drop n) M' (Lp' ++ Lx) W' ∧ ∀ {x : SV} {u : Value}, R β' M' W' x u → R (β' ++ β.drop n) M' W' x u := by
  have nm : ∀ {L : List Blk}, noMarks L = true → ∀ k, k ∈ L → k.isMark = false := fun hm k hk => by
    have := List.all_eq_true.1 hm k hk; simpa using this
  have hlen := h.sat.len
  have hβ' : β'.length = n := by rw [hs.len, hl]
  have hnβ : n ≤ β.length := by rw [hlen]; simp; omega
  have still := st.still hsat
  have hkin : ∀ (j b : Nat), j < n → β[j]? = some (.blk b) → β'[j]? = some (.blk b) := by
    intro j b hj hg
    obtain ⟨g', h1, h2⟩ := st.kin j (.blk b) hj (by rw [List.getElem?_take_of_lt hj]; exact hg)
    simp only [Gh.kin] at h2; subst h2; exact h1
  have hβ : ∀ (i : Nat) (g : Gh), β'[i]? = some g → (β' ++ β.drop n)[i]? = some g := fun i g hg => by rw [List.getElem?_append_left (List.getElem?_eq_some_iff.1 hg).1]; exact hg
  have split : ∀ (i : Nat) (g : Gh) (k : Blk), (β' ++ β.drop n)[i]? = some g → (Lp' ++ Lx)[i]? = some k →
      (i < n ∧ β'[i]? = some g ∧ Lp'[i]? = some k) ∨ (n ≤ i ∧ β[i]? = some g ∧ (Lp ++ Lx)[i]? = some k ∧ k ∈ Lx) := by
    intro i g k hg hk
    rcases Nat.lt_or_ge i n with hi | hi
    · rw [List.getElem?_append_left (by omega)] at hg hk; exact .inl ⟨hi, hg, hk⟩
    · rw [List.getElem?_append_right (by omega), List.getElem?_drop, hβ', Nat.add_sub_cancel' hi] at hg
      rw [List.getElem?_append_right (by omega), hl] at hk
      exact .inr ⟨hi, hg, by rw [List.getElem?_append_right (by omega), hLp]; exact hk, List.mem_of_getElem? hk⟩
  have farOwn : ∀ (i : Nat) (g : Gh) (k : Blk) (c : Nat), n ≤ i → β[i]? = some g → (Lp ++ Lx)[i]? = some k → own g k = some c → c < W.heap.size ∧ ¬ Owned (β.take n) Lp c := by
    intro i g k c hi hg hk ho
    refine ⟨(h.sat.owned ⟨i, g, k, hg, hk, ho⟩).2, ?_⟩
    rintro ⟨j, gj, kj, h1, h2, h3⟩
    obtain ⟨hj, h1'⟩ := take_get h1
    have := h.sat.dis i j g gj k kj c hg hk h1' (by rw [List.getElem?_append_left (by omega)]; exact h2) ho h3
    omega
  refine ⟨⟨h.size, fun k x hx => ?_, ⟨by simp [hβ', hl, hlen, hLp], ?_, ?_, hs.glob⟩, ?_⟩, ?_, fun r => r.ext hβ (Nat.le_refl _) fun _ _ h => ⟨rfl, h⟩⟩
  · obtain ⟨u, hu, hr⟩ := h.tm k x hx
    exact ⟨u, hu, hr.behindP hβ' hkin st.size still (boT_get hT hx)⟩
  · intro i g k hg hk
    rcases split i g k hg hk with ⟨hi, h1, h2⟩ | ⟨hi, h1, h2, h3⟩
    · exact (hs.ok i g k h1 h2).keep hβ (Nat.le_refl _) (fun _ _ h => ⟨rfl, h⟩) fun b hb => ⟨rfl, (hs.owned ⟨i, g, k, h1, h2, hb⟩).1⟩
    · have hb := h.sat.ok i g k h1 h2
      have hown : ∀ b, own g k = some b → W'.heap[b]? = W.heap[b]? ∧ M' b := fun b hb' => by
        have := farOwn i g k b hi h1 h2 hb'
        exact ⟨st.heap b this.1 this.2, (st.muts b this.1 this.2).2 (h.sat.owned ⟨i, g, k, h1, h2, hb'⟩).1⟩
      have hbo := List.all_eq_true.1 hLx k h3
      cases k with
      | vars cs t =>
        cases g with
        | slc a n c => exact hb.elim
        | blk b =>
          obtain ⟨hM, arr, hh, hsz, hc⟩ := hb
          have := hown b rfl
          refine ⟨this.2, arr, this.1.trans hh, hsz, fun q c hq => ?_⟩
          obtain ⟨u, hu, hr⟩ := hc q c hq
          simp only [Blk.bo] at hbo
          exact ⟨u, hu, hr.behindP hβ' hkin st.size still (boL_mem hbo c (List.mem_of_getElem? hq))⟩
      | app s es t =>
        have hk2 := BS.keep (k := .app s es t) (β := β) (β' := β) (fun i g h => h) st.size still hown hb
        cases g with
        | blk b => exact hk2.elim
        | slc a n c => exact hk2
      | obj o =>
        cases g with
        | blk b => exact ⟨(hown b rfl).2, (hown b rfl).1.trans hb.2⟩
        | slc a n c => exact hb.elim
      | mark =>
        cases g with
        | blk b => exact ⟨(hown b rfl).2, (hown b rfl).1.trans hb.2⟩
        | slc a n c => exact hb.elim
      | lp T d =>
        cases g with
        | slc a n c => exact hb.elim
        | blk b =>
          obtain ⟨hM, r, hh, hd, hc⟩ := hb
          have := hown b rfl
          refine ⟨this.2, r, this.1.trans hh, hd, fun q c hq => ?_⟩
          obtain ⟨u, hu, hr⟩ := hc q c hq
          simp only [Blk.bo] at hbo
          exact ⟨u, hu, hr.behindP hβ' hkin st.size still (allT_get hbo hq)⟩
      | dead => cases g <;> trivial
  · intro i j gi gj ki kj b hgi hki hgj hkj hoi hoj
    rcases split i gi ki hgi hki with ⟨hi, a1, a2⟩ | ⟨hi, a1, a2, a3⟩ <;> rcases split j gj kj hgj hkj with ⟨hj, b1, b2⟩ | ⟨hj, b1, b2, b3⟩
    · exact hs.dis i j gi gj ki kj b a1 a2 b1 b2 hoi hoj
    · have := farOwn j gj kj b hj b1 b2 hoj
      exact absurd (st.sub b this.1 ⟨i, gi, ki, a1, a2, hoi⟩) this.2
    · have := farOwn i gi ki b hi a1 a2 hoi
      exact absurd (st.sub b this.1 ⟨j, gj, kj, b1, b2, hoj⟩) this.2
    · exact h.sat.dis i j gi gj ki kj b a1 a2 b1 b2 hoi hoj
  · rw [h.dfr]
    have e : β = β.take n ++ β.drop n := (List.take_append_drop n β).symm
    have e1 : marks β (Lp ++ Lx) = marks (β.drop n) Lx := by
      have : marks (β.take n ++ β.drop n) (Lp ++ Lx) = marks (β.drop n) Lx := by
        rw [marks_append _ _ _ _ (by simp; omega), marks_none _ _ (nm hm)]; rfl
      rw [← e] at this; exact this
    rw [e1, marks_append _ _ _ _ (by omega), marks_none _ _ (nm hm')]; rfl
  · refine ⟨fun i g hi hg => ?_, fun i g hf hg => ?_, st.os, st.tape, st.output, st.size, fun b hb ho => ?_, fun b hb ho => ?_, ?_⟩
    · rw [List.getElem?_append_left (by omega)]; exact st.pre i g hi (by rw [List.getElem?_take_of_lt (by omega)]; exact hg)
    · rcases Nat.lt_or_ge i n with hi | hi
      · rw [List.getElem?_append_left (by omega)]; exact st.kin i g hi (by rw [List.getElem?_take_of_lt hi]; exact hg)
      · exact ⟨g, by rw [List.getElem?_append_right (by omega), List.getElem?_drop, hβ', Nat.add_sub_cancel' hi]; exact hg, g.kin_refl⟩
    · exact st.heap b hb fun ⟨i, g, k, h1, h2, h3⟩ => ho ⟨i, g, k, (take_get h1).2, by rw [List.getElem?_append_left (List.getElem?_eq_some_iff.1 h2).1]; exact h2, h3⟩
    · exact st.muts b hb fun ⟨i, g, k, h1, h2, h3⟩ => ho ⟨i, g, k, (take_get h1).2, by rw [List.getElem?_append_left (List.getElem?_eq_some_iff.1 h2).1]; exact h2, h3⟩
    · rintro b hb ⟨i, g, k, h1, h2, h3⟩
      rcases split i g k h1 h2 with ⟨hi, a1, a2⟩ | ⟨hi, a1, a2, a3⟩
      · obtain ⟨j, gj, kj, b1, b2, b3⟩ := st.sub b hb ⟨i, g, k, a1, a2, h3⟩
        exact ⟨j, gj, kj, (take_get b1).2, by rw [List.getElem?_append_left (List.getElem?_eq_some_iff.1 b2).1]; exact b2, b3⟩
      · exact ⟨i, g, k, a1, a2, h3⟩

/-- the call of 'yield': the loop's side is told of the first n blocks alone -/
theorem OpTo.yield {o : Oper} {fv : Operand} {args : Array Operand} {ts : Array TypeId} {i n : Nat} {Lp Lx : List Blk} {xs : List SV} {Qc : SV → List Blk → Prop}
    (ho : o.op = .call ⟨.value fv, args, ts⟩) (hd : dstOk C.N o.dst = true) (hfv : aev C.G T fv = some (.yl i)) (hxs : aevs C.G T args.toList = some xs) (hL : L = Lp ++ Lx) (hn : Lp.length = n) (hi : i < n)
    (hxl : ltL n xs = true) (hT : boT n T = true) (hLx : Lx.all (Blk.bo n) = true) (hLp : Lp.all (Blk.lt n) = true) (hm : noMarks Lp = true) (hK : C.K.k ≤ n) (hc : YC C.P C.G C.K.k i xs Lp Qc) :
    OpTo C o T L (fun T' L' => ∃ r Lp', Qc r Lp' ∧ Lp'.length = n ∧ T' = put T o.dst r ∧ L' = Lp' ++ Lx) := by
  subst hL
  intro β M a W hcc next Qx hk
  obtain ⟨b, hg, hu⟩ : ∃ b, β[i]? = some (.blk b) ∧ a.eval fv = .func (.yield b) #[] #[] := by
    have := hcc.ev hfv
    generalize a.eval fv = u at this
    cases this with
    | yl hg => exact ⟨_, hg, rfl⟩
  obtain ⟨hl, hms⟩ := mapR hcc hxs
  rw [Oper.semAt_eq _ _ _ (fun c => by rw [ho]; exact fun e => by cases e)]
  have hsat : Sat C.G (β.take n) M Lp W := by
    have := hcc.sat.take n (by rw [List.take_append_of_le_length (by omega), ← hn, List.take_length]; rw [hn]; exact hLp)
    rwa [List.take_append_of_le_length (by omega), ← hn, List.take_length, hn] at this
  obtain ⟨fn, tmps, assign, body, hy, hr⟩ := hc (β.take n) M W (args.map a.eval) b hsat (by rw [List.getElem?_take_of_lt hi]; exact hg) (by simp at hl; simp [hl]) (fun j x hj => by
    obtain ⟨v, hv, hvr⟩ := hms j x hj
    exact ⟨v, by rw [← Array.getElem?_toList, Array.toList_map]; exact hv, hvr.take (ltL_mem hxl x (List.mem_of_getElem? hj))⟩)
  have hex : (execOp a.eval o).run C.P W = .ok (.round b fn tmps assign body) W := by
    simp [execOp, ho, resolve, hu, Deferred.ofValue, invoke, hy]
  rw [hex, Oper.uponIn_round]
  refine ⟨fun h => by simp [FW, Fence.wide] at h, ?_⟩
  refine RoundIn.mono (F := FW C.ro) (n := 0) hr ?_
  rintro e W' ⟨v, r, Lp', β', M', rfl, hq, hmk, hlen, hsat', hrr, hst⟩
  obtain ⟨h1, h2, h3⟩ := hcc.behindP hn hT hLx hsat' (by have e := hst; simp only [hn] at e; exact e) hsat (by rw [hlen, hn]) hm hmk hK
  exact hk _ _ _ _ _ _ ⟨r, Lp', hq, by rw [hlen, hn], rfl, rfl⟩ (h1.put (dstOk_spec hd) (h3 hrr)) h2
end
end Av
end
