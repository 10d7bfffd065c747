/- Part 5 of 22 of a proof: own engine, contracts and facts. -/
import Derived.Laws.Append
import Derived.Test.YtibcgaffjaekfaaGreatDoorPAD
set_option linter.all false
section
/- The engine, part 15: slices that one owns: they grow, and they are given away. -/
set_option linter.unusedSimpArgs false
namespace Av
open Go
section
variable {C : Cx} {Q : QT} {T : Tm} {L : List Blk}

/-- the i-th block is told of no more; another one takes its place at the end -/
theorem Conc.move {G : Globs} {N : Nat} {K : Kf} {β : List Gh} {M : Nat → Prop} {a : Act} {W W' : World} (h : Conc G N T L β M a W) {i : Nat} {g : Gh} {k : Blk}
    (hg : β[i]? = some g) (hL : L[i]? = some k) (hk : k.isMark = false) (g' : Gh) (k' : Blk) (hk' : k'.isMark = false) (hos : W'.os = W.os) (htape : W'.tape = W.tape) (hout : W'.output = W.output)
    (hsize : W'.heap.size = W.heap.size) (hheap : ∀ c, own g k ≠ some c → W'.heap[c]? = W.heap[c]?) (ho' : ∀ b, own g' k' = some b → own g k = some b) (hB : BS (β ++ [g']) M W' g' k') :
    Conc G N T (L.set i .dead ++ [k']) (β ++ [g']) M a W' ∧ Step K β M L W (β ++ [g']) M (L.set i .dead ++ [k']) W' := by
  have hi : i < L.length := (List.getElem?_eq_some_iff.1 hL).1
  have hlen := h.sat.len
  have hown : ∀ c, own g k = some c → M c ∧ c < W.heap.size := fun c hc => h.sat.owned ⟨i, g, k, hg, hL, hc⟩
  have still : ∀ c, c < W.heap.size → ¬ M c → W'.heap[c]? = W.heap[c]? ∧ ¬ M c := fun c _ hM => ⟨hheap c fun e => hM (hown c e).1, hM⟩
  have hcase : ∀ (j : Nat) (gj : Gh) (kj : Blk), (β ++ [g'])[j]? = some gj → (L.set i .dead ++ [k'])[j]? = some kj →
      (j = i ∧ kj = .dead) ∨ (j ≠ i ∧ β[j]? = some gj ∧ L[j]? = some kj) ∨ (j = L.length ∧ gj = g' ∧ kj = k') := by
    intro j gj kj h1 h2
    rcases getElem?_snoc_some h1 with ⟨a1, a2⟩ | ⟨a1, a2⟩ <;> rcases getElem?_snoc_some h2 with ⟨b1, b2⟩ | ⟨b1, b2⟩
    · by_cases hji : j = i
      · subst hji; rw [List.getElem?_set_self hi] at b2; simp at b2; exact .inl ⟨rfl, b2.symm⟩
      · rw [List.getElem?_set_ne (Ne.symm hji)] at b2; exact .inr (.inl ⟨hji, a2, b2⟩)
    · simp at b1; omega
    · simp at b1; omega
    · exact .inr (.inr ⟨by omega, a2, b2⟩)
  have dead_own : ∀ (g : Gh), own g .dead = none := by intro g; cases g with
    | blk b => rfl
    | slc a n c => cases a <;> rfl
  refine ⟨⟨h.size, fun n x hx => ?_, ⟨by simp [hlen], ?_, ?_, ?_⟩, ?_⟩, ?_⟩
  · obtain ⟨u, hu, hr⟩ := h.tm n x hx
    exact ⟨u, hu, hr.ext β_snoc (by omega) still⟩
  · intro j gj kj h1 h2
    rcases hcase j gj kj h1 h2 with ⟨rfl, rfl⟩ | ⟨hne, a1, a2⟩ | ⟨rfl, rfl, rfl⟩
    · cases gj <;> trivial
    · refine (h.sat.ok j gj kj a1 a2).keep β_snoc (by omega) still fun c hc => ⟨hheap c fun e => hne (h.sat.dis j i gj g kj k c a1 a2 hg hL hc e), (h.sat.owned ⟨j, gj, kj, a1, a2, hc⟩).1⟩
    · exact hB
  · intro j l gj gl kj kl c h1 h2 h3 h4 h5 h6
    rcases hcase j gj kj h1 h2 with ⟨rfl, rfl⟩ | ⟨hne, a1, a2⟩ | ⟨rfl, rfl, rfl⟩
    · rw [dead_own] at h5; cases h5
    · rcases hcase l gl kl h3 h4 with ⟨rfl, rfl⟩ | ⟨hne', b1, b2⟩ | ⟨rfl, rfl, rfl⟩
      · rw [dead_own] at h6; cases h6
      · exact h.sat.dis j l gj gl kj kl c a1 a2 b1 b2 h5 h6
      · exact absurd (h.sat.dis j i gj g kj k c a1 a2 hg hL h5 (ho' c h6)) hne
    · rcases hcase l gl kl h3 h4 with ⟨rfl, rfl⟩ | ⟨hne', b1, b2⟩ | ⟨rfl, rfl, rfl⟩
      · rw [dead_own] at h6; cases h6
      · exact absurd (h.sat.dis l i gl g kl k c b1 b2 hg hL h6 (ho' c h5)) hne'
      · rfl
  · intro g' cs hg'
    exact (h.sat.glob g' cs hg').ext (by omega) still
  · rw [h.dfr, marks_append _ _ _ _ (by simp [hlen]), marks_none [g'] [k'] (fun k'' hk'' => by simp at hk''; subst hk''; exact hk')]
    have hβ : β.set i g = β := by
      apply List.ext_getElem?
      intro j
      by_cases hj : j = i
      · subst hj; rw [List.getElem?_set_self (by rw [hlen]; exact hi), hg]
      · rw [List.getElem?_set_ne (Ne.symm hj)]
    have := marks_set β L i g k .dead hL hk rfl
    rw [hβ] at this
    rw [this]; simp
  · refine ⟨fun j gj _ hj => β_snoc j gj hj, fun j g _ hj => ⟨g, β_snoc j g hj, g.kin_refl⟩, hos, htape, hout, by omega, fun c hc ho => hheap c fun e => ho ⟨i, g, k, hg, hL, e⟩, fun _ _ _ => Iff.rfl, ?_⟩
    rintro c hc ⟨j, gj, kj, h1, h2, h3⟩
    rcases hcase j gj kj h1 h2 with ⟨rfl, rfl⟩ | ⟨hne, a1, a2⟩ | ⟨rfl, rfl, rfl⟩
    · rw [dead_own] at h3; cases h3
    · exact ⟨j, gj, kj, a1, a2, h3⟩
    · exact ⟨i, g, k, hg, hL, ho' c h3⟩

/-- what is asked of the tape changes nothing here -/
theorem Conc.drew {G : Globs} {N : Nat} {K : Kf} {β : List Gh} {M : Nat → Prop} {a : Act} {W : World} (h : Conc G N T L β M a W) :
    Conc G N T L β M a W.drew ∧ Step K β M L W β M L W.drew := by
  have still : ∀ b, b < W.heap.size → ¬ M b → W.drew.heap[b]? = W.heap[b]? ∧ ¬ M b := fun b _ hM => ⟨rfl, hM⟩
  refine ⟨⟨h.size, fun n x hx => ?_, ⟨h.sat.len, fun i g k hg hk => ?_, h.sat.dis, fun g cs hg => (h.sat.glob g cs hg).ext (W := W) (W' := W.drew) (Nat.le_refl _) still⟩, h.dfr⟩,
    ⟨fun _ _ _ h => h, fun _ g _ h => ⟨g, h, g.kin_refl⟩, rfl, rfl, rfl, Nat.le_refl _, fun _ _ _ => rfl, fun _ _ _ => Iff.rfl, fun _ _ h => h⟩⟩
  · obtain ⟨u, hu, hr⟩ := h.tm n x hx
    exact ⟨u, hu, hr.ext (W := W) (W' := W.drew) (fun _ _ h => h) (Nat.le_refl _) still⟩
  · exact (h.sat.ok i g k hg hk).keep (W := W) (W' := W.drew) (fun _ _ h => h) (Nat.le_refl _) still fun b hb => ⟨rfl, (h.sat.owned ⟨i, g, k, hg, hk, hb⟩).1⟩

/-- a block is told of no more -/
theorem Conc.kill {G : Globs} {N : Nat} {K : Kf} {β : List Gh} {M : Nat → Prop} {a : Act} {W : World} (h : Conc G N T L β M a W) (i : Nat) (hm : ∀ k, L[i]? = some k → k.isMark = false) :
    Conc G N T (L.set i .dead) β M a W ∧ Step K β M L W β M (L.set i .dead) W := by
  have dead_own : ∀ (g : Gh), own g .dead = none := by intro g; cases g with
    | blk b => rfl
    | slc a n c => cases a <;> rfl
  have hcase : ∀ (j : Nat) (kj : Blk), (L.set i .dead)[j]? = some kj → (j = i ∧ kj = .dead) ∨ (j ≠ i ∧ L[j]? = some kj) := by
    intro j kj h2
    by_cases hji : j = i
    · subst hji
      have hi : j < L.length := by simpa using (List.getElem?_eq_some_iff.1 h2).1
      rw [List.getElem?_set_self hi] at h2; simp at h2; exact .inl ⟨rfl, h2.symm⟩
    · rw [List.getElem?_set_ne (Ne.symm hji)] at h2; exact .inr ⟨hji, h2⟩
  refine ⟨⟨h.size, h.tm, ⟨by simp [h.sat.len], ?_, ?_, h.sat.glob⟩, ?_⟩, ⟨fun _ _ _ h => h, fun _ g _ h => ⟨g, h, g.kin_refl⟩, rfl, rfl, rfl, Nat.le_refl _, fun _ _ _ => rfl, fun _ _ _ => Iff.rfl, ?_⟩⟩
  · intro j gj kj h1 h2
    rcases hcase j kj h2 with ⟨rfl, rfl⟩ | ⟨hne, a2⟩
    · cases gj <;> trivial
    · exact h.sat.ok j gj kj h1 a2
  · intro j l gj gl kj kl c h1 h2 h3 h4 h5 h6
    rcases hcase j kj h2 with ⟨rfl, rfl⟩ | ⟨hne, a2⟩
    · rw [dead_own] at h5; cases h5
    · rcases hcase l kl h4 with ⟨rfl, rfl⟩ | ⟨hne', b2⟩
      · rw [dead_own] at h6; cases h6
      · exact h.sat.dis j l gj gl kj kl c h1 a2 h3 b2 h5 h6
  · rw [h.dfr]
    rcases hk : L[i]? with _ | k
    · rw [List.set_eq_of_length_le (by rw [← Nat.not_lt]; intro hlt; rw [List.getElem?_eq_getElem hlt] at hk; cases hk)]
    · have hi : i < L.length := (List.getElem?_eq_some_iff.1 hk).1
      obtain ⟨g, hg⟩ : ∃ g, β[i]? = some g := ⟨β[i]'(by rw [h.sat.len]; exact hi), List.getElem?_eq_getElem _⟩
      have hβ : β.set i g = β := by
        apply List.ext_getElem?
        intro j
        by_cases hj : j = i
        · subst hj; rw [List.getElem?_set_self (by rw [h.sat.len]; exact hi), hg]
        · rw [List.getElem?_set_ne (Ne.symm hj)]
      have := marks_set β L i g k .dead hk (hm k hk) rfl
      rw [hβ] at this; rw [this]
  · rintro c hc ⟨j, gj, kj, h1, h2, h3⟩
    rcases hcase j kj h2 with ⟨rfl, rfl⟩ | ⟨hne, a2⟩
    · rw [dead_own] at h3; cases h3
    · exact ⟨j, gj, kj, h1, a2, h3⟩

theorem flat_get {α : Type} {s : Nat} : ∀ {es : List (List α)}, (∀ e, e ∈ es → e.length = s) → es.flatten.length = es.length * s ∧
    ∀ (i : Nat) (e : List α) (j : Nat) (c : α), es[i]? = some e → e[j]? = some c → es.flatten[i * s + j]? = some c
  | [], _ => ⟨by simp, fun i e j c h => by simp at h⟩
  | x :: es, hl => by
    have hx := hl x List.mem_cons_self
    obtain ⟨ih1, ih2⟩ := flat_get (es := es) fun e he => hl e (List.mem_cons_of_mem _ he)
    refine ⟨by simp [ih1, hx, Nat.succ_mul]; omega, fun i e j c h1 h2 => ?_⟩
    cases i with
    | zero =>
      simp at h1; subst h1
      have hj : j < x.length := (List.getElem?_eq_some_iff.1 h2).1
      simp only [List.flatten_cons, Nat.zero_mul, Nat.zero_add]
      rw [List.getElem?_append_left hj]; exact h2
    | succ i =>
      simp at h1
      simp only [List.flatten_cons]
      rw [List.getElem?_append_right (by rw [hx, Nat.succ_mul]; omega), hx]
      have : (i + 1) * s + j - s = i * s + j := by rw [Nat.succ_mul]; omega
      rw [this]; exact ih2 i e j c h1 h2

/-- 'append' to a slice of one's own -/
theorem OpTo.appendA {o : Oper} {t e : TypeId} {ti te : TI} {z : List Value} {x y : Operand} {i : Nat} {es ys : List (List IV)} (ho : o.op = .call ⟨.builtin .append, #[x, y], #[t, t]⟩) (hd : dstOk C.N o.dst = true)
    (hti : tinfo C.P t = some ti) (hk : ti.kind = .slice e) (hte : tinfo C.P e = some te) (hz : te.zero = some z) (hzl : z.length = te.size) (hb0 : te.bytes ≠ 0) (hb1 : te.bytes ≤ 512) (hx : aev C.G T x = some (.app i))
    (hL : L[i]? = some (.app te.size es e)) (hy : aev C.G T y = some (.im (.sl te.size ys))) (hbig : es.length + ys.length ≤ bigN) (hoc : ∀ r, r ∈ ys → ∀ c, c ∈ r → oc (.im c) = true) :
    OpTo C o T L (fun T' L' => T' = put T o.dst (.app L.length) ∧ L' = L.set i .dead ++ [.app te.size (es ++ ys) e]) := by
  intro β M a W hc next Qx hkk
  obtain ⟨d, h1, h2, h3, h4⟩ := run_underlying (W := W) hti
  have hd' : d = .slice e := by rw [hk] at h3; cases d <;> simp [kindOf] at h3; subst h3; rfl
  subst hd'
  have hlenβ := hc.sat.len
  have hx' : ∃ ad n cap, a.eval x = .slice ad n cap ∧ β[i]? = some (.slc ad n cap) := by
    have := hc.ev hx
    generalize a.eval x = u at this
    cases this with | app h => exact ⟨_, _, _, rfl, h⟩
  obtain ⟨ad, n, cap, hxe, hgi⟩ := hx'
  have hBS := hc.sat.ok i _ _ hgi hL
  obtain ⟨hn, hBS⟩ := hBS
  have hyr : RI M W (.sl te.size ys) (a.eval y) := by
    have := hc.ev hy
    cases this with | im h => exact h
  obtain ⟨val, hfc, hlen, hval⟩ := run_firstCells (P := C.P) hyr
  obtain ⟨ad', cap', hye⟩ := hyr.len
  have hsz := run_sizeOf (W := W) hte
  have hlenOf : (Builtin.lenOf (a.eval y)).run C.P W = .ok ys.length W := by rw [hye]; rfl
  rw [Oper.semAt_eq _ _ _ (fun c => by rw [ho]; exact fun e => by cases e)]
  have hone : ∀ v, v ∈ ((List.range (ys.length * te.size)).map val) → v.oneCell' = true := by
    intro v hv
    simp only [List.mem_map, List.mem_range] at hv
    obtain ⟨q, hq, rfl⟩ := hv
    have hs : 0 < te.size := Nat.pos_of_ne_zero fun h => by rw [h] at hq; omega
    have hi : q / te.size < ys.length := by rw [Nat.div_lt_iff_lt_mul hs]; exact hq
    have he : ys[q / te.size]? = some ys[q / te.size] := List.getElem?_eq_getElem hi
    have hj : q % te.size < ys[q / te.size].length := by rw [hlen _ (List.getElem_mem hi)]; exact Nat.mod_lt _ hs
    have hr := hval _ _ _ _ he (List.getElem?_eq_getElem hj)
    have ho' := hoc _ (List.getElem_mem hi) _ (List.getElem_mem hj)
    rw [Nat.mul_comm, Nat.div_add_mod] at hr
    exact oc_R (β := β) (.im hr) ho'
  have hrow : ∀ (m : Nat) (r : List IV) (j : Nat) (c : IV), ys[m]? = some r → r[j]? = some c → m * te.size + j < ys.length * te.size := by
    intro m r j c h1 h2
    have hm : m < ys.length := (List.getElem?_eq_some_iff.1 h1).1
    have hj : j < te.size := by rw [← hlen r (List.mem_of_getElem? h1)]; exact (List.getElem?_eq_some_iff.1 h2).1
    calc m * te.size + j < m * te.size + te.size := by omega
      _ = (m + 1) * te.size := by rw [Nat.succ_mul]
      _ ≤ ys.length * te.size := Nat.mul_le_mul_right _ hm
  have eqn : ∀ {W1 W2 : World}, W1 = W2 → RI M W1 = RI M W2 := fun h => by rw [h]
  by_cases hfit : es.length + ys.length ≤ cap
  · rcases hBS with ⟨hes, hcap⟩ | ⟨b, off, arr, rfl, hM, hh, hc0, hc1, hc2, hc3, hc4⟩
    · have hys : ys = [] := List.length_eq_zero_iff.1 (by omega)
      subst hys hes hcap
      simp only [List.length_nil] at hn
      subst hn
      have hrun : (execOp a.eval o).run C.P W = .ok (.value (.slice ad 0 0)) W := by
        simp only [execOp, ho, resolve, Sem.run_pure, Sem.run_bind, Result.andThen_ok, invoke, builtin, List.map_toArray, List.map_cons, List.map_nil, Builtin.append_, List.getElem?_toArray,
          List.getElem?_cons_zero, List.getElem?_cons_succ, h1, hxe, hsz, Bool.false_eq_true, if_false, hlenOf, List.length_nil, Nat.add_zero, Nat.zero_add, Nat.le_refl, if_true, hfc, Bool.not_false,
          Nat.zero_mul, List.range_zero]
        have hfc0 : (Builtin.firstCells te.size 0 (a.eval y)).run C.P W = .ok #[] W := by simpa using hfc
        cases ad <;> simp [storeCells, hfc0]
      rw [hrun, Oper.uponIn_value]
      have how : own (.slc ad 0 0) (.app te.size [] e) = none := by cases ad <;> simp [own]
      obtain ⟨c1, c2⟩ := hc.move (K := C.K) (W' := W) hgi hL rfl (.slc ad 0 0) (.app te.size [] e) rfl rfl rfl rfl rfl (fun _ _ => rfl) (fun b hb => by rw [how] at hb; cases hb) ⟨rfl, .inl ⟨rfl, rfl⟩⟩
      exact hkk _ _ _ _ _ _ ⟨rfl, rfl⟩ (c1.put (dstOk_spec hd) (.app (by rw [← hlenβ]; simp))) c2
    · subst hn
      have hsp : off + es.length * te.size + 0 + ((List.range (ys.length * te.size)).map val).length ≤ arr.size := by
        simp only [List.length_map, List.length_range]
        have : (es.length + ys.length) * te.size ≤ cap * te.size := Nat.mul_le_mul_right _ hfit
        rw [Nat.add_mul] at this; omega
      obtain ⟨arr', hst, harr'⟩ := run_storeCells_blk (P := C.P) (b := b) (t := e) ((List.range (ys.length * te.size)).map val) W arr (off + es.length * te.size) 0 hh hone hsp
      have hrun : (execOp a.eval o).run C.P W = .ok (.value (.slice (some ⟨b, off, none⟩) (es.length + ys.length) cap)) (W.putObj b (.cells arr' e (0, 0))) := by
        simp only [execOp, ho, resolve, Sem.run_pure, Sem.run_bind, Result.andThen_ok, invoke, builtin, List.map_toArray, List.map_cons, List.map_nil, Builtin.append_, List.getElem?_toArray,
          List.getElem?_cons_zero, List.getElem?_cons_succ, h1, hxe, hsz, Bool.false_eq_true, if_false, hlenOf, if_pos hfit, hfc, Bool.not_false, if_true, add_mk]
        simp [hst]
      rw [hrun, Oper.uponIn_value]
      have hsz' : arr'.size = arr.size := by rw [← Array.length_toList, harr', splice_length]; simp
      have hc0' : cap ≠ 0 := by omega
      have still : ∀ c, c < W.heap.size → ¬ M c → (W.putObj b (.cells arr' e (0, 0))).heap[c]? = W.heap[c]? ∧ ¬ M c := fun c _ hM' => ⟨putObj_other (fun e => hM' (e ▸ hM)), hM'⟩
      have hsz2 : W.heap.size ≤ (W.putObj b (.cells arr' e (0, 0))).heap.size := by simp
      obtain ⟨c1, c2⟩ := hc.move (K := C.K) (W' := W.putObj b (.cells arr' e (0, 0))) hgi hL rfl (.slc (some ⟨b, off, none⟩) (es.length + ys.length) cap) (.app te.size (es ++ ys) e) rfl rfl rfl rfl (by simp)
        (fun c hcn => putObj_other (fun e => by subst e; simp [own, hc0'] at hcn)) (fun b' hb' => by simpa [own] using hb')
        ⟨by simp, .inr ⟨b, off, arr', rfl, hM, World.putObj_heap_same (Array.getElem?_eq_some_iff.1 hh).1, hc0, by simpa using hfit, by rw [hsz']; exact hc2, fun r hr => by
          rcases List.mem_append.1 hr with h | h
          · exact hc3 r h
          · exact hlen r h, fun m r j c hm hj => by
          have hget : ∀ q : Nat, arr'[q]? = if off + es.length * te.size ≤ q ∧ q < off + es.length * te.size + ys.length * te.size then ((List.range (ys.length * te.size)).map val)[q - (off + es.length * te.size)]? else arr[q]? := by
            intro q
            rw [← Array.getElem?_toList, harr', Nat.add_zero, splice_get _ _ _ _ (by simpa using hsp)]
            simp
          rcases Nat.lt_or_ge m es.length with hlt | hge
          · rw [List.getElem?_append_left hlt] at hm
            obtain ⟨u, hu, hr⟩ := hc4 m r j c hm hj
            have hjs : j < te.size := by rw [← hc3 r (List.mem_of_getElem? hm)]; exact (List.getElem?_eq_some_iff.1 hj).1
            have : m * te.size + j < es.length * te.size := by
              calc m * te.size + j < m * te.size + te.size := by omega
                _ = (m + 1) * te.size := by rw [Nat.succ_mul]
                _ ≤ es.length * te.size := Nat.mul_le_mul_right _ hlt
            exact ⟨u, by rw [hget, if_neg (by omega)]; exact hu, hr.ext hsz2 still⟩
          · rw [List.getElem?_append_right hge] at hm
            have hq := hrow _ r j c hm hj
            have e1 : m * te.size = es.length * te.size + (m - es.length) * te.size := by rw [← Nat.add_mul]; congr 1; omega
            refine ⟨val ((m - es.length) * te.size + j), ?_, (hval _ r j c hm hj).ext hsz2 still⟩
            rw [hget, if_pos (by omega)]
            have : off + (m * te.size + j) - (off + es.length * te.size) = (m - es.length) * te.size + j := by omega
            rw [this]; simp [hq]⟩⟩
      exact hkk _ _ _ _ _ _ ⟨rfl, rfl⟩ (c1.put (dstOk_spec hd) (.app (by rw [← hlenβ]; simp))) c2
  · have hB : (es.length + ys.length) * te.bytes ≤ 140737488355328 := by
      have h1 : (es.length + ys.length) * te.bytes ≤ bigN * 512 := Nat.mul_le_mul hbig hb1
      exact Nat.le_trans h1 (by decide)
    have hgrow := growslice_fits (need := es.length + ys.length) (old := cap) (bytes := te.bytes) (by omega) hB
    have h63 : ¬ (((es.length + ys.length : Nat) : Int) > IntKind.i64.max ∧ te.bytes = 0) := fun h => hb0 h.2
    obtain ⟨zv, hzv, hzc⟩ := run_zeroValue (W := W.drew) hte hz
    obtain ⟨inf, hinf, hi1, hi2, hi3⟩ := run_typeInfo (W := W) hte
    obtain ⟨inf', hinf', hi1', hi2', hi3'⟩ := run_typeInfo (W := W.drew) hte
    have hcap : ∃ nc, es.length + ys.length ≤ nc ∧ (choose (.appendCap (es.length + ys.length) cap e)).run C.P W = .ok nc W.drew := by
      refine ⟨(Question.appendCap (es.length + ys.length) cap e).cut (W.tape W.drawn (Question.appendCap (es.length + ys.length) cap e)), ?_, ?_⟩
      · simp [Question.cut]
      · simp [Question.forced]
    obtain ⟨nc, hnc, hch⟩ := hcap
    have hfcd : (Builtin.firstCells te.size ys.length (a.eval y)).run C.P W.drew = .ok ((List.range (ys.length * te.size)).map val).toArray W.drew := by
      by_cases hys : ys = []
      · subst hys
        rw [hye]
        cases ad' with
        | none => simp [Builtin.firstCells]
        | some ad => simp [Builtin.firstCells, loadCells, loadCellsFrom]
      · obtain ⟨ad2, cap2, val2, hu2, hne2, _, _⟩ := sl_cells hyr
        obtain ⟨b2, off2, rfl, hc2⟩ := hne2 hys
        have e1 := run_loadCells (P := C.P) W ⟨b2, off2, none⟩ (ys.length * te.size) val2 (fun j hj => by rw [add_mk]; exact hc2 j hj)
        have e2 := run_loadCells (P := C.P) W.drew ⟨b2, off2, none⟩ (ys.length * te.size) val2 (fun j hj => by rw [add_mk]; exact hc2 j hj)
        rw [hu2] at hfc ⊢
        simp only [Builtin.firstCells] at hfc ⊢
        rw [e1] at hfc; rw [e2]
        simp only [Result.ok.injEq, and_true] at hfc
        rw [hfc]
    have hold : ∃ olds : Array Value, (Builtin.firstCells te.size es.length (.slice ad es.length cap)).run C.P W.drew = .ok olds W.drew ∧ olds.size = es.length * te.size ∧ (∀ r, r ∈ es → r.length = te.size) ∧
        ∀ (i : Nat) (r : List IV) (j : Nat) (c : IV), es[i]? = some r → r[j]? = some c → ∃ u : Value, olds[i * te.size + j]? = some u ∧ RI M W c u := by
      rcases hBS with ⟨hes, hcap⟩ | ⟨b, off, arr, rfl, hM, hh, hc0, hc1, hc2, hc3, hc4⟩
      · subst hes
        refine ⟨#[], ?_, by simp, fun r hr => by simp at hr, fun i r j c h => by simp at h⟩
        cases ad with
        | none => simp [Builtin.firstCells]
        | some ad => simp [Builtin.firstCells, loadCells, loadCellsFrom]
      · have hle : es.length * te.size ≤ cap * te.size := Nat.mul_le_mul_right _ hc1
        have e2 := run_loadCells (P := C.P) W.drew ⟨b, off, none⟩ (es.length * te.size) (fun j => arr.getD (off + j) undef) (fun j hj => by
          rw [add_mk]
          have hhd : W.drew.heap[b]? = some (.cells arr e (0, 0)) := hh
          rw [cell_of_heap hhd]
          have : off + j < arr.size := by omega
          simp [Array.getD, this])
        refine ⟨_, by simpa [Builtin.firstCells] using e2, by simp, hc3, fun i r j c h1 h2 => ?_⟩
        obtain ⟨u, hu, hr⟩ := hc4 i r j c h1 h2
        have hi : i < es.length := (List.getElem?_eq_some_iff.1 h1).1
        have hj : j < te.size := by rw [← hc3 r (List.mem_of_getElem? h1)]; exact (List.getElem?_eq_some_iff.1 h2).1
        have hlt : i * te.size + j < es.length * te.size := by
          calc i * te.size + j < i * te.size + te.size := by omega
            _ = (i + 1) * te.size := by rw [Nat.succ_mul]
            _ ≤ es.length * te.size := Nat.mul_le_mul_right _ hi
        refine ⟨u, ?_, hr⟩
        have hb' : off + (i * te.size + j) < arr.size := by omega
        have : arr[off + (i * te.size + j)] = u := by rw [Array.getElem?_eq_getElem hb'] at hu; exact Option.some.inj hu
        simp [hlt, Array.getD, hb', this]
    obtain ⟨olds, holds, hosz, holen, hor⟩ := hold
    subst hn
    have hrun : (execOp a.eval o).run C.P W = .ok (.value (.slice (some ⟨W.heap.size, 0, none⟩) (es.length + ys.length) nc))
        (W.drew.alloc (.cells (olds ++ ((List.range (ys.length * te.size)).map val).toArray ++ Builtin.zeroCells z.toArray (nc - (es.length + ys.length))) e)) := by
      simp only [execOp, ho, resolve, Sem.run_pure, Sem.run_bind, Result.andThen_ok, invoke, builtin, List.map_toArray, List.map_cons, List.map_nil, Builtin.append_, List.getElem?_toArray,
        List.getElem?_cons_zero, List.getElem?_cons_succ, h1, hxe, hsz, Bool.false_eq_true, if_false, hlenOf, Bool.not_false, if_true]
      rw [if_neg hfit]
      simp only [hinf, Result.andThen_ok, Sem.run_bind, hi2, hb0, or_self, and_false, if_false]
      rw [if_neg (by omega)]
      simp only [Sem.run_bind, hch, Result.andThen_ok, hinf', run_askRoom, holds, hfcd, hzv, hzc, newRow, run_newObj, Sem.run_pure]
      rfl
    rw [hrun, Oper.uponIn_value]
    obtain ⟨d1, d2⟩ := hc.drew (K := C.K)
    have hzc' : (Builtin.zeroCells z.toArray (nc - (es.length + ys.length))).size = (nc - (es.length + ys.length)) * te.size := by
      simp [Builtin.zeroCells, hzl]
    have hnew := World.alloc_heap_new W.drew (.cells (olds ++ ((List.range (ys.length * te.size)).map val).toArray ++ Builtin.zeroCells z.toArray (nc - (es.length + ys.length))) e)
    have still := still_alloc (M := M) (W := W.drew) (.cells (olds ++ ((List.range (ys.length * te.size)).map val).toArray ++ Builtin.zeroCells z.toArray (nc - (es.length + ys.length))) e)
    have hncp : 0 < nc := by omega
    obtain ⟨c1, c2⟩ := d1.alloc (K := C.K) (.cells (olds ++ ((List.range (ys.length * te.size)).map val).toArray ++ Builtin.zeroCells z.toArray (nc - (es.length + ys.length))) e)
      (.slc (some ⟨W.heap.size, 0, none⟩) (es.length + ys.length) nc) (.app te.size (es ++ ys) e) rfl (by simp [own]; omega)
      ⟨by simp, .inr ⟨W.heap.size, 0, _, rfl, .inr rfl, hnew, hncp, by simpa using hnc, by
        simp only [Array.size_append, hosz, hzc', List.size_toArray, List.length_map, List.length_range]
        rw [← Nat.add_mul, ← Nat.add_mul, Nat.add_sub_cancel' hnc, Nat.zero_add]; exact Nat.le_refl _, fun r hr => by
        rcases List.mem_append.1 hr with h | h
        · exact holen r h
        · exact hlen r h, fun m r j c hm hj => by
        rcases Nat.lt_or_ge m es.length with hlt | hge
        · rw [List.getElem?_append_left hlt] at hm
          obtain ⟨u, hu, hr⟩ := hor m r j c hm hj
          have hlt' : m * te.size + j < olds.size := (Array.getElem?_eq_some_iff.1 hu).1
          exact ⟨u, by rw [Nat.zero_add, Array.append_assoc, Array.getElem?_append_left hlt']; exact hu, hr.ext (W := W) (by simp) still⟩
        · rw [List.getElem?_append_right hge] at hm
          have hq := hrow _ r j c hm hj
          have e1 : m * te.size = es.length * te.size + (m - es.length) * te.size := by rw [← Nat.add_mul]; congr 1; omega
          refine ⟨val ((m - es.length) * te.size + j), ?_, (hval _ r j c hm hj).ext (W := W) (by simp) still⟩
          rw [Nat.zero_add, Array.append_assoc, Array.getElem?_append_right (by omega), Array.getElem?_append_left (by simp; omega)]
          have : m * te.size + j - olds.size = (m - es.length) * te.size + j := by omega
          rw [this]; simp [hq]⟩⟩
    have hi : i < L.length := (List.getElem?_eq_some_iff.1 hL).1
    obtain ⟨k1, k2⟩ := c1.kill (K := C.K) i (fun k hk => by rw [List.getElem?_append_left hi, hL] at hk; cases hk; rfl)
    rw [List.set_append_left _ _ hi] at k1 k2
    exact hkk _ _ _ _ _ _ ⟨rfl, rfl⟩ (k1.put (dstOk_spec hd) (.app (by rw [← hlenβ]; simp))) (d2.trans (c2.trans k2))

mutual
/-- one's own slice, given away: everywhere it is an immutable one -/
def SV.frz (i : Nat) (v : IV) : SV → SV
  | .app j => if j = i then .im v else .app j
  | .agg cs => .agg (frzL i v cs)
  | .tup cs => .tup (frzL i v cs)
  | .im x => .im x
  | .loc j o => .loc j o
  | .sub j s lo hi m => .sub j s lo hi m
  | .ap j k => .ap j k
  | .yl j => .yl j
  | .any => .any
def frzL (i : Nat) (v : IV) : List SV → List SV
  | [] => []
  | x :: xs => SV.frz i v x :: frzL i v xs
end
theorem frzL_eq (i : Nat) (v : IV) : ∀ xs, frzL i v xs = xs.map (SV.frz i v)
  | [] => rfl
  | x :: xs => by simp [frzL, frzL_eq i v xs]
def Blk.frz (i : Nat) (v : IV) : Blk → Blk
  | .vars cs t => .vars (frzL i v cs) t
  | .lp T d => .lp (mapT (SV.frz i v) T) d
  | k => k
def frzT (i : Nat) (v : IV) : Tm → Tm
  | [] => []
  | (k, x) :: T => (k, x.frz i v) :: frzT i v T
def frzB (i : Nat) (v : IV) : Nat → List Blk → List Blk
  | _, [] => []
  | 0, _ :: L => .dead :: L.map (Blk.frz i v)
  | n + 1, k :: L => k.frz i v :: frzB i v n L

theorem frzT_get (i : Nat) (v : IV) : ∀ (T : Tm) (k : Nat), get (frzT i v T) k = (get T k).map (SV.frz i v)
  | [], _ => rfl
  | (k', x) :: T, k => by simp only [frzT, get]; split <;> simp [frzT_get i v T k]

theorem frzB_get (i : Nat) (v : IV) : ∀ (n : Nat) (L : List Blk) (j : Nat), (frzB i v n L)[j]? = if j = n then (L[j]?).map (fun _ => .dead) else (L[j]?).map (Blk.frz i v)
  | n, [], j => by simp [frzB]
  | 0, k :: L, j => by cases j <;> simp [frzB]
  | n + 1, k :: L, j => by cases j <;> simp [frzB, frzB_get i v n L]

theorem R.frz {β : List Gh} {M M' : Nat → Prop} {W : World} {i : Nat} {v : IV} (hM : ∀ b, M' b → M b) (hv : ∀ u, R β M W (.app i) u → RI M' W v u) {x : SV} {u : Value} (r : R β M W x u) : R β M' W (x.frz i v) u := by
  induction r with
  | im hi => simp only [SV.frz]; exact .im (hi.ext (Nat.le_refl _) fun b _ h => ⟨rfl, fun h' => h (hM b h')⟩)
  | loc o hg => exact .loc o hg
  | app hg =>
    simp only [SV.frz]; split
    · rename_i e; subst e; exact .im (hv _ (.app hg))
    · exact .app hg
  | sub s lo hi m cp hg hcp => exact .sub s lo hi m cp hg hcp
  | ap k hg => exact .ap k hg
  | agg hsz val hv _ ih =>
    simp only [SV.frz, frzL_eq]
    refine .agg (by simpa using hsz) val (fun j c hj => ?_) (fun j c hj => ?_)
    all_goals (simp only [List.getElem?_map, Option.map_eq_some_iff] at hj; obtain ⟨c', hc', rfl⟩ := hj)
    · exact hv j c' hc'
    · exact ih j c' hc'
  | tup hsz val hv _ ih =>
    simp only [SV.frz, frzL_eq]
    refine .tup (by simpa using hsz) val (fun j c hj => ?_) (fun j c hj => ?_)
    all_goals (simp only [List.getElem?_map, Option.map_eq_some_iff] at hj; obtain ⟨c', hc', rfl⟩ := hj)
    · exact hv j c' hc'
    · exact ih j c' hc'
  | yl hg => exact .yl hg
  | any u => exact .any u

theorem Conc.freeze {G : Globs} {N : Nat} {K : Kf} {β : List Gh} {M : Nat → Prop} {a : Act} {W : World} (h : Conc G N T L β M a W) {i s : Nat} {es : List (List IV)} {t : TypeId} (hL : L[i]? = some (.app s es t)) (hbig : es.length ≤ bigN) :
    ∃ M', Conc G N (frzT i (.sl s es) T) (frzB i (.sl s es) i L) β M' a W ∧ Step K β M L W β M' (frzB i (.sl s es) i L) W := by
  have hi : i < L.length := (List.getElem?_eq_some_iff.1 hL).1
  obtain ⟨g, hg⟩ : ∃ g, β[i]? = some g := ⟨β[i]'(by rw [h.sat.len]; exact hi), List.getElem?_eq_getElem _⟩
  refine ⟨fun b => M b ∧ own g (.app s es t) ≠ some b, ?_⟩
  have hB := h.sat.ok i g _ hg hL
  have hown : ∀ b, own g (.app s es t) = some b → M b ∧ b < W.heap.size := fun b hb => h.sat.owned ⟨i, g, _, hg, hL, hb⟩
  have hM : ∀ b, (M b ∧ own g (.app s es t) ≠ some b) → M b := fun b h => h.1
  have still : ∀ b, b < W.heap.size → ¬ M b → W.heap[b]? = W.heap[b]? ∧ ¬ (M b ∧ own g (.app s es t) ≠ some b) := fun b _ hM => ⟨rfl, fun h => hM h.1⟩
  have hv : ∀ u, R β M W (.app i) u → RI (fun b => M b ∧ own g (.app s es t) ≠ some b) W (.sl s es) u := by
    intro u hu
    cases hu with
    | @app _ n cap ad hg' =>
      rw [hg] at hg'; cases hg'
      obtain ⟨rfl, ⟨rfl, rfl⟩ | ⟨b, off, arr, rfl, hMb, hh, hc0, hc1, hc2, hc3, hc4⟩⟩ := hB
      · exact .emp _ _ _
      · have ho : own (.slc (some ⟨b, off, none⟩) es.length cap) (.app s es t) = some b := by
          simp only [own]; rw [if_neg (by omega)]
        refine .sl (fun q => arr.getD (off + q) undef) (hown b ho).2 (fun h => h.2 ho) hc1 hbig hc3 (fun i e j c h1 h2 => ?_) (fun i e j c h1 h2 => ?_)
        all_goals obtain ⟨u, hu, hr⟩ := hc4 i e j c h1 h2
        · have hlt : off + (i * s + j) < arr.size := (Array.getElem?_eq_some_iff.1 hu).1
          rw [cell_of_heap hh]; simp [Array.getD, hlt]
        · have hlt : off + (i * s + j) < arr.size := (Array.getElem?_eq_some_iff.1 hu).1
          have : arr[off + (i * s + j)] = u := by rw [Array.getElem?_eq_getElem hlt] at hu; exact Option.some.inj hu
          have e2 : arr.getD (off + (i * s + j)) undef = u := by simp [Array.getD, hlt, this]
          rw [e2]; exact hr.ext (Nat.le_refl _) still
  have hfr : ∀ {x : SV} {u : Value}, R β M W x u → R β (fun b => M b ∧ own g (.app s es t) ≠ some b) W (x.frz i (.sl s es)) u := fun r => r.frz hM hv
  have dead_own : ∀ (g : Gh), own g .dead = none := by intro g; cases g with
    | blk b => rfl
    | slc a n c => cases a <;> rfl
  have own_frz : ∀ (g' : Gh) (k : Blk), own g' (k.frz i (.sl s es)) = own g' k := by
    intro g' k; cases g' with
    | blk b => cases k <;> rfl
    | slc a n c => cases a <;> cases k <;> rfl
  have hcase : ∀ (j : Nat) (kj : Blk), (frzB i (.sl s es) i L)[j]? = some kj → (j = i ∧ kj = .dead) ∨ (j ≠ i ∧ ∃ k, L[j]? = some k ∧ kj = k.frz i (.sl s es)) := by
    intro j kj hj
    rw [frzB_get] at hj
    split at hj
    · rename_i e
      simp only [Option.map_eq_some_iff] at hj
      obtain ⟨_, _, rfl⟩ := hj
      exact .inl ⟨e, rfl⟩
    · rename_i e
      simp only [Option.map_eq_some_iff] at hj
      obtain ⟨k, hk, rfl⟩ := hj
      exact .inr ⟨e, k, hk, rfl⟩
  have hlen : (frzB i (.sl s es) i L).length = L.length := by
    have : ∀ (n : Nat) (L : List Blk), (frzB i (.sl s es) n L).length = L.length := by
      intro n L
      induction L generalizing n with
      | nil => simp [frzB]
      | cons k L ih => cases n <;> simp [frzB, ih]
    exact this _ _
  refine ⟨⟨h.size, fun n x hx => ?_, ⟨by rw [hlen]; exact h.sat.len, ?_, ?_, fun g' cs hg' => (h.sat.glob g' cs hg').ext (Nat.le_refl _) still⟩, ?_⟩,
    ⟨fun _ _ _ h => h, fun _ g _ h => ⟨g, h, g.kin_refl⟩, rfl, rfl, rfl, Nat.le_refl _, fun _ _ _ => rfl, fun b hb ho => ⟨fun h => h.1, fun h => ⟨h, fun e => ho ⟨i, g, _, hg, hL, e⟩⟩⟩, ?_⟩⟩
  · rw [frzT_get] at hx
    simp only [Option.map_eq_some_iff] at hx
    obtain ⟨y, hy, rfl⟩ := hx
    obtain ⟨u, hu, hr⟩ := h.tm n y hy
    exact ⟨u, hu, hfr hr⟩
  · intro j gj kj h1 h2
    rcases hcase j kj h2 with ⟨rfl, rfl⟩ | ⟨hne, k, hk, rfl⟩
    · cases gj <;> trivial
    · have hb := h.sat.ok j gj k h1 hk
      have hob : ∀ b, own gj k = some b → (M b ∧ own g (.app s es t) ≠ some b) := fun b hb' =>
        ⟨(h.sat.owned ⟨j, gj, k, h1, hk, hb'⟩).1, fun e => hne (h.sat.dis j i gj g k _ b h1 hk hg hL hb' e)⟩
      cases gj with
      | blk b =>
        cases k with
        | vars cs t' =>
          obtain ⟨hMb, arr, hh, hsz, hcs⟩ := hb
          refine ⟨hob b rfl, arr, hh, by simpa [frzL_eq] using hsz, fun q c hq => ?_⟩
          simp only [frzL_eq, List.getElem?_map, Option.map_eq_some_iff] at hq
          obtain ⟨c', hc', rfl⟩ := hq
          obtain ⟨u, hu, hr⟩ := hcs q c' hc'
          exact ⟨u, hu, hfr hr⟩
        | app => exact hb.elim
        | obj o => exact ⟨hob b rfl, hb.2⟩
        | mark => exact ⟨hob b rfl, hb.2⟩
        | lp T d =>
          obtain ⟨hMb, r, hh, hd, hcs⟩ := hb
          refine ⟨hob b rfl, r, hh, hd, fun q c hq => ?_⟩
          rw [mapT_get, Option.map_eq_some_iff] at hq
          obtain ⟨c', hc', rfl⟩ := hq
          obtain ⟨u, hu, hr⟩ := hcs q c' hc'
          exact ⟨u, hu, hfr hr⟩
        | dead => trivial
      | slc ad n cap =>
        cases k with
        | vars cs t' => exact hb.elim
        | obj o => exact hb.elim
        | mark => exact hb.elim
        | lp T d => exact hb.elim
        | dead => trivial
        | app s' es' t' => exact BS.keep (k := .app s' es' t') (fun _ _ h => h) (Nat.le_refl _) still (fun b hb' => ⟨rfl, hob b hb'⟩) hb
  · intro j l gj gl kj kl c h1 h2 h3 h4 h5 h6
    rcases hcase j kj h2 with ⟨rfl, rfl⟩ | ⟨hne, k, hk, rfl⟩
    · rw [dead_own] at h5; cases h5
    · rcases hcase l kl h4 with ⟨rfl, rfl⟩ | ⟨hne', k', hk', rfl⟩
      · rw [dead_own] at h6; cases h6
      · rw [own_frz] at h5 h6; exact h.sat.dis j l gj gl k k' c h1 hk h3 hk' h5 h6
  · rw [h.dfr]
    have mk : ∀ (n : Nat) (β : List Gh) (L : List Blk), (∀ k, L[n]? = some k → k.isMark = false) → marks β (frzB i (.sl s es) n L) = marks β L := by
      have mk0 : ∀ (β : List Gh) (L : List Blk), marks β (L.map (Blk.frz i (.sl s es))) = marks β L := by
        intro β
        induction β with
        | nil => intro L; cases L <;> rfl
        | cons g β ih =>
          intro L
          cases L with
          | nil => cases g <;> rfl
          | cons k L => cases g <;> cases k <;> simp [marks, Blk.frz, ih]
      intro n β
      induction β generalizing n with
      | nil => intro L _; cases L <;> cases n <;> rfl
      | cons g β ih =>
        intro L hL
        cases L with
        | nil => cases g <;> cases n <;> rfl
        | cons k L =>
          cases n with
          | zero =>
            have hk := hL k rfl
            cases g <;> cases k <;> first | (simp [frzB, marks, mk0]; done) | simp [Blk.isMark] at hk
          | succ n =>
            have := ih n L (fun k hk => hL k (by simpa using hk))
            cases g <;> cases k <;> simp [frzB, marks, Blk.frz, this]
    rw [mk i β L (fun k hk => by rw [hL] at hk; cases hk; rfl)]
  · rintro c hc ⟨j, gj, kj, h1, h2, h3⟩
    rcases hcase j kj h2 with ⟨rfl, rfl⟩ | ⟨hne, k, hk, rfl⟩
    · rw [dead_own] at h3; cases h3
    · rw [own_frz] at h3; exact ⟨j, gj, k, h1, hk, h3⟩

theorem AWp.freeze {c : Code} (i : Nat) {s : Nat} {es : List (List IV)} {t : TypeId} (hL : L[i]? = some (.app s es t)) (hbig : es.length ≤ bigN) (h : AWp C c Q (frzT i (.sl s es) T) (frzB i (.sl s es) i L)) : AWp C c Q T L := by
  intro β₀ M₀ L₀ W₀ β M a W hc hs
  obtain ⟨M', h1, h2⟩ := hc.freeze (K := C.K) hL hbig
  exact h β₀ M₀ L₀ W₀ β M' a W h1 (hs.trans h2)
theorem AL.freeze {ops : Array Oper} {l : List Oper} (i : Nat) {s : Nat} {es : List (List IV)} {t : TypeId} (hL : L[i]? = some (.app s es t)) (hbig : es.length ≤ bigN) (h : AL C ops Q l (frzT i (.sl s es) T) (frzB i (.sl s es) i L)) : AL C ops Q l T L := by
  intro β₀ M₀ L₀ W₀ β M a W hc hs
  obtain ⟨M', h1, h2⟩ := hc.freeze (K := C.K) hL hbig
  exact h β₀ M₀ L₀ W₀ β M' a W h1 (hs.trans h2)
end
end Av
end

section
/- The engine, part 16: a slice of one's own, begun. -/
set_option linter.unusedSimpArgs false
namespace Av
open Go
section
variable {C : Cx} {Q : QT} {T : Tm} {L : List Blk}

/-- one block more that owns nothing -/
theorem Conc.add {G : Globs} {N : Nat} {K : Kf} {β : List Gh} {M : Nat → Prop} {a : Act} {W : World} (h : Conc G N T L β M a W) (g' : Gh) (k' : Blk) (hk' : k'.isMark = false) (ho : own g' k' = none) (hB : BS (β ++ [g']) M W g' k') :
    Conc G N T (L ++ [k']) (β ++ [g']) M a W ∧ Step K β M L W (β ++ [g']) M (L ++ [k']) W := by
  have hlen := h.sat.len
  have still : ∀ c, c < W.heap.size → ¬ M c → W.heap[c]? = W.heap[c]? ∧ ¬ M c := fun c _ hM => ⟨rfl, hM⟩
  have hcase : ∀ (j : Nat) (gj : Gh) (kj : Blk), (β ++ [g'])[j]? = some gj → (L ++ [k'])[j]? = some kj → (β[j]? = some gj ∧ L[j]? = some kj) ∨ (j = L.length ∧ gj = g' ∧ kj = k') := by
    intro j gj kj h1 h2
    rcases getElem?_snoc_some h1 with ⟨a1, a2⟩ | ⟨a1, a2⟩ <;> rcases getElem?_snoc_some h2 with ⟨b1, b2⟩ | ⟨b1, b2⟩
    · exact .inl ⟨a2, b2⟩
    · omega
    · omega
    · exact .inr ⟨b1, a2, b2⟩
  refine ⟨⟨h.size, fun n x hx => ?_, ⟨by simp [hlen], ?_, ?_, h.sat.glob⟩, ?_⟩, ⟨fun j gj _ hj => β_snoc j gj hj, fun j g _ hj => ⟨g, β_snoc j g hj, g.kin_refl⟩, rfl, rfl, rfl, Nat.le_refl _, fun _ _ _ => rfl, fun _ _ _ => Iff.rfl, ?_⟩⟩
  · obtain ⟨u, hu, hr⟩ := h.tm n x hx
    exact ⟨u, hu, hr.ext β_snoc (Nat.le_refl _) still⟩
  · intro j gj kj h1 h2
    rcases hcase j gj kj h1 h2 with ⟨a1, a2⟩ | ⟨rfl, rfl, rfl⟩
    · exact (h.sat.ok j gj kj a1 a2).keep β_snoc (Nat.le_refl _) still fun c hc => ⟨rfl, (h.sat.owned ⟨j, gj, kj, a1, a2, hc⟩).1⟩
    · exact hB
  · intro j l gj gl kj kl c h1 h2 h3 h4 h5 h6
    rcases hcase j gj kj h1 h2 with ⟨a1, a2⟩ | ⟨rfl, rfl, rfl⟩
    · rcases hcase l gl kl h3 h4 with ⟨b1, b2⟩ | ⟨rfl, rfl, rfl⟩
      · exact h.sat.dis j l gj gl kj kl c a1 a2 b1 b2 h5 h6
      · rw [ho] at h6; cases h6
    · rw [ho] at h5; cases h5
  · rw [h.dfr, marks_append _ _ _ _ hlen, marks_none [g'] [k'] (fun k'' hk'' => by simp at hk''; subst hk''; exact hk')]; simp
  · rintro c hc ⟨j, gj, kj, h1, h2, h3⟩
    rcases hcase j gj kj h1 h2 with ⟨a1, a2⟩ | ⟨rfl, rfl, rfl⟩
    · exact ⟨j, gj, kj, a1, a2, h3⟩
    · rw [ho] at h3; cases h3

/-- nothing at all may be told of as a slice of one's own -/
theorem AWp.newApp {c : Code} (s : Nat) (t : TypeId) (d : Nat) (hd : get T d = some (.im (.v (.slice none 0 0)))) (h : AWp C c Q ((d, .app L.length) :: T) (L ++ [.app s [] t])) : AWp C c Q T L := by
  intro β₀ M₀ L₀ W₀ β M a W hc hs
  obtain ⟨c1, c2⟩ := hc.add (K := C.K) (.slc none 0 0) (.app s [] t) rfl rfl ⟨rfl, .inl ⟨rfl, rfl⟩⟩
  refine h β₀ M₀ L₀ W₀ _ M a W ⟨c1.size, fun n x hx => ?_, c1.sat, c1.dfr⟩ (hs.trans c2)
  simp only [get] at hx
  split at hx
  · rename_i e; subst e; cases hx
    obtain ⟨u, hu, hr⟩ := hc.tm d _ hd
    have := hr.bool; subst this
    exact ⟨_, hu, .app (by rw [← hc.sat.len]; simp)⟩
  · exact c1.tm n x hx

/-- 'append' to nothing: a slice of one's own -/
theorem OpTo.appendF {o : Oper} {t e : TypeId} {ti te : TI} {z : List Value} {x y : Operand} {ys : List (List IV)} {xv : SV} (ho : o.op = .call ⟨.builtin .append, #[x, y], #[t, t]⟩) (hd : dstOk C.N o.dst = true)
    (hti : tinfo C.P t = some ti) (hk : ti.kind = .slice e) (hte : tinfo C.P e = some te) (hz : te.zero = some z) (hzl : z.length = te.size) (hb0 : te.bytes ≠ 0) (hb1 : te.bytes ≤ 512) (hx : aev C.G T x = some xv) (hxv : xv = .im .e0 ∨ xv = .im (.v (.slice none 0 0)))
    (hy : aev C.G T y = some (.im (.sl te.size ys))) (hbig : ys.length ≤ bigN) (hoc : ∀ r, r ∈ ys → ∀ c, c ∈ r → oc (.im c) = true) :
    OpTo C o T L (fun T' L' => T' = put T o.dst (.app L.length) ∧ L' = L ++ [.app te.size ys e]) := by
  intro β M a W hc next Qx hkk
  obtain ⟨d, h1, h2, h3, h4⟩ := run_underlying (W := W) hti
  have hd' : d = .slice e := by rw [hk] at h3; cases d <;> simp [kindOf] at h3; subst h3; rfl
  subst hd'
  have hlenβ := hc.sat.len
  have hx' : ∃ ad, a.eval x = .slice ad 0 0 := by
    have := hc.ev hx
    generalize a.eval x = u at this
    rcases hxv with rfl | rfl
    · cases this with | im h => cases h with | e0 ad => exact ⟨ad, rfl⟩
    · exact ⟨none, this.bool⟩
  obtain ⟨ad, hxe⟩ := hx'
  have hyr : RI M W (.sl te.size ys) (a.eval y) := by
    have := hc.ev hy
    cases this with | im h => exact h
  obtain ⟨val, hfc, hlen, hval⟩ := run_firstCells (P := C.P) hyr
  obtain ⟨ad', cap', hye⟩ := hyr.len
  have hsz := run_sizeOf (W := W) hte
  have hlenOf : (Builtin.lenOf (a.eval y)).run C.P W = .ok ys.length W := by rw [hye]; rfl
  rw [Oper.semAt_eq _ _ _ (fun c => by rw [ho]; exact fun e => by cases e)]
  have hone : ∀ v, v ∈ ((List.range (ys.length * te.size)).map val) → v.oneCell' = true := by
    intro v hv
    simp only [List.mem_map, List.mem_range] at hv
    obtain ⟨q, hq, rfl⟩ := hv
    have hs : 0 < te.size := Nat.pos_of_ne_zero fun h => by rw [h] at hq; omega
    have hi : q / te.size < ys.length := by rw [Nat.div_lt_iff_lt_mul hs]; exact hq
    have he : ys[q / te.size]? = some ys[q / te.size] := List.getElem?_eq_getElem hi
    have hj : q % te.size < ys[q / te.size].length := by rw [hlen _ (List.getElem_mem hi)]; exact Nat.mod_lt _ hs
    have hr := hval _ _ _ _ he (List.getElem?_eq_getElem hj)
    have ho' := hoc _ (List.getElem_mem hi) _ (List.getElem_mem hj)
    rw [Nat.mul_comm, Nat.div_add_mod] at hr
    exact oc_R (β := β) (.im hr) ho'
  have hrow : ∀ (m : Nat) (r : List IV) (j : Nat) (c : IV), ys[m]? = some r → r[j]? = some c → m * te.size + j < ys.length * te.size := by
    intro m r j c h1 h2
    have hm : m < ys.length := (List.getElem?_eq_some_iff.1 h1).1
    have hj : j < te.size := by rw [← hlen r (List.mem_of_getElem? h1)]; exact (List.getElem?_eq_some_iff.1 h2).1
    calc m * te.size + j < m * te.size + te.size := by omega
      _ = (m + 1) * te.size := by rw [Nat.succ_mul]
      _ ≤ ys.length * te.size := Nat.mul_le_mul_right _ hm
  by_cases hys0 : ys = []
  · subst hys0
    have hrun : (execOp a.eval o).run C.P W = .ok (.value (.slice ad 0 0)) W := by
      simp only [execOp, ho, resolve, Sem.run_pure, Sem.run_bind, Result.andThen_ok, invoke, builtin, List.map_toArray, List.map_cons, List.map_nil, Builtin.append_, List.getElem?_toArray,
        List.getElem?_cons_zero, List.getElem?_cons_succ, h1, hxe, hsz, Bool.false_eq_true, if_false, hlenOf, List.length_nil, Nat.add_zero, Nat.zero_add, Nat.le_refl, if_true, hfc, Bool.not_false,
        Nat.zero_mul, List.range_zero]
      have hfc0 : (Builtin.firstCells te.size 0 (a.eval y)).run C.P W = .ok #[] W := by simpa using hfc
      cases ad <;> simp [storeCells, hfc0]
    rw [hrun, Oper.uponIn_value]
    have how : own (.slc ad 0 0) (.app te.size [] e) = none := by cases ad <;> simp [own]
    obtain ⟨c1, c2⟩ := hc.add (K := C.K) (.slc ad 0 0) (.app te.size [] e) rfl how ⟨rfl, .inl ⟨rfl, rfl⟩⟩
    exact hkk _ _ _ _ _ _ ⟨rfl, rfl⟩ (c1.put (dstOk_spec hd) (.app (by rw [← hlenβ]; simp))) c2
  · have hpos : 0 < ys.length := List.length_pos_iff.2 hys0
    have hB : (0 + ys.length) * te.bytes ≤ 140737488355328 := by
      have h1 : (0 + ys.length) * te.bytes ≤ bigN * 512 := Nat.mul_le_mul (by omega) hb1
      exact Nat.le_trans h1 (by decide)
    have hgrow := growslice_fits (need := 0 + ys.length) (old := 0) (bytes := te.bytes) (by omega) hB
    have h63 : ¬ (((0 + ys.length : Nat) : Int) > IntKind.i64.max ∧ te.bytes = 0) := fun h => hb0 h.2
    obtain ⟨zv, hzv, hzc⟩ := run_zeroValue (W := W.drew) hte hz
    obtain ⟨inf, hinf, hi1, hi2, hi3⟩ := run_typeInfo (W := W) hte
    obtain ⟨inf', hinf', hi1', hi2', hi3'⟩ := run_typeInfo (W := W.drew) hte
    have hcap : ∃ nc, 0 + ys.length ≤ nc ∧ (choose (.appendCap (0 + ys.length) 0 e)).run C.P W = .ok nc W.drew := by
      refine ⟨(Question.appendCap (0 + ys.length) 0 e).cut (W.tape W.drawn (Question.appendCap (0 + ys.length) 0 e)), ?_, ?_⟩
      · simp [Question.cut]
      · simp [Question.forced]
    obtain ⟨nc, hnc, hch⟩ := hcap
    have hfcd : (Builtin.firstCells te.size ys.length (a.eval y)).run C.P W.drew = .ok ((List.range (ys.length * te.size)).map val).toArray W.drew := by
      by_cases hys : ys = []
      · subst hys
        rw [hye]
        cases ad' with
        | none => simp [Builtin.firstCells]
        | some ad => simp [Builtin.firstCells, loadCells, loadCellsFrom]
      · obtain ⟨ad2, cap2, val2, hu2, hne2, _, _⟩ := sl_cells hyr
        obtain ⟨b2, off2, rfl, hc2⟩ := hne2 hys
        have e1 := run_loadCells (P := C.P) W ⟨b2, off2, none⟩ (ys.length * te.size) val2 (fun j hj => by rw [add_mk]; exact hc2 j hj)
        have e2 := run_loadCells (P := C.P) W.drew ⟨b2, off2, none⟩ (ys.length * te.size) val2 (fun j hj => by rw [add_mk]; exact hc2 j hj)
        rw [hu2] at hfc ⊢
        simp only [Builtin.firstCells] at hfc ⊢
        rw [e1] at hfc; rw [e2]
        simp only [Result.ok.injEq, and_true] at hfc
        rw [hfc]
    have holds : (Builtin.firstCells te.size 0 (.slice ad 0 0)).run C.P W.drew = .ok #[] W.drew := by
      cases ad with
      | none => simp [Builtin.firstCells]
      | some ad => simp [Builtin.firstCells, loadCells, loadCellsFrom]
    have hrun : (execOp a.eval o).run C.P W = .ok (.value (.slice (some ⟨W.heap.size, 0, none⟩) (0 + ys.length) nc))
        (W.drew.alloc (.cells (#[] ++ ((List.range (ys.length * te.size)).map val).toArray ++ Builtin.zeroCells z.toArray (nc - (0 + ys.length))) e)) := by
      simp only [execOp, ho, resolve, Sem.run_pure, Sem.run_bind, Result.andThen_ok, invoke, builtin, List.map_toArray, List.map_cons, List.map_nil, Builtin.append_, List.getElem?_toArray,
        List.getElem?_cons_zero, List.getElem?_cons_succ, h1, hxe, hsz, Bool.false_eq_true, if_false, hlenOf, Bool.not_false, if_true]
      rw [if_neg (by omega)]
      simp only [hinf, Result.andThen_ok, Sem.run_bind, hi2, hb0, or_self, and_false, if_false]
      rw [if_neg (by omega)]
      simp only [Sem.run_bind, hch, Result.andThen_ok, hinf', run_askRoom, holds, hfcd, hzv, hzc, newRow, run_newObj, Sem.run_pure]
      rfl
    rw [hrun, Oper.uponIn_value]
    obtain ⟨d1, d2⟩ := hc.drew (K := C.K)
    have hzc' : (Builtin.zeroCells z.toArray (nc - (0 + ys.length))).size = (nc - (0 + ys.length)) * te.size := by
      simp [Builtin.zeroCells, hzl]
    have hnew := World.alloc_heap_new W.drew (.cells (#[] ++ ((List.range (ys.length * te.size)).map val).toArray ++ Builtin.zeroCells z.toArray (nc - (0 + ys.length))) e)
    have still := still_alloc (M := M) (W := W.drew) (.cells (#[] ++ ((List.range (ys.length * te.size)).map val).toArray ++ Builtin.zeroCells z.toArray (nc - (0 + ys.length))) e)
    have hncp : 0 < nc := by omega
    obtain ⟨c1, c2⟩ := d1.alloc (K := C.K) (.cells (#[] ++ ((List.range (ys.length * te.size)).map val).toArray ++ Builtin.zeroCells z.toArray (nc - (0 + ys.length))) e)
      (.slc (some ⟨W.heap.size, 0, none⟩) (0 + ys.length) nc) (.app te.size ys e) rfl (by simp [own]; omega)
      ⟨by simp, .inr ⟨W.heap.size, 0, _, rfl, .inr rfl, hnew, hncp, by omega, by
        simp only [Array.size_append, hzc', List.size_toArray, List.length_map, List.length_range, List.length_nil]
        rw [Nat.zero_add (ys.length * te.size), Nat.zero_add, Nat.zero_add] at *
        rw [← Nat.add_mul, Nat.add_sub_cancel' (by omega)]; exact Nat.le_refl _, hlen, fun m r j c hm hj => by
        have hq := hrow _ r j c hm hj
        refine ⟨val (m * te.size + j), ?_, (hval _ r j c hm hj).ext (W := W) (by simp) still⟩
        rw [Nat.zero_add, Array.empty_append, Array.getElem?_append_left (by simpa using hq)]
        simp [hq]⟩⟩
    exact hkk _ _ _ _ _ _ ⟨rfl, rfl⟩ (c1.put (dstOk_spec hd) (.app (by rw [← hlenβ]; simp))) (d2.trans c2)
end
end Av
end

section
/- The engine, part 17: calls of functions that are told of the frame's blocks; appends by hand. -/
set_option linter.unusedSimpArgs false
namespace Av
open Go
section
variable {C : Cx} {Q : QT} {T : Tm} {L : List Blk}

theorem Step.mono {K K' : Kf} {β β' : List Gh} {M M' : Nat → Prop} {L L' : List Blk} {W W' : World} (h : Step K' β M L W β' M' L' W') (hK : K.k ≤ K'.k) (hF : K.f ≤ K'.f) : Step K β M L W β' M' L' W' :=
  ⟨fun i g hi hg => h.pre i g (Nat.lt_of_lt_of_le hi hK) hg, fun i g hi hg => h.kin i g (Nat.lt_of_lt_of_le hi hF) hg, h.os, h.tape, h.output, h.size, h.heap, h.muts, h.sub⟩

theorem OpTo.callL {o : Oper} {fv : Operand} {args : Array Operand} {ts : Array TypeId} {k : FuncId} {fs caps : List IV} {xs : List SV} {Qc : SV → List Blk → Prop}
    (ho : o.op = .call ⟨.value fv, args, ts⟩) (hd : dstOk C.N o.dst = true) (hfv : aev C.G T fv = some (.im (.fn k fs caps)))
    (hrun : ∀ (vs : Array Value) (W : World), (callFunc k vs).run C.P W = .ok (.enter k vs) W) (hxs : callArgs C.G T fs args.toList caps = some xs) (hK : C.K.k ≤ L.length) (hF : C.K.f ≤ L.length) (hnm : noMarks L = true)
    (hc : ACall C.P C.G k xs L Qc) : OpTo C o T L (fun T' L' => ∃ r, Qc r L' ∧ T' = put T o.dst r) := by
  intro β M a W hcc next Qx hk
  simp only [callArgs, Option.map_eq_some_iff] at hxs
  obtain ⟨ss, hss, rfl⟩ := hxs
  obtain ⟨us, vs, hu, hus, hvs, hur, hvr⟩ := fn_R (hcc.ev hfv)
  obtain ⟨hl, hm⟩ := mapR hcc hss
  rw [Oper.semAt_eq _ _ _ (fun c => by rw [ho]; exact fun e => by cases e)]
  have hex : (execOp a.eval o).run C.P W = .ok (.enter k (us ++ args.map a.eval ++ vs)) W := by
    simp [execOp, ho, resolve, hu, Deferred.ofValue, invoke, hrun]
  rw [hex, Oper.uponIn_enter]
  refine ⟨fun h => by simp [FW, Fence.wide] at h, ?_⟩
  have hsz : (us ++ args.map a.eval ++ vs).size = (fs.map SV.im ++ ss ++ caps.map SV.im).length := by
    simp at hl
    simp [hus, hvs, hl]
  have hcall := hc β M W (us ++ args.map a.eval ++ vs) hcc.sat hsz (fun j x hj => by
    have hlen : us.size + args.size = (fs.map SV.im).length + ss.length := by simp at hl; simp [hus, hl]
    rcases get_app3 hj with ⟨h1, h2⟩ | ⟨i, rfl, h1, h2⟩ | ⟨i, rfl, h1⟩
    · simp only [List.getElem?_map, Option.map_eq_some_iff] at h1
      obtain ⟨c, hc', rfl⟩ := h1
      obtain ⟨v, hv, hr⟩ := hur j c hc'
      have : j < us.size := (Array.getElem?_eq_some_iff.1 hv).1
      exact ⟨v, by rw [Array.append_assoc, Array.getElem?_append_left this]; exact hv, .im hr⟩
    · obtain ⟨v, hv, hr⟩ := hm i x h1
      have h3 : (args.map a.eval)[i]? = some v := by rw [← Array.getElem?_toList, Array.toList_map]; exact hv
      have h4 : i < (args.map a.eval).size := (Array.getElem?_eq_some_iff.1 h3).1
      refine ⟨v, ?_, hr⟩
      rw [List.length_map, ← hus, Array.getElem?_append_left (by simp at h4 ⊢; omega), Array.getElem?_append_right (by omega), Nat.add_sub_cancel_left]
      exact h3
    · simp only [List.getElem?_map, Option.map_eq_some_iff] at h1
      obtain ⟨c, hc', rfl⟩ := h1
      obtain ⟨v, hv, hr⟩ := hvr i c hc'
      refine ⟨v, ?_, .im hr⟩
      rw [← hlen, Array.getElem?_append_right (by simp)]
      simpa using hv)
  refine ⟨trivial, fun cs hr => ?_⟩
  obtain ⟨e, W', fr, ⟨v, r, Lr, β', M', he, hq, hmk, hsat, hrr, hst⟩, hrest⟩ := hcall.2 cs (fun _ h => by simp [Fence.wide] at h)
  subst he
  refine ⟨.returned v, W', fr, ?_, hrest⟩
  have nm : ∀ {L : List Blk}, noMarks L = true → ∀ k, k ∈ L → k.isMark = false := fun hm k hk => by
    have := List.all_eq_true.1 hm k hk; simpa using this
  have hβ : ∀ (i : Nat) (g : Gh), β[i]? = some g → β'[i]? = some g := fun i g hg => hst.pre i g (by rw [← hcc.sat.len]; exact (List.getElem?_eq_some_iff.1 hg).1) hg
  have hc' : Conc C.G C.N T Lr β' M' a W' := ⟨hcc.size, fun n x hx => by
    obtain ⟨u, hu, hr⟩ := hcc.tm n x hx
    exact ⟨u, hu, hr.ext hβ hst.size (hst.still hcc.sat)⟩, hsat, by rw [hcc.dfr, marks_none _ _ (nm hnm), marks_none _ _ (nm hmk)]⟩
  exact hk _ _ _ _ _ _ ⟨r, hq, rfl⟩ (hc'.put (dstOk_spec hd) hrr) (hst.mono hK hF)

/-- an operation's step, its outcome told by an equation -/
theorem AL.consEq {ops : Array Oper} {o : Oper} {rest : List Oper} {T' : Tm} {L' : List Blk} (h : OpTo C o T L (fun T'' L'' => T'' = T' ∧ L'' = L')) (hg : o.guard = none) (k : AL C ops Q rest T' L') : AL C ops Q (o :: rest) T L :=
  AL.cons h hg (by rintro T'' L'' ⟨rfl, rfl⟩; exact k)
end
end Av
end
