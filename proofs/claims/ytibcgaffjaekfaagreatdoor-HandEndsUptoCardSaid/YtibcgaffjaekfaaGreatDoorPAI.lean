/- Part 9 of 22 of a proof: own engine, contracts and facts. -/
import Derived.Shelf.Sort.Plain
import Derived.Deep.Slices
import Derived.OpenShut
import Derived.Test.YtibcgaffjaekfaaGreatDoorPAD
import Derived.Test.YtibcgaffjaekfaaGreatDoorPAH
set_option linter.all false
section
/- The engine, part 29: the library's contracts that write a row of numbers in place. -/
set_option linter.unusedSimpArgs false
namespace Av
open Go

theorem Sat.modifyW {G : Globs} {K : Kf} {L : List Blk} {β : List Gh} {M : Nat → Prop} {W W' : World} (h : Sat G β M L W) {i b : Nat} {g : Gh} {k k' : Blk}
    (hg : β[i]? = some g) (hL : L[i]? = some k) (ho : own g k = some b) (ho' : ∀ b', own g k' = some b' → b' = b) (hos : W'.os = W.os) (htape : W'.tape = W.tape) (hout : W'.output = W.output)
    (hsz : W.heap.size ≤ W'.heap.size) (hheap : ∀ c, c < W.heap.size → c ≠ b → W'.heap[c]? = W.heap[c]?) (hB : BS β M W' g k') :
    Sat G β M (L.set i k') W' ∧ Step K β M L W β M (L.set i k') W' := by
  have hb := h.owned ⟨i, g, k, hg, hL, ho⟩
  have hi : i < L.length := (List.getElem?_eq_some_iff.1 hL).1
  have still : ∀ c, c < W.heap.size → ¬ M c → W'.heap[c]? = W.heap[c]? ∧ ¬ M c := fun c hc hM => ⟨hheap c hc (fun e => hM (e ▸ hb.1)), hM⟩
  have hset : ∀ (j : Nat) (kj : Blk), (L.set i k')[j]? = some kj → (j = i ∧ kj = k') ∨ (j ≠ i ∧ L[j]? = some kj) := by
    intro j kj hj
    by_cases hji : j = i
    · subst hji; rw [List.getElem?_set_self hi] at hj; simp at hj; exact .inl ⟨rfl, hj.symm⟩
    · rw [List.getElem?_set_ne (Ne.symm hji)] at hj; exact .inr ⟨hji, hj⟩
  refine ⟨⟨by simpa using h.len, ?_, ?_, ?_⟩, ?_⟩
  · intro j gj kj hgj hLj
    rcases hset j kj hLj with ⟨rfl, rfl⟩ | ⟨hne, hLj'⟩
    · rw [hg] at hgj; cases hgj; exact hB
    · refine (h.ok j gj kj hgj hLj').keep (fun _ _ h => h) hsz still (fun c hc => ?_)
      have hc' := h.owned ⟨j, gj, kj, hgj, hLj', hc⟩
      exact ⟨hheap c hc'.2 (fun e => hne (h.dis j i gj g kj k b hgj hLj' hg hL (e ▸ hc) ho)), hc'.1⟩
  · intro j l gj gl kj kl c hgj hLj hgl hLl hoj hol
    rcases hset j kj hLj with ⟨rfl, rfl⟩ | ⟨hne, hLj'⟩ <;> rcases hset l kl hLl with ⟨rfl, rfl⟩ | ⟨hne', hLl'⟩
    · rfl
    · rw [hg] at hgj; cases hgj
      have := ho' c hoj; subst this
      exact h.dis j l g gl k kl c hg hL hgl hLl' ho hol
    · rw [hg] at hgl; cases hgl
      have := ho' c hol; subst this
      exact h.dis j l gj g kj k c hgj hLj' hg hL hoj ho
    · exact h.dis j l gj gl kj kl c hgj hLj' hgl hLl' hoj hol
  · intro g' cs hg'
    exact (h.glob g' cs hg').ext hsz still
  · refine ⟨fun _ _ _ h => h, fun _ g _ h => ⟨g, h, g.kin_refl⟩, hos, htape, hout, hsz, fun c hc ho'' => hheap c hc (fun e => ho'' (e ▸ ⟨i, g, k, hg, hL, ho⟩)), fun _ _ _ => Iff.rfl, ?_⟩
    rintro c hc ⟨j, gj, kj, hgj, hLj, hoj⟩
    rcases hset j kj hLj with ⟨rfl, rfl⟩ | ⟨hne, hLj'⟩
    · rw [hg] at hgj; cases hgj
      have := ho' c hoj; subst this
      exact ⟨j, g, k, hg, hL, ho⟩
    · exact ⟨j, gj, kj, hgj, hLj', hoj⟩

def intRow (zs : List Int) : List (List IV) := zs.map fun n => [.v (.int .i64 n)]

theorem intRow_get {zs : List Int} {i : Nat} {e : List IV} (h : (intRow zs)[i]? = some e) : ∃ n, zs[i]? = some n ∧ e = [.v (.int .i64 n)] := by
  unfold intRow at h
  rw [List.getElem?_map, Option.map_eq_some_iff] at h
  obtain ⟨n, h1, rfl⟩ := h
  exact ⟨n, h1, rfl⟩

/-- one's own row of numbers, as the library's contracts speak of it -/
theorem BS.row {β : List Gh} {M : Nat → Prop} {W : World} {g : Gh} {zs : List Int} {t : TypeId} (h : BS β M W g (.app 1 (intRow zs) t)) :
    (∃ a cap, g = .slc a 0 cap ∧ zs = []) ∨ ∃ b off cap arr, g = .slc (some ⟨b, off, none⟩) zs.length cap ∧ M b ∧ W.heap[b]? = some (.cells arr t (0, 0)) ∧ 0 < cap ∧ zs.length ≤ cap ∧ off + cap ≤ arr.size ∧ Go.Sort.Holds (Value.int .i64) W b off zs.toArray := by
  cases g with
  | blk b => exact h.elim
  | slc a n cap =>
    obtain ⟨hn, ⟨he, rfl⟩ | ⟨b, off, arr, rfl, hM, hh, hc0, hc1, hc2, hc3, hc4⟩⟩ := h
    · have : zs = [] := by unfold intRow at he; simpa using he
      subst this
      exact .inl ⟨a, 0, by rw [hn]; rfl, rfl⟩
    · refine .inr ⟨b, off, cap, arr, by rw [hn]; simp [intRow], hM, hh, hc0, by simpa [intRow] using hc1, by simpa using hc2, ?_⟩
      intro j hj
      have hj' : j < zs.length := by simpa using hj
      obtain ⟨u, hu, hr⟩ := hc4 j [.v (.int .i64 zs[j])] 0 (.v (.int .i64 zs[j])) (by simp [intRow, hj']) rfl
      cases hr
      rw [Nat.mul_one, Nat.add_zero] at hu
      refine ⟨?_, by simp [World.frozen?, hh]⟩
      rw [cell_of_heap hh, hu]
      simp [hj']

theorem putRow_block {w : World} {b off : Nat} {arr : Array Value} {t : TypeId} {fr : Nat × Nat} {d : Array Int} (h : w.heap[b]? = some (.cells arr t fr)) :
    (Go.Sort.putRow (Value.int .i64) w b off d).heap[b]? = some (.cells (Go.Sort.putCells (Value.int .i64) off d arr) t fr) := by
  unfold Go.Sort.putRow Go.Sort.mapBlock
  show (w.heap.modify b _)[b]? = _
  rw [Array.getElem?_modify, if_pos rfl, h]
  simp [Go.Sort.onCells]
theorem putRow_other {w : World} {b off c : Nat} {d : Array Int} (h : c ≠ b) : (Go.Sort.putRow (Value.int .i64) w b off d).heap[c]? = w.heap[c]? := by
  unfold Go.Sort.putRow Go.Sort.mapBlock
  show (w.heap.modify b _)[c]? = _
  rw [Array.getElem?_modify, if_neg (Ne.symm h)]
theorem putRow_size {w : World} {b off : Nat} {d : Array Int} : (Go.Sort.putRow (Value.int .i64) w b off d).heap.size = w.heap.size := by
  unfold Go.Sort.putRow Go.Sort.mapBlock
  show (w.heap.modify b _).size = _
  rw [Array.size_modify]

/-- the row behind such a write -/
theorem BS.rewrite {β : List Gh} {M : Nat → Prop} {W' : World} {b off cap : Nat} {arr : Array Value} {t : TypeId} {zs ys : List Int} {d : Array Int} (hM : M b) (hh : W'.heap[b]? = some (.cells (Go.Sort.putCells (Value.int .i64) off d arr) t (0, 0)))
    (hc0 : 0 < cap) (hc1 : ys.length ≤ cap) (hc2 : off + cap ≤ arr.size) (hd : d.size = zs.length) (hy : ys.length ≤ zs.length) (hcap : zs.length ≤ cap) (hget : ∀ j, j < ys.length → d[j]! = ys.getD j 0) :
    BS β M W' (.slc (some ⟨b, off, none⟩) ys.length cap) (.app 1 (intRow ys) t) := by
  refine ⟨by simp [intRow], .inr ⟨b, off, _, rfl, hM, hh, hc0, by simpa [intRow] using hc1, by simp [Go.Sort.putCells]; exact hc2, ?_, ?_⟩⟩
  · intro e he
    unfold intRow at he
    obtain ⟨n, _, rfl⟩ := List.mem_map.1 he; rfl
  · intro i e j c h1 h2
    obtain ⟨n, hn, rfl⟩ := intRow_get h1
    have hj : j = 0 := by
      rcases Nat.eq_zero_or_pos j with h | h
      · exact h
      · rw [List.getElem?_eq_none (by simp; omega)] at h2; cases h2
    subst hj
    simp only [List.getElem?_cons_zero, Option.some.injEq] at h2; subst h2
    have hi : i < ys.length := (List.getElem?_eq_some_iff.1 hn).1
    refine ⟨.int .i64 n, ?_, .v _⟩
    rw [Nat.mul_one, Nat.add_zero]
    have hia : off + i < arr.size := by omega
    simp only [Go.Sort.putCells, Array.getElem?_mapIdx]
    rw [Array.getElem?_eq_getElem hia]
    simp only [Option.map_some, Option.some.injEq]
    rw [if_pos (by omega), Nat.add_sub_cancel_left, hget i hi]
    simp [hn]

theorem Sat.addOwned {G : Globs} {L : List Blk} {β : List Gh} {M : Nat → Prop} {W : World} (h : Sat G β M L W) {g' : Gh} {k' : Blk} (hfree : ∀ b, own g' k' = some b → ¬ Owned β L b) (hB : BS (β ++ [g']) M W g' k') :
    Sat G (β ++ [g']) M (L ++ [k']) W := by
  have hlen := h.len
  have hcase : ∀ (j : Nat) (gj : Gh) (kj : Blk), (β ++ [g'])[j]? = some gj → (L ++ [k'])[j]? = some kj → (β[j]? = some gj ∧ L[j]? = some kj ∧ j < L.length) ∨ (j = L.length ∧ gj = g' ∧ kj = k') := by
    intro j gj kj h1 h2
    rcases getElem?_snoc_some h1 with ⟨a1, a2⟩ | ⟨a1, a2⟩ <;> rcases getElem?_snoc_some h2 with ⟨b1, b2⟩ | ⟨b1, b2⟩
    · exact .inl ⟨a2, b2, b1⟩
    · omega
    · omega
    · exact .inr ⟨b1, a2, b2⟩
  refine ⟨by simp [hlen], ?_, ?_, h.glob⟩
  · intro j gj kj h1 h2
    rcases hcase j gj kj h1 h2 with ⟨a1, a2, _⟩ | ⟨rfl, rfl, rfl⟩
    · exact (h.ok j gj kj a1 a2).keep β_snoc (Nat.le_refl _) (fun _ _ h => ⟨rfl, h⟩) fun c hc => ⟨rfl, (h.owned ⟨j, gj, kj, a1, a2, hc⟩).1⟩
    · exact hB
  · intro j l gj gl kj kl c h1 h2 h3 h4 h5 h6
    rcases hcase j gj kj h1 h2 with ⟨a1, a2, _⟩ | ⟨rfl, rfl, rfl⟩
    · rcases hcase l gl kl h3 h4 with ⟨b1, b2, _⟩ | ⟨rfl, rfl, rfl⟩
      · exact h.dis j l gj gl kj kl c a1 a2 b1 b2 h5 h6
      · exact absurd ⟨j, gj, kj, a1, a2, h5⟩ (hfree c h6)
    · rcases hcase l gl kl h3 h4 with ⟨b1, b2, _⟩ | ⟨rfl, rfl, rfl⟩
      · exact absurd ⟨l, gl, kl, b1, b2, h6⟩ (hfree c h5)
      · rfl

/-- slices.Compact -/
theorem ACall.compact {P : Program} {G : Globs} {f : FuncId} {L : List Blk} {i : Nat} {zs cz : List Int} {t : TypeId} (hm : noMarks L = true) (hL : L[i]? = some (.app 1 (intRow zs) t)) (hz : zs.length ≤ 9223372036854775807) (hcz : cz.length ≤ zs.length) (hc0' : zs = [] → cz = [])
    (hS : ∀ (blk off cap : Nat) (w : World), Go.Sort.Holds (Value.int .i64) w blk off zs.toArray → zs.length ≤ 9223372036854775807 → zs.length ≤ cap →
      Calls P f #[.slice (some ⟨blk, off, none⟩) zs.length cap] w fun e w' => e = .returned (.slice (some ⟨blk, off, none⟩) cz.length cap) ∧ ∃ q, w' = Go.Sort.putRow (Value.int .i64) (Go.Sort.ahead w q) blk off (cz ++ List.replicate (zs.length - cz.length) 0).toArray)
    (hN : ∀ (p : Option Addr) (cap : Nat) (w : World), Calls P f #[.slice p 0 cap] w fun e w' => e = .returned (.slice p 0 cap) ∧ w' = w) :
    ACall P G f [.app i] L (fun r L' => r = .app L.length ∧ L' = L.set i .dead ++ [.app 1 (intRow cz) t]) := by
  intro β M W vs hs hn hv
  have hi : i < L.length := (List.getElem?_eq_some_iff.1 hL).1
  obtain ⟨u, hu, hr⟩ := hv 0 (.app i) rfl
  have hvs : vs = #[u] := by
    apply Array.ext
    · simpa using hn
    · intro q h1 h2
      have : q = 0 := by simp at h2; omega
      subst this
      rw [Array.getElem?_eq_getElem h1] at hu
      simpa using hu
  subst hvs
  have dead_own : ∀ (g : Gh), own g .dead = none := by intro g; cases g with
    | blk b => rfl
    | slc a n c => cases a <;> rfl
  have hmS : noMarks (L.set i .dead ++ [Blk.app 1 (intRow cz) t]) = true := by
    rw [noMarks_app, Bool.and_eq_true]
    refine ⟨List.all_eq_true.2 fun q hq => ?_, rfl⟩
    rcases List.mem_or_eq_of_mem_set hq with h | h
    · exact List.all_eq_true.1 hm q h
    · subst h; rfl
  have hlen := hs.len
  -- behind the call
  have fin : ∀ (a : Option Addr) (n cap : Nat) (W' : World), β[i]? = some (.slc a n cap) → W.heap.size ≤ W'.heap.size → W'.os = W.os → W'.tape = W.tape → W'.output = W.output →
      (∀ c, c < W.heap.size → own (.slc a n cap) (.app 1 (intRow zs) t) ≠ some c → W'.heap[c]? = W.heap[c]?) → own (.slc a cz.length cap) (.app 1 (intRow cz) t) = own (.slc a n cap) (.app 1 (intRow zs) t) → BS β M W' (.slc a cz.length cap) (.app 1 (intRow cz) t) →
      ∃ v r L' β' M', Ending.returned (.slice a cz.length cap) = .returned v ∧ (r = .app L.length ∧ L' = L.set i .dead ++ [.app 1 (intRow cz) t]) ∧ noMarks L' = true ∧ Sat G β' M' L' W' ∧ R β' M' W' r v ∧ Step (L.length : Kf) β M L W β' M' L' W' := by
    intro a n cap W' hg hsz hos htape hout hheap hown hB
    have hset : ∀ (j : Nat) (kj : Blk), (L.set i .dead)[j]? = some kj → (j = i ∧ kj = .dead) ∨ (j ≠ i ∧ L[j]? = some kj) := by
      intro j kj hj
      by_cases hji : j = i
      · subst hji; rw [List.getElem?_set_self hi] at hj; simp at hj; exact .inl ⟨rfl, hj.symm⟩
      · rw [List.getElem?_set_ne (Ne.symm hji)] at hj; exact .inr ⟨hji, hj⟩
    have hob : ∀ b, own (.slc a n cap) (.app 1 (intRow zs) t) = some b → M b ∧ b < W.heap.size := fun b hb => hs.owned ⟨i, _, _, hg, hL, hb⟩
    have still : ∀ c, c < W.heap.size → ¬ M c → W'.heap[c]? = W.heap[c]? ∧ ¬ M c := fun c hc hM => ⟨hheap c hc (fun e => hM (hob c e).1), hM⟩
    have hsat1 : Sat G β M (L.set i .dead) W' := by
      refine ⟨by simpa using hlen, ?_, ?_, fun g cs hg => (hs.glob g cs hg).ext hsz still⟩
      · intro j gj kj h1 h2
        rcases hset j kj h2 with ⟨rfl, rfl⟩ | ⟨hne, h3⟩
        · cases gj <;> trivial
        · refine (hs.ok j gj kj h1 h3).keep (fun _ _ h => h) hsz still fun c hc => ?_
          have hc' := hs.owned ⟨j, gj, kj, h1, h3, hc⟩
          exact ⟨hheap c hc'.2 (fun e => hne (hs.dis j i gj _ kj _ c h1 h3 hg hL hc e)), hc'.1⟩
      · intro j l gj gl kj kl c h1 h2 h3 h4 h5 h6
        rcases hset j kj h2 with ⟨rfl, rfl⟩ | ⟨hne, h2'⟩
        · rw [dead_own] at h5; cases h5
        · rcases hset l kl h4 with ⟨rfl, rfl⟩ | ⟨hne', h4'⟩
          · rw [dead_own] at h6; cases h6
          · exact hs.dis j l gj gl kj kl c h1 h2' h3 h4' h5 h6
    have hfree : ∀ b, own (.slc a cz.length cap) (.app 1 (intRow cz) t) = some b → ¬ Owned β (L.set i .dead) b := by
      rintro b hb ⟨j, gj, kj, h1, h2, h3⟩
      rcases hset j kj h2 with ⟨rfl, rfl⟩ | ⟨hne, h2'⟩
      · rw [dead_own] at h3; cases h3
      · rw [hown] at hb
        exact hne (hs.dis j i gj _ kj _ b h1 h2' hg hL h3 hb)
    have hsat2 := hsat1.addOwned hfree (BS.keep (k := .app 1 (intRow cz) t) (β := β) β_snoc (Nat.le_refl _) (fun _ _ h => ⟨rfl, h⟩) (fun b hb => ⟨rfl, (hB.own_spec hb).1⟩) hB)
    refine ⟨_, _, _, _, M, rfl, ⟨rfl, rfl⟩, hmS, hsat2, .app (by rw [← hlen]; simp), ?_⟩
    refine ⟨fun j gj _ hj => β_snoc j gj hj, fun j g _ hj => ⟨g, β_snoc j g hj, g.kin_refl⟩, hos, htape, hout, hsz, fun c hc ho => hheap c hc fun e => ho ⟨i, _, _, hg, hL, e⟩, fun _ _ _ => Iff.rfl, ?_⟩
    rintro c hc ⟨j, gj, kj, h1, h2, h3⟩
    rcases getElem?_snoc_some h2 with ⟨b1, b2⟩ | ⟨b1, b2⟩
    · rcases hset j kj b2 with ⟨rfl, rfl⟩ | ⟨hne, h2'⟩
      · rw [dead_own] at h3; cases h3
      · have hj : j < β.length := by rw [hlen]; simpa using b1
        rw [List.getElem?_append_left hj] at h1
        exact ⟨j, gj, kj, h1, h2', h3⟩
    · subst b2
      have hj : j = β.length := by rw [hlen]; simpa using b1
      subst hj
      rw [List.getElem?_append_right (Nat.le_refl _), Nat.sub_self] at h1
      simp only [List.getElem?_cons_zero, Option.some.injEq] at h1
      subst h1
      rw [hown] at h3
      exact ⟨i, _, _, hg, hL, h3⟩
  cases hr with
  | @app _ n c a hg =>
    have hB := hs.ok i _ _ hg hL
    rcases hB.row with ⟨a', cap', he, hz0⟩ | ⟨b, off, cap', arr, he, hM, hh, hc0, hc1, hc2, hH⟩
    · cases he
      have hcz0 := hc0' hz0
      subst hz0 hcz0
      refine (callsIn_wide.2 (hN _ _ W)).mono ?_
      rintro e w' ⟨rfl, rfl⟩
      exact fin _ _ _ w' hg (Nat.le_refl _) rfl rfl rfl (fun _ _ _ => rfl) rfl hB
    · cases he
      have hbs : b < W.heap.size := (Array.getElem?_eq_some_iff.1 hh).1
      refine (callsIn_wide.2 (hS b off _ W hH hz hc1)).mono ?_
      rintro e w' ⟨rfl, q, rfl⟩
      refine fin _ _ _ _ hg (by rw [putRow_size]; exact Nat.le_refl _) rfl rfl rfl (fun c hc hne => ?_) (by simp [own]) ?_
      · have hcb : c ≠ b := fun e => hne (by subst e; simp [own]; omega)
        rw [putRow_other hcb]; rfl
      · exact BS.rewrite (zs := zs) hM (putRow_block (w := Go.Sort.ahead W q) hh) hc0 (by omega) hc2 (by simp; omega) hcz hc1 (fun j hj => by
          have hj2 : j < (cz ++ List.replicate (zs.length - cz.length) 0).length := by simp; omega
          simp [List.getElem?_append_left hj, hj])

/-- slices.Sort -/
theorem ACall.sort {P : Program} {G : Globs} {f : FuncId} {L : List Blk} {i : Nat} {zs : List Int} {t : TypeId} (hm : noMarks L = true) (hL : L[i]? = some (.app 1 (intRow zs) t)) (hz : zs.length < 4611686018427387904)
    (hS : ∀ (blk off cap : Nat) (zs : List Int) (w : World), Go.Sort.Holds (Value.int .i64) w blk off zs.toArray → blk < w.heap.size → zs.length < 4611686018427387904 →
      Calls P f #[.slice (some ⟨blk, off, none⟩) zs.length cap] w fun e w' => e = .returned (.tuple #[]) ∧ ∃ n os, w' = Go.Sort.grow (Go.Sort.putRow (Value.int .i64) (Go.Sort.ahead w n) blk off (zs.mergeSort fun x y => decide (x ≤ y)).toArray) os)
    (hN : ∀ (p : Option Addr) (cap : Nat) (w : World), Calls P f #[.slice p 0 cap] w fun e w' => e = .returned (.tuple #[]) ∧ w' = w) :
    ACall P G f [.app i] L (fun r L' => r = .tup [] ∧ L' = L.set i (.app 1 (intRow (zs.mergeSort fun x y => decide (x ≤ y))) t)) := by
  intro β M W vs hs hn hv
  have hi : i < L.length := (List.getElem?_eq_some_iff.1 hL).1
  obtain ⟨u, hu, hr⟩ := hv 0 (.app i) rfl
  have hvs : vs = #[u] := by
    apply Array.ext
    · simpa using hn
    · intro q h1 h2
      have : q = 0 := by simp at h2; omega
      subst this
      rw [Array.getElem?_eq_getElem h1] at hu
      simpa using hu
  subst hvs
  have tup0 : ∀ {β : List Gh} {M : Nat → Prop} {W : World}, R β M W (.tup []) (.tuple #[]) := .tup rfl (fun _ => undef) (fun j c hj => by simp at hj) (fun j c hj => by simp at hj)
  have hmS : ∀ k, k.isMark = false → noMarks (L.set i k) = true := by
    intro k hk
    refine List.all_eq_true.2 fun q hq => ?_
    rcases List.mem_or_eq_of_mem_set hq with h | h
    · exact List.all_eq_true.1 hm q h
    · subst h; simp [hk]
  cases hr with
  | @app _ n c a hg =>
    have hB := hs.ok i _ _ hg hL
    rcases hB.row with ⟨a', cap', he, rfl⟩ | ⟨b, off, cap', arr, he, hM, hh, hc0, hc1, hc2, hH⟩
    · cases he
      refine (callsIn_wide.2 (hN _ _ W)).mono ?_
      rintro e w' ⟨rfl, rfl⟩
      have : L.set i (.app 1 (intRow (([] : List Int).mergeSort fun x y => decide (x ≤ y))) t) = L := by
        apply List.ext_getElem?
        intro j
        by_cases hj : j = i
        · subst hj; rw [List.getElem?_set_self hi, hL]; simp
        · rw [List.getElem?_set_ne (Ne.symm hj)]
      rw [this]
      exact ⟨_, _, L, β, M, rfl, ⟨rfl, rfl⟩, hm, hs, tup0, Step.refl ..⟩
    · cases he
      have hbs : b < W.heap.size := (Array.getElem?_eq_some_iff.1 hh).1
      refine (callsIn_wide.2 (hS b off _ zs W hH hbs hz)).mono ?_
      rintro e w' ⟨rfl, nn, os, rfl⟩
      have hlen : (zs.mergeSort fun x y => decide (x ≤ y)).length = zs.length := by simp
      have hsz : W.heap.size ≤ (Go.Sort.grow (Go.Sort.putRow (Value.int .i64) (Go.Sort.ahead W nn) b off (zs.mergeSort fun x y => decide (x ≤ y)).toArray) os).heap.size := by
        show _ ≤ ((Go.Sort.putRow _ _ _ _ _).heap ++ os).size
        rw [Array.size_append, putRow_size]; show W.heap.size ≤ W.heap.size + _; omega
      have hget : ∀ c, c < W.heap.size → (Go.Sort.grow (Go.Sort.putRow (Value.int .i64) (Go.Sort.ahead W nn) b off (zs.mergeSort fun x y => decide (x ≤ y)).toArray) os).heap[c]? = (Go.Sort.putRow (Value.int .i64) (Go.Sort.ahead W nn) b off (zs.mergeSort fun x y => decide (x ≤ y)).toArray).heap[c]? := by
        intro c hc
        show ((Go.Sort.putRow _ _ _ _ _).heap ++ os)[c]? = _
        rw [Array.getElem?_append_left (by rw [putRow_size]; exact hc)]
      obtain ⟨s1, s2⟩ := hs.modifyW (W' := Go.Sort.grow (Go.Sort.putRow (Value.int .i64) (Go.Sort.ahead W nn) b off (zs.mergeSort fun x y => decide (x ≤ y)).toArray) os) (K := (L.length : Kf)) (k' := .app 1 (intRow (zs.mergeSort fun x y => decide (x ≤ y))) t) (b := b) hg hL (by simp [own]; omega) (fun b' hb' => by simp [own] at hb'; exact hb'.2.symm) rfl rfl rfl hsz
        (fun c hc hne => by rw [hget c hc, putRow_other hne]; rfl) (by
          have := BS.rewrite (β := β) (t := t) (zs := zs) (ys := zs.mergeSort fun x y => decide (x ≤ y)) hM (by rw [hget b hbs]; exact putRow_block (w := Go.Sort.ahead W nn) hh) hc0 (by omega) hc2 (by simp) (by omega) hc1 (fun j hj => by
            have hj' : j < (zs.mergeSort fun x y => decide (x ≤ y)).length := hj
            simp [hj'])
          rw [hlen] at this; exact this)
      exact ⟨_, _, _, β, M, rfl, ⟨rfl, rfl⟩, hmS _ rfl, s1, tup0, s2⟩
end Av
end

section
/- The engine, part 30: slices of one's own, written out. -/
set_option linter.unusedSimpArgs false
namespace Av
open Go
section
variable {C : Cx} {Q : QT} {T : Tm} {L : List Blk}
/-- '[]T{a, b, ..}', one's own -/
theorem OpTo.buildA {o : Oper} {t e : TypeId} {n : Nat} {parts : Array (Nat × Operand)} {ti te : TI} {z : List Value} {ss cs : List SV} {ivs : List IV} (ho : o.op = .buildSlice t n parts) (hd : dstOk C.N o.dst = true)
    (hti : tinfo C.P t = some ti) (hk : ti.kind = .slice e) (hte : tinfo C.P e = some te) (hz : te.zero = some z) (hle : n * te.size ≤ 2 ^ 24) (hs : aevs C.G T (parts.toList.map (·.2)) = some ss)
    (hb : buildS (fun i => some (i * te.size, te.size)) (List.replicate (n * te.size) .any) ((parts.toList.map (·.1)).zip ss) = some cs) (hi : ims cs = some ivs) (hn0 : 0 < n) :
    OpTo C o T L (fun T' L' => T' = put T o.dst (.app L.length) ∧ L' = L ++ [.app te.size (chunks te.size n ivs) e]) := by
  intro β M a W hc next Qx hkk
  obtain ⟨d, h1, h2, h3, h4⟩ := run_underlying (W := W) hti
  have hd' : d = .slice e := by rw [hk] at h3; cases d <;> simp [kindOf] at h3; subst h3; rfl
  subst hd'
  obtain ⟨b1, b2⟩ := build_args hc hs
  have hzs : n * te.size = 0 ∨ n * te.size ≠ 0 := Nat.eq_zero_or_pos _ |>.imp id Nat.pos_iff_ne_zero.1
  obtain ⟨u, hu, hcl⟩ := run_zeroValue (W := W) hte hz
  obtain ⟨zero, hzero⟩ : ∃ zero : Array Value, ∀ k : Array Value → Sem Value, (if n * te.size = 0 then (do let zero ← (Pure.pure #[] : Sem (Array Value)); k zero) else (do let x ← zeroValue e; let zero ← (Pure.pure x.cells : Sem (Array Value)); k zero) : Sem Value).run C.P W = (k zero).run C.P W := by
    rcases hzs with h | h
    · exact ⟨#[], fun k => by rw [if_pos h]; rfl⟩
    · exact ⟨u.cells, fun k => by rw [if_neg h, Sem.run_bind, hu]; rfl⟩
  obtain ⟨arr, ha, hbz, hcr⟩ := buildS_run (β := β) (M := M) (W := W) _ _ _ cs ((Array.range (n * te.size)).map (zero[· % zero.size]!)) (by simp) (fun k c hk => by
    rw [List.getElem?_replicate] at hk
    split at hk
    · rename_i hlt
      cases hk
      exact ⟨zero[k % zero.size]!, by simp [hlt], .any _⟩
    · cases hk) b1 b2 hb
  have hrun : (execOp a.eval o).run C.P W = .ok (.value (.slice (some ⟨W.heap.size, 0, none⟩) n n)) (W.alloc (.cells arr e)) := by
    simp only [execOp, ho, Instr.buildSlice, Sem.run_bind, h1, Result.andThen_ok, run_sizeOf hte]
    rw [if_neg (by omega)]
    have := hzero fun zero => do
      let some cells := Instr.fill (fun i => some (i * te.size, te.size)) ((Array.range (n * te.size)).map (zero[· % zero.size]!)) (parts.map fun x => (x.1, a.eval x.2)).toList | stuck "buildSlice: a part of the wrong size"
      Pure.pure (Value.slice (some (← newRow e cells)) n n)
    refine Eq.trans (congrArg (fun r => Result.andThen r _) this) ?_
    rw [ha]
    simp [newRow]
  rw [Oper.semAt_eq _ _ _ (fun c => by rw [ho]; exact fun e => by cases e), hrun, Oper.uponIn_value]
  have hiv := ims_spec hi
  subst hiv
  have hlen : ivs.length = n * te.size := by
    have h1 := buildS_len hb
    simpa using h1
  have hlenβ := hc.sat.len
  have hch := chunks_length te.size n ivs
  have hmem := chunks_mem te.size n ivs (by omega)
  have harr : arr.size = n * te.size := by rw [hbz]; simpa using hlen
  have hnew := World.alloc_heap_new W (.cells arr e)
  obtain ⟨c1, c2⟩ := hc.alloc (K := C.K) (.cells arr e) (.slc (some ⟨W.heap.size, 0, none⟩) n n) (.app te.size (chunks te.size n ivs) e) rfl (by simp [own]; omega)
    ⟨hch.symm, .inr ⟨W.heap.size, 0, arr, rfl, .inr rfl, hnew, hn0, by rw [hch]; exact Nat.le_refl _, by rw [harr]; omega, hmem, fun m r j c hm hj => by
      have hmn : m < n := by rw [← hch]; exact (List.getElem?_eq_some_iff.1 hm).1
      have hjl : j < te.size := by rw [← hmem r (List.mem_of_getElem? hm)]; exact (List.getElem?_eq_some_iff.1 hj).1
      obtain ⟨v, hv, hr⟩ := hcr (m * te.size + j) (.im c) (by simp [chunks_get te.size n ivs m r j c hm hj])
      refine ⟨v, by rw [Nat.zero_add]; exact hv, ?_⟩
      cases hr with | im hr => exact hr.ext (W := W) (by simp) (still_alloc _)⟩⟩
  exact hkk _ _ _ _ _ _ ⟨rfl, rfl⟩ (c1.put (dstOk_spec hd) (.app (by rw [← hlenβ]; simp))) c2

/-- arguments told of less exactly -/
theorem ACall.args {P : Program} {G : Globs} {f : FuncId} {xs ys : List SV} {L : List Blk} {Q : SV → List Blk → Prop} (h : ACall P G f ys L Q) (hl : xs.length = ys.length) (hv : ∀ (j : Nat) (x y : SV), xs[j]? = some x → ys[j]? = some y → Vw x y) : ACall P G f xs L Q := by
  intro β M W vs hs hn hx
  refine h β M W vs hs (by rw [hn, hl]) fun j y hj => ?_
  have hjl : j < xs.length := by rw [hl]; exact (List.getElem?_eq_some_iff.1 hj).1
  obtain ⟨u, hu, hr⟩ := hx j xs[j] (List.getElem?_eq_getElem hjl)
  exact ⟨u, hu, hv j _ y (List.getElem?_eq_getElem hjl) hj _ _ _ _ hr⟩
end
end Av
end

section
/- The engine, part 31: results told of less exactly. -/
namespace Av
open Go
def VwL : List SV → List SV → Prop
  | [], [] => True
  | x :: xs, y :: ys => Vw x y ∧ VwL xs ys
  | _, _ => False
theorem VwL.len : ∀ {xs ys : List SV}, VwL xs ys → xs.length = ys.length
  | [], [], _ => rfl
  | x :: xs, y :: ys, h => by simp [VwL.len h.2]
  | [], _ :: _, h => h.elim
  | _ :: _, [], h => h.elim
theorem VwL.get : ∀ {xs ys : List SV} {j : Nat} {y : SV}, VwL xs ys → ys[j]? = some y → ∃ x, xs[j]? = some x ∧ Vw x y
  | [], [], j, y, _, h => by simp at h
  | x :: xs, z :: ys, 0, y, h, hy => by simp at hy; subst hy; exact ⟨x, rfl, h.1⟩
  | x :: xs, z :: ys, j + 1, y, h, hy => by
    obtain ⟨x', h1, h2⟩ := VwL.get h.2 (by simpa using hy : ys[j]? = some y)
    exact ⟨x', by simpa using h1, h2⟩
  | [], _ :: _, j, y, h, _ => h.elim
  | _ :: _, [], j, y, h, _ => h.elim
theorem Vw.agg {xs ys : List SV} (h : VwL xs ys) : Vw (.agg xs) (.agg ys) := fun β M W u r => by
  cases r with
  | agg hs val hv hr =>
    refine .agg (by rw [hs, h.len]) val (fun j c hj => ?_) (fun j c hj => ?_)
    all_goals obtain ⟨x, h1, h2⟩ := h.get hj
    · exact hv j x h1
    · exact h2 _ _ _ _ (hr j x h1)
theorem Vw.tup {xs ys : List SV} (h : VwL xs ys) : Vw (.tup xs) (.tup ys) := fun β M W u r => by
  cases r with
  | tup hs val hv hr =>
    refine .tup (by rw [hs, h.len]) val (fun j c hj => ?_) (fun j c hj => ?_)
    all_goals obtain ⟨x, h1, h2⟩ := h.get hj
    · exact hv j x h1
    · exact h2 _ _ _ _ (hr j x h1)
theorem ACall.viewed {P : Program} {G : Globs} {f : FuncId} {xs : List SV} {L Lr : List Blk} {x : SV} (h : ACall P G f xs L (fun r L' => Vw r x ∧ L' = Lr)) : ACall P G f xs L (fun r L' => r = x ∧ L' = Lr) := fun β M W vs hs hn hv => by
  obtain ⟨h1, h2⟩ := h β M W vs hs hn hv
  refine ⟨h1, fun cs hr => ?_⟩
  obtain ⟨e, w', fr, ⟨v, r, L', β', M', he, ⟨hvw, hL⟩, hm, hsat, hrr, hst⟩, hs⟩ := h2 cs hr
  exact ⟨e, w', fr, ⟨v, x, L', β', M', he, ⟨rfl, hL⟩, hm, hsat, hvw _ _ _ _ hrr, hst⟩, hs⟩
end Av
end

section
/- The plain functions: what the program computes, over numbers and lists. No program in sight. -/
namespace Rp

structure Head where
  used : Bool
  old : Bool
  done : Bool
  n : Int
  born : Int
  mark : Int
  deriving DecidableEq

structure Page where
  kind : Int
  arg : Int
  deriving DecidableEq

structure Lists where
  a : List Int
  b : List Int
  c : List Int
  deriving DecidableEq

structure Heap where
  W : List Int
  P : List Page
  F : Lists
  C : List Bool
  deriving DecidableEq

structure Col where
  phase : Int
  epoch : Int
  major : Bool
  work : List Int
  over : Bool
  at_ : Int
  field : Int
  seek : Int
  card : Int
  met : Bool
  deriving DecidableEq

structure Opn where
  kind : Int
  a : Int
  b : Int
  c : Int
  deriving DecidableEq

structure Thread where
  live : Bool
  r0 : Int
  r1 : Int
  r2 : Int
  r3 : Int
  cache : Lists
  epoch : Int
  stage : Int
  root : Int
  do_ : List Opn
  pc : Int
  x : Int
  y : Int
  deriving DecidableEq

def Head.zero : Head := ⟨false, false, false, 0, 0, 0⟩
def Lists.nil : Lists := ⟨[], [], []⟩
def Heap.zero : Heap := ⟨[], [], .nil, []⟩

def Lists.all (l : Lists) : List Int := l.a ++ l.b ++ l.c

/-! ### head -/
def inR (n hi : Int) : Bool := decide (0 ≤ n) && decide (n ≤ hi)
def Head.may (h : Head) : Bool :=
  if h.used then inR h.n 63 && inR h.born 1048576 && inR h.mark 1048576 else decide (h = Head.zero)
def bit (b : Bool) (v : Int) : Int := if b then v else 0
def Head.pack (h : Head) : Int := bit h.used 1 + bit h.old 2 + bit h.done 4 + 8 * h.n + 1024 * h.born + 4294967296 * h.mark
def Head.raw (w : Int) : Head :=
  ⟨decide (w % 2 = 1), decide (w / 2 % 2 = 1), decide (w / 4 % 2 = 1), w / 8 % 128, w / 1024 % 4194304, w / 4294967296⟩
def unpackOk (w : Int) : Bool := (Head.raw w).may && decide ((Head.raw w).pack = w)
def unpack (w : Int) : Head := if unpackOk w then Head.raw w else Head.zero

/-! ### arena, class, pages, cells -/
def arenaMay (w : List Int) : Bool := decide (w.length % 16 = 0) && decide (1 ≤ w.length / 16) && decide (w.length / 16 ≤ 64)

def words (c : Int) : Int := if c = 0 then 2 else if c = 1 then 4 else if c = 2 then 8 else 0
def cellsOfClass (c : Int) : Int := if c = 0 then 8 else if c = 1 then 4 else if c = 2 then 2 else 0
/-- the class of so many fields, and the error -/
def classOf (n : Int) : Int × Int :=
  if n < 1 then (0, 1) else if 63 < n then (0, 2) else (if n + 1 ≤ 2 then 0 else if n + 1 ≤ 4 then 1 else if n + 1 ≤ 8 then 2 else 3, 0)
def classRun (n : Int) : Int × Int :=
  if (classOf n).2 ≠ 0 then (0, (classOf n).2) else if (classOf n).1 < 3 then (0, 3) else (n / 16 + 1, 0)

/-- may a page stand where so many must go on? then: how many must go on behind it -/
def pageStep (rest : Int) (p : Page) : Option Int :=
  if p.kind = 3 then (if rest = 0 || p.arg ≠ 0 then none else some (rest - 1))
  else if p.kind = 0 then (if p.arg ≠ 0 then none else if 0 < rest then none else some rest)
  else if p.kind = 1 then (if 0 ≤ p.arg && p.arg ≤ 2 then (if 0 < rest then none else some rest) else none)
  else if p.kind = 2 then (if 1 ≤ p.arg && p.arg ≤ 4 then (if 0 < rest then none else some (p.arg - 1)) else none)
  else none
def pagesGo : Int → List Page → Option Int
  | r, [] => some r
  | r, p :: l => match pageStep r p with
    | none => none
    | some r' => pagesGo r' l
def pagesMay (l : List Page) : Bool :=
  match pagesGo 0 l with
  | none => false
  | some r => decide (r = 0) && decide (1 ≤ l.length) && decide (l.length ≤ 64)

/-- the cells of the page number i: where each begins, and how many words it has -/
def onPage (i : Nat) (p : Page) : List (Int × Int) :=
  if p.kind = 2 then [(((i : Int) + 1) * 16, p.arg * 16)]
  else if p.kind = 1 then (List.range (cellsOfClass p.arg).toNat).map fun (k : Nat) => (((i : Int) + 1) * 16 + k * words p.arg, words p.arg)
  else []
def allCells (l : List Page) : List (Int × Int) :=
  if pagesMay l then (l.zipIdx.flatMap fun (p, i) => onPage i p) else []
def cellsAll (l : List Page) : List Int := (allCells l).map (·.1)
def first (l : List Page) (p : Int × Int → Bool) : (Int × Int) × Bool :=
  match (allCells l).find? p with
  | some c => (c, true)
  | none => ((0, 0), false)
def room (l : List Page) (a : Int) : Int := (first l (fun c => decide (a = c.1))).1.2
def next (l : List Page) (a : Int) : Int × Bool := ((first l (fun c => decide (a < c.1))).1.1, (first l (fun c => decide (a < c.1))).2)

/-! ### heap -/
def Heap.word (h : Heap) (a : Int) : Int := h.W.getD (a - 16).toNat 0
def Heap.page (h : Heap) (a : Int) : Page := h.P.getD (a / 16 - 1).toNat ⟨0, 0⟩
def Heap.shaped (h : Heap) : Bool := arenaMay h.W && pagesMay h.P && decide (h.W.length = 16 * h.P.length) && decide (h.C.length = h.W.length / 8)
def fits (p : Page) (n : Int) : Bool :=
  if p.kind = 2 then decide ((classRun n).2 = 0) && decide ((classRun n).1 = p.arg)
  else decide ((classOf n).2 = 0) && decide ((classOf n).1 = p.arg)
def Heap.isFree (h : Heap) (c : Int) (a : Int) : Bool :=
  decide (0 < room h.P a) && decide (h.page a = ⟨1, c⟩) && decide (h.word a = 0)
def Heap.listed (h : Heap) (l : Lists) : Bool := l.a.all (h.isFree 0) && l.b.all (h.isFree 1) && l.c.all (h.isFree 2)
def Heap.cellOk (h : Heap) (a : Int) : Bool :=
  unpackOk (h.word a) && (!(unpack (h.word a)).used && decide ((h.page a).kind = 1) || (unpack (h.word a)).used && fits (h.page a) (unpack (h.word a)).n)
def allLists (l : List Lists) : List Int := l.flatMap Lists.all
def apart (l : List Lists) : Bool := decide (allLists l).Nodup
def Heap.may (h : Heap) (caches : List Lists) : Bool :=
  h.shaped && (h.F :: caches).all h.listed && (cellsAll h.P).all h.cellOk && apart (h.F :: caches)
def Heap.head (h : Heap) (a : Int) : Head × Int :=
  if !h.may [] then (.zero, 1)
  else if room h.P a = 0 then (.zero, 3)
  else if !(unpack (h.word a)).used then (.zero, 3)
  else (unpack (h.word a), 0)
def Heap.setW (h : Heap) (a v : Int) : Heap := { h with W := h.W.set (a - 16).toNat v }
def Heap.set (h : Heap) (a : Int) (x : Head) : Heap × Int :=
  if (h.head a).2 ≠ 0 then (.zero, (h.head a).2)
  else if !x.may || !x.used || decide (x.n ≠ (h.head a).1.n) then (.zero, 1)
  else (h.setW a x.pack, 0)

/-! ### regs, hand, shade -/
def inL (n lo hi : Int) : Bool := decide (lo ≤ n) && decide (n ≤ hi)
def Thread.may (t : Thread) : Bool :=
  inL t.stage 0 3 && inL t.root 0 3 && inL t.pc 0 4 && decide (t.do_.length ≤ 200) && (decide (t.pc = 0) || decide (0 < t.do_.length))
def wants (phase : Int) : Int := if phase = 0 then 0 else if phase = 1 then 1 else if phase = 2 then 2 else 3
def answered (c : Col) (t : Thread) : Bool :=
  if wants c.phase = 0 then true
  else if wants c.phase = 1 then decide (t.epoch = c.epoch)
  else if wants c.phase = 2 then decide (t.epoch = c.epoch) && decide (2 ≤ t.stage)
  else decide (t.epoch = c.epoch) && decide (t.stage = wants c.phase)
def asked (c : Col) (t : Thread) : Bool := t.live && t.may && decide (t.pc = 0) && !answered c t
def allAns (c : Col) (l : List Thread) : Bool := l.all fun t => !(t.live && !answered c t)

/-- 0: left out, 1: white, 2: grey, 3: black -/
def colour (c : Col) (x : Head) : Int :=
  if x.old && !c.major || decide (c.epoch < 0) || decide (1048576 < c.epoch) then 0
  else if x.mark < c.epoch then 1
  else if x.done then 3 else 2
def colAt (h : Heap) (c : Col) (a : Int) : Int := if (h.head a).2 ≠ 0 then 0 else colour c (h.head a).1
def white (h : Heap) (c : Col) (a : Int) : Bool := decide (colAt h c a = 1)
def shade (h : Heap) (c : Col) (a : Int) : Heap × Col :=
  if colAt h c a ≠ 1 then (h, c)
  else ((h.set a { (h.head a).1 with mark := c.epoch, done := false }).1,
    if c.work.length < 4 then { c with work := c.work ++ [a] } else { c with over := true })
def Thread.reg (t : Thread) (i : Int) : Int := if i = 0 then t.r0 else if i = 1 then t.r1 else if i = 2 then t.r2 else t.r3
def answer (h : Heap) (c : Col) (t : Thread) : Heap × Col × Thread :=
  if !asked c t then (h, c, t)
  else if t.epoch ≠ c.epoch then (h, c, { t with epoch := c.epoch, stage := 1, root := 0 })
  else if c.phase = 2 then (h, c, { t with stage := 2 })
  else ((shade h c (t.reg t.root)).1, (shade h c (t.reg t.root)).2,
    if t.root + 1 = 4 then { t with root := 0, stage := 3 } else { t with root := t.root + 1 })

/-! ### what is not too great -/
def Lists.light (l : Lists) : Bool := decide (l.a.length ≤ 70) && decide (l.b.length ≤ 70) && decide (l.c.length ≤ 70)
def Heap.few (h : Heap) : Bool := decide (h.W.length ≤ 130) && decide (h.P.length ≤ 9) && decide (h.C.length ≤ 20) && h.F.light
def Thread.few (t : Thread) : Bool := decide (t.do_.length ≤ 220) && t.cache.light
def few15 (h : Heap) (c : Col) (t : Thread) : Bool := h.few && decide (c.work.length ≤ 100) && t.few
end Rp
end

section
namespace Av
open Go Rp

abbrev IV.int (n : Int) : IV := .v (.int .i64 n)
abbrev IV.bool (b : Bool) : IV := .v (.bool b)
abbrev intv (n : Int) : SV := .im (.v (.int .i64 n))
abbrev boolv (b : Bool) : SV := .im (.v (.bool b))

def pageI (p : Page) : List IV := [.int p.kind, .int p.arg]
def opI (p : Opn) : List IV := [.int p.kind, .int p.a, .int p.b, .int p.c]
def ints (l : List Int) : IV := .sl 1 (l.map fun n => [.int n])
def bools (l : List Bool) : IV := .sl 1 (l.map fun n => [.bool n])
def pages (l : List Page) : IV := .sl 2 (l.map pageI)
def opsI (l : List Opn) : IV := .sl 4 (l.map opI)
def listsI (l : Lists) : List IV := [ints l.a, ints l.b, ints l.c]
def headI (h : Head) : List IV := [.bool h.used, .bool h.old, .bool h.done, .int h.n, .int h.born, .int h.mark]
def heapI (h : Heap) : List IV := [ints h.W, pages h.P, ints h.F.a, ints h.F.b, ints h.F.c, bools h.C]
def colI (c : Col) : List IV := [.int c.phase, .int c.epoch, .bool c.major, ints c.work, .bool c.over, .int c.at_, .int c.field, .int c.seek, .int c.card, .bool c.met]
def threadI (t : Thread) : List IV := [.bool t.live, .int t.r0, .int t.r1, .int t.r2, .int t.r3, ints t.cache.a, ints t.cache.b, ints t.cache.c, .int t.epoch, .int t.stage, .int t.root, opsI t.do_, .int t.pc, .int t.x, .int t.y]
def threads (l : List Thread) : IV := .sl 15 (l.map threadI)
def listss (l : List Lists) : IV := .sl 3 (l.map listsI)
def cellI (c : Int × Int) : List IV := [.int c.1, .int c.2]

def aggI (l : List IV) : SV := .agg (l.map .im)
def pageV (p : Page) : SV := aggI (pageI p)
def headV (h : Head) : SV := aggI (headI h)
def listsV (l : Lists) : SV := aggI (listsI l)
def heapV (h : Heap) : SV := aggI (heapI h)
def colV (c : Col) : SV := aggI (colI c)
def threadV (t : Thread) : SV := aggI (threadI t)
def cellV (c : Int × Int) : SV := aggI (cellI c)
end Av
end

section
/- From the readings of a row's arguments to the engine's values. -/
set_option linter.all false
namespace Av
open Go

structure Bk (H : Type) where
  f : DataW H → Nat
  sl : ∀ es sp, es.length ≤ f (.slice es sp)
  el : ∀ es sp e, e ∈ es → f e ≤ f (.slice es sp)
  ag : ∀ ps e, e ∈ ps → f e ≤ f (.agg ps)

def RL (w : World) : List IV → List Value → Prop
  | [], [] => True
  | c :: cs, u :: us => RI (fun _ => False) w c u ∧ RL w cs us
  | _, _ => False
theorem RL.app {w : World} : ∀ {xs ys : List IV} {us vs : List Value}, RL w xs us → RL w ys vs → RL w (xs ++ ys) (us ++ vs)
  | [], _, [], _, _, h => h
  | [], _, _ :: _, _, h, _ => h.elim
  | _ :: _, _, [], _, h, _ => h.elim
  | _ :: xs, _, _ :: us, _, h, k => ⟨h.1, h.2.app k⟩
theorem RL.len {w : World} : ∀ {xs : List IV} {us : List Value}, RL w xs us → xs.length = us.length
  | [], [], _ => rfl
  | [], _ :: _, h => h.elim
  | _ :: _, [], h => h.elim
  | _ :: xs, _ :: us, h => by simp [h.2.len]
theorem RL.get {w : World} : ∀ {xs : List IV} {us : List Value} {j : Nat} {c : IV}, RL w xs us → xs[j]? = some c → ∃ u, us[j]? = some u ∧ RI (fun _ => False) w c u
  | [], [], j, c, _, h => by simp at h
  | [], _ :: _, _, _, h, _ => h.elim
  | _ :: _, [], _, _, h, _ => h.elim
  | x :: xs, u :: us, 0, c, h, e => by simp at e; subst e; exact ⟨u, rfl, h.1⟩
  | x :: xs, u :: us, j + 1, c, h, e => by
    obtain ⟨v, h1, h2⟩ := h.2.get (j := j) (by simpa using e)
    exact ⟨v, by simpa using h1, h2⟩

def Gd (P : Program) (t : TypeId) (s : Nat) (Pd : List IV → Prop) : Prop :=
  ∀ {H : Type} (bk : Bk H) (enc : TypeId × Value → H) (w : World) (base : Nat) (spare : Nat → Bool) (held : Bool) (fuel : Nat) (cs : List Value) (x : DataW H × List MemPlace),
    DataW.trod enc P w base spare held fuel t cs = some x → bk.f x.1 ≤ bigN → cs.length = s ∧ ∃ ivs, Pd ivs ∧ RL w ivs cs

def PInt (k : IntKind) (ivs : List IV) : Prop := ∃ n : Int, k.min ≤ n ∧ n ≤ k.max ∧ ivs = [.v (.int k n)]
def PBool (ivs : List IV) : Prop := ∃ b : Bool, ivs = [.v (.bool b)]
def PSl (s : Nat) (Pe : List IV → Prop) (ivs : List IV) : Prop := ∃ es : List (List IV), es.length ≤ bigN ∧ (∀ r, r ∈ es → Pe r) ∧ ivs = [.sl s es]
def Pts : List (List IV → Prop) → List IV → Prop
  | [], ivs => ivs = []
  | P :: Ps, ivs => ∃ p q, P p ∧ Pts Ps q ∧ ivs = p ++ q

theorem Gd.int {P : Program} {t : TypeId} {k : IntKind} (ht : P.underlying t = some (.int k)) : Gd P t 1 (PInt k) := by
  intro H bk enc w base spare held fuel cs x h _
  obtain ⟨n, rfl, _, hw⟩ := DataW.trod_int ht h
  simp only [Lit.wf, Bool.and_eq_true, decide_eq_true_eq] at hw
  exact ⟨rfl, _, ⟨n, hw.1, hw.2, rfl⟩, .v _, trivial⟩
theorem Gd.bool {P : Program} {t : TypeId} (ht : P.underlying t = some .bool) : Gd P t 1 PBool := by
  intro H bk enc w base spare held fuel cs x h _
  obtain ⟨b, rfl, _⟩ := DataW.trod_bool ht h
  exact ⟨rfl, _, ⟨b, rfl⟩, .v _, trivial⟩

theorem cell_lt {w : World} {a : Addr} {v : Value} (h : w.cell? a = some v) : a.block < w.heap.size ∧ a.spot = none := by
  unfold World.cell? at h
  split at h
  · rename_i hh
    refine ⟨(Array.getElem?_eq_some_iff.1 hh).1, ?_⟩
    split at h
    · cases h
    · rename_i hs
      cases hsp : a.spot with
      | none => rfl
      | some n => rw [hsp] at hs; simp at hs
  · cases h

theorem Gd.slice {P : Program} {t e : TypeId} {s : Nat} {Pe : List IV → Prop} (ht : P.underlying t = some (.slice e)) (hc : P.cellsOf e = s) (hs : 0 < s) (he : Gd P e s Pe) : Gd P t 1 (PSl s Pe) := by
  intro H bk enc w base spare held fuel cs x h hb
  rcases Go.Deep.open_slice ht h with ⟨rfl, rfl⟩ | ⟨a, len, cap, m, n, D, Pl, rfl, hbs, hl, hm, hmm, rfl, hx⟩
  · exact ⟨rfl, [.sl s []], ⟨[], Nat.zero_le _, fun r hr => by simp at hr, rfl⟩, .emp _ _ _, trivial⟩
  · have hle : len ≤ m := by rw [hmm]; split <;> omega
    have hlen : len ≤ bigN := by
      have := bk.sl ((List.range len).map D) ((List.range (m - len)).map fun j => D (len + j))
      rw [List.length_map, List.length_range] at this
      exact Nat.le_trans this hb
    obtain ⟨E, hE⟩ := Go.Deep.choose_lt (α := List IV) (n := len) (p := fun i r => Pe r ∧ r.length = s ∧ ∃ cs', w.cells? base (a.add (i * s)) s = some cs' ∧ RL w r cs') (fun i hi => by
      obtain ⟨cs', h1, h2⟩ := hx i (by omega)
      obtain ⟨h3, r, h4, h5⟩ := he bk enc w base spare held n cs' _ h2 (Nat.le_trans (bk.el ((List.range len).map D) ((List.range (m - len)).map fun j => D (len + j)) (D i) (List.mem_map_of_mem (List.mem_range.2 hi))) hb)
      rw [hc] at h1
      exact ⟨r, h4, by rw [h5.len, h3], cs', h1, h5⟩)
    refine ⟨rfl, [.sl s ((List.range len).map E)], ⟨_, by simpa using hlen, fun r hr => ?_, rfl⟩, ?_, trivial⟩
    · obtain ⟨i, hi, rfl⟩ := List.mem_map.1 hr
      exact (hE i (List.mem_range.1 hi)).1
    · rcases Nat.eq_zero_or_pos len with rfl | hpos
      · exact .emp _ _ _
      · have key : ∀ i j c, i < len → (E i)[j]? = some c → ∃ u, w.cell? (a.add (i * s + j)) = some u ∧ RI (fun _ => False) w c u := by
          intro i j c hi hj
          obtain ⟨_, h1, cs', h2, h3⟩ := hE i hi
          obtain ⟨u, hu, hr⟩ := h3.get hj
          obtain ⟨_, h4, h5⟩ := World.cells?_some h2
          have hjs : j < s := by rw [← h1]; exact (List.getElem?_eq_some_iff.1 hj).1
          refine ⟨u, ?_, hr⟩
          rw [← Go.Deep.add_add, h5 j hjs, hu]
        obtain ⟨b, off, sp⟩ := a
        have h0 := (hE 0 hpos).2.1
        obtain ⟨u0, hu0, _⟩ := key 0 0 ((E 0)[0]'(by omega)) hpos (List.getElem?_eq_getElem (by omega))
        have hz : (Addr.add ⟨b, off, sp⟩ (0 * s + 0)) = ⟨b, off, sp⟩ := by simp [Addr.add]
        rw [hz] at hu0
        obtain ⟨hbl, hsp⟩ := cell_lt hu0
        simp only at hbl hsp
        subst hsp
        have ha : ∀ k, (Addr.add ⟨b, off, none⟩ k) = ⟨b, off + k, none⟩ := by
          intro k; simp only [Addr.add]; split
          · rename_i e; subst e; rfl
          · rfl
        have hel : ∀ i r, ((List.range len).map E)[i]? = some r → i < len ∧ r = E i := by
          intro i r hr
          rw [List.getElem?_map, Option.map_eq_some_iff] at hr
          obtain ⟨i', h1, h2⟩ := hr
          obtain ⟨h3, h4⟩ := List.getElem?_eq_some_iff.1 h1
          simp at h3 h4
          subst h4; exact ⟨h3, h2.symm⟩
        have hlr : ((List.range len).map E).length = len := by simp
        have hh := RI.sl (M := fun _ => False) (W := w) (s := s) (es := (List.range len).map E) (b := b) (off := off) (cap := cap) (fun k => (w.cell? ⟨b, off + k, none⟩).getD (.bool false)) hbl (fun h => h) (by rw [hlr]; exact hl) (by rw [hlr]; exact hlen)
          (fun r hr => by obtain ⟨i, hi, rfl⟩ := List.mem_map.1 hr; exact (hE i (List.mem_range.1 hi)).2.1)
          (fun i r j c h1 h2 => by
            obtain ⟨h3, rfl⟩ := hel i r h1
            obtain ⟨u, hu, _⟩ := key i j c h3 h2
            rw [ha] at hu
            simp only [hu, Option.getD_some])
          (fun i r j c h1 h2 => by
            obtain ⟨h3, rfl⟩ := hel i r h1
            obtain ⟨u, hu, hr⟩ := key i j c h3 h2
            rw [ha] at hu
            simp only [hu, Option.getD_some]; exact hr)
        rw [hlr] at hh
        exact hh

theorem parts_of {P : Program} {H : Type} (bk : Bk H) (enc : TypeId × Value → H) (w : World) (base : Nat) (spare : Nat → Bool) (held : Bool) (n : Nat) :
    ∀ (tys : List (TypeId × Nat × (List IV → Prop))) (cs : List Value), cs.length = (tys.map (·.2.1)).sum →
    (∀ i ty, tys[i]? = some ty → ∃ y, DataW.trod enc P w base spare held n ty.1 ((cs.drop ((tys.take i).map (·.2.1)).sum).take ty.2.1) = some y ∧ bk.f y.1 ≤ bigN) →
    (∀ ty, ty ∈ tys → Gd P ty.1 ty.2.1 ty.2.2) → ∃ ivs, Pts (tys.map (·.2.2)) ivs ∧ RL w ivs cs
  | [], cs, hl, _, _ => by
    simp at hl; subst hl; exact ⟨[], rfl, trivial⟩
  | ty :: r, cs, hl, h, hg => by
    obtain ⟨y, h1, h2⟩ := h 0 ty rfl
    simp only [List.take_zero, List.map_nil, List.sum_nil, List.drop_zero] at h1
    obtain ⟨_, p, hp, hr⟩ := hg ty List.mem_cons_self bk enc w base spare held n _ y h1 h2
    simp only [List.map_cons, List.sum_cons] at hl
    obtain ⟨q, hq, hr'⟩ := parts_of bk enc w base spare held n r (cs.drop ty.2.1) (by rw [List.length_drop]; omega) (fun i ty' hi => by
      obtain ⟨y', h3, h4⟩ := h (i + 1) ty' (by simpa using hi)
      refine ⟨y', ?_, h4⟩
      simp only [List.take_succ_cons, List.map_cons, List.sum_cons] at h3
      rw [List.drop_drop]; exact h3) (fun ty' h' => hg ty' (List.mem_cons_of_mem _ h'))
    refine ⟨p ++ q, ⟨p, q, hp, hq, rfl⟩, ?_⟩
    have := hr.app hr'
    rwa [List.take_append_drop] at this

theorem Gd.struct {P : Program} {t : TypeId} {s : Nat} {fs : Array Field} (tys : List (TypeId × Nat × (List IV → Prop))) (ht : P.underlying t = some (.struct fs)) (hc : P.cellsOf t = s)
    (hs : s = (tys.map (·.2.1)).sum) (hf : fs.toList.map (fun f => (f.type, f.offset)) = (List.range tys.length).map fun i => ((tys.map (·.1)).getD i 0, ((tys.take i).map (·.2.1)).sum))
    (hz : ∀ ty, ty ∈ tys → P.cellsOf ty.1 = ty.2.1) (hg : ∀ ty, ty ∈ tys → Gd P ty.1 ty.2.1 ty.2.2) : Gd P t s (Pts (tys.map (·.2.2))) := by
  intro H bk enc w base spare held fuel cs x h hb
  obtain ⟨xs, n, _, rfl, hl, hxl, hx⟩ := DataW.trod_struct ht h
  refine ⟨by rw [hl, hc], parts_of bk enc w base spare held n tys cs (by rw [hl, hc, hs]) (fun i ty hi => ?_) hg⟩
  have hi' : i < tys.length := (List.getElem?_eq_some_iff.1 hi).1
  have hfl : fs.size = tys.length := by have := congrArg List.length hf; simpa using this
  have e := congrArg (fun l => l[i]?) hf
  simp only [List.getElem?_map, List.getElem?_range hi', Option.map_some] at e
  obtain ⟨f, hf1, hf2⟩ := Option.map_eq_some_iff.1 e
  simp only [Prod.mk.injEq] at hf2
  have hty : f.type = ty.1 := by rw [hf2.1]; simp [List.getD, hi]
  have h1 := hx i f (by simpa using hf1)
  rw [hf2.2, hty, hz ty (List.mem_of_getElem? hi)] at h1
  obtain ⟨y, hy⟩ : ∃ y, xs[i]? = some y := ⟨_, List.getElem?_eq_getElem (by omega)⟩
  rw [hy] at h1
  exact ⟨y, h1, Nat.le_trans (bk.ag _ _ (List.mem_map_of_mem (List.mem_of_getElem? hy))) hb⟩

theorem Gd.array {P : Program} {t e : TypeId} {s k : Nat} {Pe : List IV → Prop} (ht : P.underlying t = some (.array k e)) (hc : P.cellsOf t = k * s) (hz : P.cellsOf e = s) (he : Gd P e s Pe) :
    Gd P t (k * s) (Pts (List.replicate k Pe)) := by
  intro H bk enc w base spare held fuel cs x h hb
  obtain ⟨xs, n, _, rfl, hl, hxl, hx⟩ := DataW.trod_array ht h
  have := parts_of bk enc w base spare held n (List.replicate k (e, s, Pe)) cs (by rw [hl, hc]; simp [List.map_replicate, List.sum_replicate_nat]) (fun i ty hi => by
    have hi' : i < k := by have := (List.getElem?_eq_some_iff.1 hi).1; simpa using this
    have hty : ty = (e, s, Pe) := List.eq_of_mem_replicate (List.mem_of_getElem? hi)
    subst hty
    have h1 := hx i hi'
    rw [hz] at h1
    obtain ⟨y, hy⟩ : ∃ y, xs[i]? = some y := ⟨_, List.getElem?_eq_getElem (by omega)⟩
    rw [hy] at h1
    refine ⟨y, ?_, Nat.le_trans (bk.ag _ _ (List.mem_map_of_mem (List.mem_of_getElem? hy))) hb⟩
    rw [List.take_replicate, List.map_replicate, List.sum_replicate_nat, Nat.min_eq_left (by omega)]
    exact h1) (fun ty h => by rw [List.eq_of_mem_replicate h]; exact he)
  rw [List.map_replicate] at this
  exact ⟨by rw [hl, hc], this⟩
end Av
end
