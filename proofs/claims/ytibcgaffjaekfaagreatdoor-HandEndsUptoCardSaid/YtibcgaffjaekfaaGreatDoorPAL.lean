/- Part 12 of 22 of a proof: own engine, contracts and facts. -/
import Derived.Shelf.Slices.CompactI
import Derived.Shelf.Slices.In.SortNone
import Derived.Test.YtibcgaffjaekfaaGreatDoorProg
import Derived.KernelRfl
import Derived.Test.YtibcgaffjaekfaaGreatDoorPAH
import Derived.Test.YtibcgaffjaekfaaGreatDoorPAI
import Derived.Test.YtibcgaffjaekfaaGreatDoorPAK
set_option linter.all false
section
/- Plain facts that the walks lean on. -/
namespace Go.Proofs
open Go Av Rp
def wordsI : List IV := [.int 2, .int 4, .int 8]
theorem words_out {c : Int} (h : c < 0 ∨ 3 ≤ c) : words c = 0 := by unfold words; split; omega; split; omega; split; omega; rfl
theorem words_get {c : Int} (h : 0 ≤ c ∧ c < 3) : (List.map SV.im wordsI)[c.toNat]? = some (intv (words c)) := by
  obtain rfl | rfl | rfl : c = 0 ∨ c = 1 ∨ c = 2 := by omega
  all_goals rfl
theorem words_q (c : Int) : IntKind.i64.wrap ((16 : Int).tdiv (words c)) = (16 : Int).tdiv (words c) := by
  unfold words; split
  · rfl
  · split
    · rfl
    · split <;> rfl
theorem cells_0 {c : Int} (h : words c = 0) : cellsOfClass c = 0 := by
  unfold words at h; unfold cellsOfClass
  split at h; omega; split at h; omega; split at h; omega
  rename_i h1 h2 h3
  rw [if_neg h1, if_neg h2, if_neg h3]
theorem cells_n {c : Int} (h : words c ≠ 0) : cellsOfClass c = (16 : Int).tdiv (words c) := by
  unfold words at h ⊢; unfold cellsOfClass
  split
  · rfl
  · split
    · rfl
    · split
      · rfl
      · rename_i h1 h2 h3; rw [if_neg h1, if_neg h2, if_neg h3] at h; exact absurd rfl h
end Go.Proofs
namespace Go.Proofs
open Go Av Rp
theorem of_1 {n : Int} (h : decide (n < 1) = true) : classOf n = (0, 1) := by simp at h; simp [classOf, h]
theorem of_63 {n : Int} (h : decide (n < 1) = false) (h' : decide (63 < n) = true) : classOf n = (0, 2) := by simp at h h'; simp [classOf, h']; omega
theorem of_ok {n : Int} (h : decide (n < 1) = false) (h' : decide (63 < n) = false) : classOf n = (if IntKind.i64.wrap (n + 1) ≤ 2 then 0 else if IntKind.i64.wrap (n + 1) ≤ 4 then 1 else if IntKind.i64.wrap (n + 1) ≤ 8 then 2 else 3, 0) := by
  simp at h h'
  rw [wrap_id _ (by omega) (by omega)]
  have h1 : ¬ n < 1 := by omega
  have h2 : ¬ 63 < n := by omega
  simp [classOf, h1, h2]
end Go.Proofs
namespace Go.Proofs
open Go Av Rp
theorem drop_cons {α : Type} {l : List α} {i : Nat} {p : α} (hx : l[i]? = some p) : l.drop i = p :: l.drop (i + 1) := by
  obtain ⟨h, e⟩ := List.getElem?_eq_some_iff.1 hx
  rw [List.drop_eq_getElem_cons h, e]
theorem pm_step {l : List Page} {i : Nat} {r r' : Int} {p : Page} (h : pagesGo r (l.drop i) = pagesGo 0 l) (hx : l[i]? = some p) (hs : pageStep r p = some r') : pagesGo r' (l.drop (i + 1)) = pagesGo 0 l := by
  rw [drop_cons hx, pagesGo, hs] at h; exact h
theorem pm_none {l : List Page} {i : Nat} {r : Int} {p : Page} (h : pagesGo r (l.drop i) = pagesGo 0 l) (hx : l[i]? = some p) (hs : pageStep r p = none) : pagesMay l = false := by
  rw [drop_cons hx, pagesGo, hs] at h
  unfold pagesMay; rw [← h]
theorem pm_end {l : List Page} {i : Nat} {r : Int} (h : pagesGo r (l.drop i) = pagesGo 0 l) (hi : l.length ≤ i) : pagesMay l = (decide (r = 0) && inL l.length 1 64) := by
  rw [List.drop_eq_nil_of_le hi, pagesGo] at h
  have e1 : decide (1 ≤ l.length) = decide ((1 : Int) ≤ (l.length : Int)) := by rw [decide_eq_decide]; omega
  have e2 : decide (l.length ≤ 64) = decide ((l.length : Int) ≤ 64) := by rw [decide_eq_decide]; omega
  unfold pagesMay inL; rw [← h]; simp only []; rw [Bool.and_assoc, e1, e2]
end Go.Proofs
namespace Go.Proofs
open Go Av Rp
theorem cells_nat (c : Int) : ∃ N : Nat, cellsOfClass c = (N : Int) ∧ N ≤ 8 := by
  unfold cellsOfClass
  split
  · exact ⟨8, rfl, by omega⟩
  · split
    · exact ⟨4, rfl, by omega⟩
    · split
      · exact ⟨2, rfl, by omega⟩
      · exact ⟨0, rfl, by omega⟩
theorem words_le (c : Int) : 0 ≤ words c ∧ words c ≤ 8 := by
  unfold words
  split
  · omega
  · split
    · omega
    · split <;> omega
end Go.Proofs
namespace Go.Proofs
open Go Av Rp
theorem runS_append {σ α : Type} (step : σ → α → σ × Bool) : ∀ (a b : List α) (s : σ), runS step s (a ++ b) = if (runS step s a).2 = true then runS step (runS step s a).1 b else ((runS step s a).1, false)
  | [], b, s => by simp [runS]
  | x :: a, b, s => by
    simp only [List.cons_append, runS]
    split
    · exact runS_append step a b _
    · simp
theorem hideL_id {L : List Blk} (h : noMarks L = true) : hideL L = L := by
  unfold hideL
  rw [List.map_congr_left (g := id)]
  · simp
  · intro k hk
    have := nomarks h k hk
    cases k <;> first | rfl | simp [Blk.isMark] at this
theorem pagesGo_arg : ∀ (l : List Page) (r r' : Int), pagesGo r l = some r' → ∀ p, p ∈ l → p.kind = 2 → 1 ≤ p.arg ∧ p.arg ≤ 4
  | [], _, _, _, p, hp, _ => by simp at hp
  | q :: l, r, r', h, p, hp, hk => by
    simp only [pagesGo] at h
    split at h
    · cases h
    · rename_i r1 hs
      rcases List.mem_cons.1 hp with rfl | hp
      · unfold pageStep at hs
        simp only [hk, show ¬ ((2 : Int) = 3) by omega, show ¬ ((2 : Int) = 0) by omega, show ¬ ((2 : Int) = 1) by omega, if_false, if_true] at hs
        split at hs
        · rename_i h1; simpa using h1
        · cases hs
      · exact pagesGo_arg l r1 r' h p hp hk
theorem pagesMay_arg {l : List Page} (h : pagesMay l = true) : ∀ p, p ∈ l → p.kind = 2 → 1 ≤ p.arg ∧ p.arg ≤ 4 := by
  unfold pagesMay at h
  split at h
  · cases h
  · rename_i r hr; exact pagesGo_arg l 0 r hr
theorem pagesMay_len {l : List Page} (h : pagesMay l = true) : 1 ≤ l.length ∧ l.length ≤ 64 := by
  unfold pagesMay at h
  split at h
  · cases h
  · simp at h; omega
theorem allCells_on {l : List Page} (h : pagesMay l = true) : allCells l = l.zipIdx.flatMap fun q => onPage q.2 q.1 := by unfold allCells; rw [if_pos h]
theorem allCells_off {l : List Page} (h : pagesMay l = false) : allCells l = [] := by unfold allCells; simp [h]
end Go.Proofs
namespace Go.Proofs
open Go Av Rp
theorem nomark_map {L : List Blk} (h : noMarks L = true) : L.map Blk.isMark = List.replicate L.length false := by
  rw [List.eq_replicate_iff]
  refine ⟨by simp, fun b hb => ?_⟩
  obtain ⟨k, hk, rfl⟩ := List.mem_map.1 hb
  exact nomarks h k hk
end Go.Proofs
namespace Go.Proofs
open Go Av Rp
theorem runS_inv {σ α : Type} (step : σ → α → σ × Bool) : ∀ (I : Nat → σ → Prop) (l : List α) (s : σ), I 0 s → (∀ (j : Nat) (x : α) (s : σ), l[j]? = some x → I j s → (step s x).2 = true → I (j + 1) (step s x).1) →
    (runS step s l).2 = true → I l.length (runS step s l).1
  | I, [], s, h0, _, _ => h0
  | I, x :: l, s, h0, hs, hg => by
    simp only [runS] at hg ⊢
    split at hg
    · rename_i h
      rw [if_pos h]
      have := runS_inv step (fun j s => I (j + 1) s) l (step s x).1 (hs 0 x s rfl h0 h) (fun j y s' hj hI hgo => hs (j + 1) y s' (by simpa using hj) hI hgo) hg
      simpa using this
    · cases hg
end Go.Proofs
namespace Go.Proofs
open Go Av Rp
def headInt : SV → Int
  | .agg (.im (.v (.int _ n)) :: _) => n
  | _ => 0
theorem headInt_cell (c : Int × Int) : headInt (cellV c) = c.1 := rfl
theorem runS_headInt : ∀ (l : List SV) (a : List Int), runS (fun (es : List Int) x => (es ++ [headInt x], true)) a l = (a ++ l.map headInt, true)
  | [], a => by simp [runS]
  | x :: l, a => by simp [runS, runS_headInt l]
theorem onPage_len (i : Nat) (p : Page) : (onPage i p).length ≤ 8 := by
  unfold onPage
  split
  · simp
  · split
    · obtain ⟨N, h1, h2⟩ := cells_nat p.arg
      simp [h1]; omega
    · simp
theorem allCells_len (l : List Page) : (allCells l).length ≤ 512 := by
  cases h : pagesMay l with
  | false => rw [allCells_off h]; simp
  | true =>
    rw [allCells_on h]
    have key : ∀ (q : List (Page × Nat)), (q.flatMap fun q => onPage q.2 q.1).length ≤ 8 * q.length := by
      intro q
      induction q with
      | nil => simp
      | cons x q ih => simp only [List.flatMap_cons, List.length_append, List.length_cons]; have := onPage_len x.2 x.1; omega
    have h1 := key l.zipIdx
    have := (pagesMay_len h).2
    rw [List.length_zipIdx] at h1; omega
end Go.Proofs
namespace Go.Proofs
open Go Av Rp
def cellOf : SV → Int × Int
  | .agg [.im (.v (.int _ n)), .im (.v (.int _ m))] => (n, m)
  | _ => (0, 0)
theorem cellOf_cell (c : Int × Int) : cellOf (cellV c) = c := rfl
def firstStep (p : Int × Int → Bool) (s : Option (Int × Int)) (x : SV) : Option (Int × Int) × Bool := (bif p (cellOf x) then some (cellOf x) else s, !p (cellOf x))
theorem firstStep_cell (p : Int × Int → Bool) (s : Option (Int × Int)) (c : Int × Int) : firstStep p s (cellV c) = (bif p c then some c else s, !p c) := rfl
theorem runS_find (p : Int × Int → Bool) : ∀ (l : List (Int × Int)), runS (firstStep p) none (l.map cellV) = match l.find? p with
    | some c => (some c, false)
    | none => (none, true)
  | [] => rfl
  | c :: l => by
    simp only [List.map_cons, runS, firstStep_cell, List.find?_cons]
    by_cases hp : p c = true
    · simp [hp]
    · have hp' : p c = false := by simpa using hp
      simp only [hp', Bool.not_false, cond_false, if_true]; exact runS_find p l
theorem clL_app {a b : List SV} (ha : clL a = true) (hb : clL b = true) : clL (a ++ b) = true := by
  induction a with
  | nil => exact hb
  | cons x a ih => simp only [List.cons_append, clL, Bool.and_eq_true] at ha ⊢; exact ⟨ha.1, ih ha.2⟩
theorem clL_ims (l : List IV) : clL (l.map .im) = true := by
  induction l with
  | nil => rfl
  | cons x l ih => simp [clL, SV.cl, ih]
theorem clL_call {xs : List SV} (fs caps : List IV) (h : clL xs = true) : clL (fs.map .im ++ xs ++ caps.map .im) = true := clL_app (clL_app (clL_ims fs) h) (clL_ims caps)
end Go.Proofs
namespace Go.Proofs
open Go Av Rp
theorem shaped_w {h : Heap} (h1 : arenaMay h.W = false) : h.shaped = false := by simp [Heap.shaped, h1]
theorem shaped_p {h : Heap} (h1 : arenaMay h.W = true) (h2 : pagesMay h.P = false) : h.shaped = false := by simp [Heap.shaped, h2]
end Go.Proofs
namespace Go.Proofs
open Go Av Rp
theorem arenaMay_len {w : List Int} (h : arenaMay w = true) : w.length % 16 = 0 ∧ 16 ≤ w.length ∧ w.length ≤ 1024 := by
  simp [arenaMay] at h; omega
theorem shaped_l {h : Heap} (h1 : arenaMay h.W = true) (h2 : pagesMay h.P = true) (h3 : decide ((h.W.length : Int) = IntKind.i64.wrap (16 * (h.P.length : Int))) = false) : h.shaped = false := by
  have := arenaMay_len h1
  have := pagesMay_len h2
  rw [wrap_id _ (by omega) (by omega)] at h3
  have h4 : h.W.length ≠ 16 * h.P.length := by simp at h3; omega
  simp [Heap.shaped, h4]
theorem shaped_c {h : Heap} (h1 : arenaMay h.W = true) (h2 : pagesMay h.P = true) (h3 : decide ((h.W.length : Int) = IntKind.i64.wrap (16 * (h.P.length : Int))) = true) : h.shaped = decide ((h.C.length : Int) = IntKind.i64.wrap ((h.W.length : Int).tdiv 8)) := by
  have := arenaMay_len h1
  have := pagesMay_len h2
  rw [wrap_id _ (by omega) (by omega)] at h3
  have h4 : h.W.length = 16 * h.P.length := by simp at h3; omega
  have e : (h.W.length : Int).tdiv 8 = ((h.W.length / 8 : Nat) : Int) := by rw [Int.tdiv_eq_ediv_of_nonneg (by omega)]; omega
  rw [e, wrap_id _ (by omega) (by omega)]
  simp only [Heap.shaped, h1, h2, h4, Bool.true_and, decide_true, Bool.and_true]
  rw [decide_eq_decide]; omega
end Go.Proofs
namespace Go.Proofs
open Go Av Rp
def idxGo {α : Type} (p : α → Bool) : List α → Nat → Int
  | [], _ => -1
  | x :: l, i => if p x = true then i else idxGo p l (i + 1)
def idxOf {α : Type} (p : α → Bool) (l : List α) : Int := idxGo p l 0
theorem idx_step {α : Type} {p : α → Bool} {l : List α} {i : Nat} {x : α} {r : Int} (h : idxGo p (l.drop i) i = r) (hx : l[i]? = some x) (hp : p x = false) : idxGo p (l.drop (i + 1)) (i + 1) = r := by
  rw [drop_cons hx, idxGo, hp] at h; exact h
theorem idx_hit {α : Type} {p : α → Bool} {l : List α} {i : Nat} {x : α} {r : Int} (h : idxGo p (l.drop i) i = r) (hx : l[i]? = some x) (hp : p x = true) : r = i := by
  rw [drop_cons hx, idxGo, hp] at h; exact h.symm
theorem idx_end {α : Type} {p : α → Bool} {l : List α} {i : Nat} {r : Int} (h : idxGo p (l.drop i) i = r) (hi : l.length ≤ i) : r = -1 := by
  rw [List.drop_eq_nil_of_le hi, idxGo] at h; exact h.symm
theorem idxGo_any {α : Type} (p : α → Bool) : ∀ (l : List α) (i : Nat), decide (0 ≤ idxGo p l i) = l.any p
  | [], i => rfl
  | x :: l, i => by
    simp only [idxGo, List.any_cons]
    by_cases h : p x = true
    · simp only [h, if_true, Bool.true_or, decide_eq_true_eq]; omega
    · have h' : p x = false := by simpa using h
      simp only [h', Bool.false_eq_true, if_false, Bool.false_or]; exact idxGo_any p l (i + 1)
theorem not_any_not {α : Type} (p : α → Bool) (l : List α) : (!l.any fun x => !p x) = l.all p := by
  induction l with
  | nil => rfl
  | cons x l ih => simp only [List.any_cons, List.all_cons, Bool.not_or, Bool.not_not, ih]
end Go.Proofs
namespace Go.Proofs
open Go Av Rp
theorem onPage_in {i : Nat} {p : Page} {c : Int × Int} (h : c ∈ onPage i p) (hp : p.kind = 2 → 1 ≤ p.arg ∧ p.arg ≤ 4) : ((i : Int) + 1) * 16 ≤ c.1 ∧ c.1 < ((i : Int) + 2) * 16 ∧ 0 < c.2 := by
  unfold onPage at h
  split at h
  · rename_i hk
    simp only [List.mem_singleton] at h
    subst h
    have := hp hk
    simp only; omega
  · split at h
    · simp only [List.mem_map, List.mem_range] at h
      obtain ⟨k, hk, rfl⟩ := h
      simp only
      have key : ∀ (N w : Nat), cellsOfClass p.arg = (N : Int) → words p.arg = (w : Int) → N * w ≤ 16 → 0 < w → ((i : Int) + 1) * 16 ≤ ((i : Int) + 1) * 16 + (k : Int) * words p.arg ∧ ((i : Int) + 1) * 16 + (k : Int) * words p.arg < ((i : Int) + 2) * 16 ∧ 0 < words p.arg := by
        intro N w h1 h2 h3 h4
        rw [h1] at hk
        rw [h2]
        have hkN : k + 1 ≤ N := by have e : k < N := by simpa using hk
                                   omega
        have : (k + 1) * w ≤ N * w := Nat.mul_le_mul_right _ hkN
        have h5 : k * w + w ≤ 16 := by have e := Nat.succ_mul k w; rw [Nat.succ_eq_add_one] at e; omega
        have h6 : (k : Int) * (w : Int) = ((k * w : Nat) : Int) := by simp
        rw [h6]; omega
      by_cases e0 : p.arg = 0
      · exact key 8 2 (by simp [cellsOfClass, e0]) (by simp [words, e0]) (by omega) (by omega)
      · by_cases e1 : p.arg = 1
        · exact key 4 4 (by simp [cellsOfClass, e1]) (by simp [words, e1]) (by omega) (by omega)
        · by_cases e2 : p.arg = 2
          · exact key 2 8 (by simp [cellsOfClass, e2]) (by simp [words, e2]) (by omega) (by omega)
          · have : cellsOfClass p.arg = 0 := by simp [cellsOfClass, e0, e1, e2]
            rw [this] at hk; simp at hk
    · simp at h
theorem allCells_in {l : List Page} {c : Int × Int} (h : c ∈ allCells l) : 16 ≤ c.1 ∧ c.1 < 16 * ((l.length : Int) + 1) ∧ 0 < c.2 := by
  cases hm : pagesMay l with
  | false => rw [allCells_off hm] at h; simp at h
  | true =>
    rw [allCells_on hm, List.mem_flatMap] at h
    obtain ⟨⟨p, i⟩, hq, hc⟩ := h
    have hx : l[i]? = some p := by rw [List.mem_zipIdx_iff_getElem?] at hq; simpa using hq
    have hil : i < l.length := (List.getElem?_eq_some_iff.1 hx).1
    have := onPage_in hc (pagesMay_arg hm p (List.mem_of_getElem? hx))
    omega
theorem cellsAll_in {l : List Page} {a : Int} (h : a ∈ cellsAll l) : 16 ≤ a ∧ a < 16 * ((l.length : Int) + 1) := by
  unfold cellsAll at h
  obtain ⟨c, hc, rfl⟩ := List.mem_map.1 h
  have := allCells_in hc; omega
theorem room_mem {l : List Page} {a : Int} (h : room l a ≠ 0) : a ∈ cellsAll l := by
  unfold room first at h
  split at h
  · rename_i c hc
    have h1 := List.find?_some hc
    have h2 := List.mem_of_find?_eq_some hc
    simp only [decide_eq_true_eq] at h1
    subst h1
    exact List.mem_map_of_mem h2
  · simp at h
theorem room_nonneg (l : List Page) (a : Int) : 0 ≤ room l a := by
  unfold room first
  split
  · rename_i c hc
    have := allCells_in (List.mem_of_find?_eq_some hc); simp only; omega
  · simp
theorem room_pos {l : List Page} {a : Int} : 0 < room l a ↔ a ∈ cellsAll l := by
  constructor
  · intro h; exact room_mem (by omega)
  · intro h
    unfold cellsAll at h
    obtain ⟨c, hc, rfl⟩ := List.mem_map.1 h
    unfold room first
    cases hf : (allCells l).find? (fun c' => decide (c.1 = c'.1)) with
    | none =>
      rw [List.find?_eq_none] at hf
      have := hf c hc; simp at this
    | some d => have := allCells_in (List.mem_of_find?_eq_some hf); simp only; omega
theorem shaped_dims {h : Heap} (hs : h.shaped = true) : pagesMay h.P = true ∧ h.W.length = 16 * h.P.length ∧ h.C.length = 2 * h.P.length ∧ 1 ≤ h.P.length ∧ h.P.length ≤ 64 := by
  simp only [Heap.shaped, Bool.and_eq_true, decide_eq_true_eq] at hs
  obtain ⟨⟨⟨h1, h2⟩, h3⟩, h4⟩ := hs
  have := pagesMay_len h2
  refine ⟨h2, h3, ?_, this.1, this.2⟩
  omega
theorem cell_range {h : Heap} (hs : h.shaped = true) {a : Int} (ha : a ∈ cellsAll h.P) : 16 ≤ a ∧ a - 16 < h.W.length ∧ a / 16 - 1 < h.P.length ∧ a ≤ 9223372036854775807 := by
  have := cellsAll_in ha
  have := shaped_dims hs
  omega
end Go.Proofs
namespace Go.Proofs
open Go Av Rp
theorem page_eq (p : Page) (k c : Int) : decide (p = ⟨k, c⟩) = (decide (p.kind = k) && decide (p.arg = c)) := by
  obtain ⟨a, b⟩ := p
  rw [Bool.eq_iff_iff]
  simp
end Go.Proofs
namespace Go.Proofs
open Go Av Rp
theorem listed_a {h : Heap} {l : Lists} (h1 : (!l.a.all (h.isFree 0)) = true) : h.listed l = false := by
  have : l.a.all (h.isFree 0) = false := by simpa using h1
  simp only [Heap.listed, this, Bool.false_and]
theorem listed_b {h : Heap} {l : Lists} (h1 : (!l.b.all (h.isFree 1)) = true) : h.listed l = false := by
  have : l.b.all (h.isFree 1) = false := by simpa using h1
  simp only [Heap.listed, this, Bool.false_and, Bool.and_false]
theorem listed_c {h : Heap} {l : Lists} (h1 : (!l.c.all (h.isFree 2)) = true) : h.listed l = false := by
  have : l.c.all (h.isFree 2) = false := by simpa using h1
  simp only [Heap.listed, this, Bool.and_false]
theorem listed_all {h : Heap} {l : Lists} (h1 : (!l.a.all (h.isFree 0)) = false) (h2 : (!l.b.all (h.isFree 1)) = false) (h3 : (!l.c.all (h.isFree 2)) = false) : h.listed l = true := by
  have e1 : l.a.all (h.isFree 0) = true := by simpa using h1
  have e2 : l.b.all (h.isFree 1) = true := by simpa using h2
  have e3 : l.c.all (h.isFree 2) = true := by simpa using h3
  simp only [Heap.listed, e1, e2, e3, Bool.and_self]
end Go.Proofs
namespace Go.Proofs
open Go Av Rp
theorem flat_take {α : Type} (ls : List (List α)) (i : Nat) : (ls.take i).flatten.length ≤ ls.flatten.length := by
  have e : ls.flatten = (ls.take i).flatten ++ (ls.drop i).flatten := by rw [← List.flatten_append, List.take_append_drop]
  rw [e, List.length_append]; omega
theorem oc_intl (l : List Int) : ∀ r, r ∈ (l.map fun n => [IV.int n]) → ∀ c, c ∈ r → oc (.im c) = true := by
  intro r hr c hc
  obtain ⟨n, _, rfl⟩ := List.mem_map.1 hr
  simp only [List.mem_singleton] at hc; subst hc; rfl
end Go.Proofs
namespace Go.Proofs
open Go Av Rp
theorem allLists_take (l : List Lists) (i : Nat) : (allLists (l.take i)).length ≤ (allLists l).length := by
  have e : allLists l = allLists (l.take i) ++ allLists (l.drop i) := by unfold allLists; rw [← List.flatMap_append, List.take_append_drop]
  rw [e, List.length_append]; omega
end Go.Proofs
namespace Go.Proofs
open Go Av Rp
theorem oc_listsl (l : List Lists) : ∀ r, r ∈ l.map listsI → ∀ c, c ∈ r → oc (.im c) = true := by
  intro r hr c hc
  obtain ⟨n, _, rfl⟩ := List.mem_map.1 hr
  simp only [listsI, List.mem_cons, List.not_mem_nil, or_false] at hc
  rcases hc with rfl | rfl | rfl <;> rfl
end Go.Proofs
namespace Go.Proofs
open Go Av Rp
theorem may_shaped {h : Heap} {cs : List Lists} (hm : h.may cs = true) : h.shaped = true := by
  simp only [Heap.may, Bool.and_eq_true] at hm; exact hm.1.1.1
theorem head_range {h : Heap} {a : Int} (h1 : (!h.may []) = false) (h2 : decide (room h.P a = 0) = false) : 16 ≤ a ∧ a - 16 < h.W.length ∧ a / 16 - 1 < h.P.length ∧ a ≤ 9223372036854775807 :=
  cell_range (may_shaped (by simpa using h1)) (room_mem (by simpa using h2))
theorem head_1 {h : Heap} {a : Int} (h1 : (!h.may []) = true) : h.head a = (.zero, 1) := by simp [Heap.head, h1]
theorem head_2 {h : Heap} {a : Int} (h1 : (!h.may []) = false) (h2 : decide (room h.P a = 0) = true) : h.head a = (.zero, 3) := by
  have : room h.P a = 0 := by simpa using h2
  simp [Heap.head, h1, this]
theorem head_3 {h : Heap} {a : Int} (h1 : (!h.may []) = false) (h2 : decide (room h.P a = 0) = false) (h3 : (!(unpack (h.word a)).used) = true) : h.head a = (.zero, 3) := by
  have : room h.P a ≠ 0 := by simpa using h2
  simp [Heap.head, h1, this, h3]
theorem head_ok {h : Heap} {a : Int} (h1 : (!h.may []) = false) (h2 : decide (room h.P a = 0) = false) (h3 : (!(unpack (h.word a)).used) = false) : h.head a = (unpack (h.word a), 0) := by
  have : room h.P a ≠ 0 := by simpa using h2
  simp [Heap.head, h1, this, h3]
end Go.Proofs
namespace Go.Proofs
open Go Av Rp
theorem head_ok_facts {h : Heap} {a : Int} (h1 : (h.head a).2 = 0) : h.may [] = true ∧ a ∈ cellsAll h.P ∧ (h.head a).1 = unpack (h.word a) ∧ (unpack (h.word a)).used = true := by
  unfold Heap.head at h1 ⊢
  split at h1
  · simp at h1
  · rename_i hm
    split at h1
    · simp at h1
    · rename_i hr
      split at h1
      · simp at h1
      · rename_i hu
        rw [if_neg hm, if_neg hr, if_neg hu]
        exact ⟨by simpa using hm, room_mem hr, rfl, by simpa using hu⟩
theorem may_arena {h : Heap} {cs : List Lists} (hm : h.may cs = true) : arenaMay h.W = true := by
  have := may_shaped hm
  simp only [Heap.shaped, Bool.and_eq_true] at this; exact this.1.1.1
theorem put_range {h : Heap} {a : Int} (h1 : (!decide ((h.head a).2 = 0)) = false) : arenaMay h.W = true ∧ 16 ≤ a ∧ a - 16 < h.W.length := by
  obtain ⟨hm, ha, _⟩ := head_ok_facts (h := h) (a := a) (by simpa using h1)
  have := cell_range (may_shaped hm) ha
  exact ⟨may_arena hm, this.1, this.2.1⟩
theorem set_e {h : Heap} {a : Int} {x : Head} (h1 : (!decide ((h.head a).2 = 0)) = true) : h.set a x = (.zero, (h.head a).2) := by
  have : (h.head a).2 ≠ 0 := by simpa using h1
  simp [Heap.set, this]
end Go.Proofs
namespace Go.Proofs
open Go Av Rp
theorem ite_may_t {b : Bool} {e : Int} (h : (!decide ((if b = true then (0 : Int) else 1) = 0)) = true) : b = false := by cases b <;> simp_all
theorem ite_may_f {b : Bool} (h : (!decide ((if b = true then (0 : Int) else 1) = 0)) = false) : b = true := by cases b <;> simp_all
theorem set_1 {h : Heap} {a : Int} {x : Head} (h1 : (!decide ((h.head a).2 = 0)) = false) (h2 : (!decide ((if x.may = true then (0 : Int) else 1) = 0)) = true) : h.set a x = (.zero, 1) := by
  have e1 : (h.head a).2 = 0 := by simpa using h1
  have e2 : x.may = false := ite_may_t (e := 0) h2
  simp [Heap.set, e1, e2]
theorem set_2 {h : Heap} {a : Int} {x : Head} (h1 : (!decide ((h.head a).2 = 0)) = false) (h3 : (!x.used) = true) : h.set a x = (.zero, 1) := by
  have e1 : (h.head a).2 = 0 := by simpa using h1
  have e3 : x.used = false := by simpa using h3
  simp [Heap.set, e1, e3]
theorem set_3 {h : Heap} {a : Int} {x : Head} (h1 : (!decide ((h.head a).2 = 0)) = false) (h4 : (!decide (x.n = (h.head a).1.n)) = true) : h.set a x = (.zero, 1) := by
  have e1 : (h.head a).2 = 0 := by simpa using h1
  have e4 : x.n ≠ (h.head a).1.n := by simpa using h4
  simp [Heap.set, e1, e4]
theorem set_ok {h : Heap} {a : Int} {x : Head} (h1 : (!decide ((h.head a).2 = 0)) = false) (h2 : x.may = true) (h3 : (!x.used) = false) (h4 : (!decide (x.n = (h.head a).1.n)) = false) : h.set a x = (h.setW a x.pack, 0) := by
  have e1 : (h.head a).2 = 0 := by simpa using h1
  have e3 : x.used = true := by simpa using h3
  have e4 : x.n = (h.head a).1.n := by simpa using h4
  simp [Heap.set, e1, h2, e3, e4]
end Go.Proofs
namespace Go.Proofs
open Go Av Rp
theorem shade_no {h : Heap} {c : Col} {a : Int} (h1 : (!decide (colAt h c a = 1)) = true) : shade h c a = (h, c) := by
  have : colAt h c a ≠ 1 := by simpa using h1
  simp [shade, this]
theorem shade_lt {h : Heap} {c : Col} {a : Int} (h1 : (!decide (colAt h c a = 1)) = false) (h2 : decide ((c.work.length : Int) < 4) = true) :
    shade h c a = ((h.set a { (h.head a).1 with mark := c.epoch, done := false }).1, { c with work := c.work ++ [a] }) := by
  have e1 : colAt h c a = 1 := by simpa using h1
  have e2 : c.work.length < 4 := by simp at h2; omega
  simp [shade, e1, e2]
theorem shade_ge {h : Heap} {c : Col} {a : Int} (h1 : (!decide (colAt h c a = 1)) = false) (h2 : decide ((c.work.length : Int) < 4) = false) :
    shade h c a = ((h.set a { (h.head a).1 with mark := c.epoch, done := false }).1, { c with over := true }) := by
  have e1 : colAt h c a = 1 := by simpa using h1
  have e2 : ¬ c.work.length < 4 := by simp at h2; omega
  simp [shade, e1, e2]
end Go.Proofs
end

section
namespace Go.Proofs
open Go.Shelf
def Tryz.lays189_ren : Go.Shelf.Ren := ⟨fun | 189 => 102 | 125 => 114 | 257 => 113 | 128 => 130 | 129 => 131 | 294 => 122 | 295 => 123 | 296 => 124 | 297 => 125 | 298 => 126 | 299 => 127 | 216 => 115 | 300 => 128 | 301 => 129 | 328 => 133 | 329 => 134 | 330 => 135 | 331 => 136 | 332 => 137 | 215 => 132 | 343 => 138 | n => n, fun | 28 => 22 | 3 => 3 | 46 => 113 | 0 => 0 | 51 => 146 | 53 => 148 | 4 => 4 | 183 => 140 | 182 => 139 | 131 => 128 | 5 => 5 | 9 => 9 | 218 => 149 | 222 => 153 | 228 => 155 | 229 => 156 | n => n, fun | n => n⟩
theorem Tryz.lays189 : Go.Proofs.Lays.n189 Tryz.prog Tryz.lays189_ren := {
  mixed := by kernel_rfl
  f125 := Tryz.func114.trans (congrArg some (by kernel_rfl))
  f128 := Tryz.func130.trans (congrArg some (by kernel_rfl))
  f129 := Tryz.func131.trans (congrArg some (by kernel_rfl))
  f189 := Tryz.func102.trans (congrArg some (by kernel_rfl))
  f215 := Tryz.func132.trans (congrArg some (by kernel_rfl))
  f216 := Tryz.func115.trans (congrArg some (by kernel_rfl))
  f257 := Tryz.func113.trans (congrArg some (by kernel_rfl))
  f294 := Tryz.func122.trans (congrArg some (by kernel_rfl))
  f295 := Tryz.func123.trans (congrArg some (by kernel_rfl))
  f296 := Tryz.func124.trans (congrArg some (by kernel_rfl))
  f297 := Tryz.func125.trans (congrArg some (by kernel_rfl))
  f298 := Tryz.func126.trans (congrArg some (by kernel_rfl))
  f299 := Tryz.func127.trans (congrArg some (by kernel_rfl))
  f300 := Tryz.func128.trans (congrArg some (by kernel_rfl))
  f301 := Tryz.func129.trans (congrArg some (by kernel_rfl))
  f328 := Tryz.func133.trans (congrArg some (by kernel_rfl))
  f329 := Tryz.func134.trans (congrArg some (by kernel_rfl))
  f330 := Tryz.func135.trans (congrArg some (by kernel_rfl))
  f331 := Tryz.func136.trans (congrArg some (by kernel_rfl))
  f332 := Tryz.func137.trans (congrArg some (by kernel_rfl))
  f343 := Tryz.func138.trans (congrArg some (by kernel_rfl))
  t0 := Tryz.underlying0
  a0 := Tryz.isAgg0
  z0 := Tryz.sizeOf0
  v0 := Tryz.zeroValue0
  t3 := Tryz.underlying3
  a3 := Tryz.isAgg3
  z3 := Tryz.sizeOf3
  v3 := Tryz.zeroValue3
  t4 := Tryz.underlying4
  a4 := Tryz.isAgg4
  z4 := Tryz.sizeOf4
  v4 := Tryz.zeroValue4
  t5 := Tryz.underlying5
  a5 := Tryz.isAgg5
  z5 := Tryz.sizeOf5
  v5 := Tryz.zeroValue5
  t9 := Tryz.underlying9
  a9 := Tryz.isAgg9
  z9 := Tryz.sizeOf9
  v9 := Tryz.zeroValue9
  t28 := Tryz.underlying22
  a28 := Tryz.isAgg22
  z28 := Tryz.sizeOf22
  v28 := Tryz.zeroValue22
  t46 := Tryz.underlying113
  a46 := Tryz.isAgg113
  z46 := Tryz.sizeOf113
  v46 := Tryz.zeroValue113
  t51 := Tryz.underlying146
  a51 := Tryz.isAgg146
  z51 := Tryz.sizeOf146
  v51 := Tryz.zeroValue146
  t53 := Tryz.underlying148
  a53 := Tryz.isAgg148
  z53 := Tryz.sizeOf148
  v53 := Tryz.zeroValue148
  t131 := Tryz.underlying128
  a131 := Tryz.isAgg128
  z131 := Tryz.sizeOf128
  v131 := Tryz.zeroValue128
  t182 := Tryz.underlying139
  a182 := Tryz.isAgg139
  z182 := Tryz.sizeOf139
  v182 := Tryz.zeroValue139
  t183 := Tryz.underlying140
  a183 := Tryz.isAgg140
  z183 := Tryz.sizeOf140
  v183 := Tryz.zeroValue140
  t218 := Tryz.underlying149
  a218 := Tryz.isAgg149
  z218 := Tryz.sizeOf149
  v218 := Tryz.zeroValue149
  t222 := Tryz.underlying153
  a222 := Tryz.isAgg153
  z222 := Tryz.sizeOf153
  v222 := Tryz.zeroValue153
  t228 := Tryz.underlying155
  a228 := Tryz.isAgg155
  z228 := Tryz.sizeOf155
  v228 := Tryz.zeroValue155
  t229 := Tryz.underlying156
  a229 := Tryz.isAgg156
  z229 := Tryz.sizeOf156
  v229 := Tryz.zeroValue156 }
def Tryz.lays220_ren : Go.Shelf.Ren := ⟨fun | 20 => 103 | n => n, fun | 22 => 22 | 3 => 3 | 4 => 4 | 0 => 0 | n => n, fun | n => n⟩
theorem Tryz.lays220 : Go.Proofs.Lays2.n20 Tryz.prog Tryz.lays220_ren := {
  mixed := by kernel_rfl
  f20 := Tryz.func103.trans (congrArg some (by kernel_rfl))
  t0 := Tryz.underlying0
  a0 := Tryz.isAgg0
  z0 := Tryz.sizeOf0
  v0 := Tryz.zeroValue0
  t3 := Tryz.underlying3
  a3 := Tryz.isAgg3
  z3 := Tryz.sizeOf3
  v3 := Tryz.zeroValue3
  t4 := Tryz.underlying4
  a4 := Tryz.isAgg4
  z4 := Tryz.sizeOf4
  v4 := Tryz.zeroValue4
  t22 := Tryz.underlying22
  a22 := Tryz.isAgg22
  z22 := Tryz.sizeOf22
  v22 := Tryz.zeroValue22
  i3 := by kernel_rfl }
end Go.Proofs
end

section
namespace Go.Proofs
open Go Av Rp
theorem c_slices_Sort (G : Globs) (L : List Blk) (i : Nat) (zs : List Int) (hm : noMarks L = true) (hL : L[i]? = some (.app 1 (intRow zs) 3)) (hz : zs.length ≤ 1000000) :
    ACall Tryz.prog G 102 [.app i] L (fun r L' => r = .tup [] ∧ L' = L.set i (.app 1 (intRow (zs.mergeSort fun x y => decide (x ≤ y))) 3)) :=
  ACall.sort hm hL (by omega) (fun blk off cap zs w h1 h2 h3 => Any.slices_Sort_int Tryz.lays189 blk off cap zs w h1 h2 h3) (fun p cap w => Any.slices_Sort_int_none Tryz.lays189 p cap w)
theorem compact_le (zs : List Int) : (Go.Lib.compact zs).length ≤ zs.length := by
  unfold Go.Lib.compact Go.Lib.compactUpTo
  rw [List.length_map]
  exact Nat.le_trans (List.length_filter_le _ _) (by simp)
theorem c_slices_Compact (G : Globs) (L : List Blk) (i : Nat) (zs : List Int) (hm : noMarks L = true) (hL : L[i]? = some (.app 1 (intRow zs) 3)) (hz : zs.length ≤ 1000000) :
    ACall Tryz.prog G 103 [.app i] L (fun r L' => r = .app L.length ∧ L' = L.set i .dead ++ [.app 1 (intRow (Go.Lib.compact zs)) 3]) :=
  ACall.compact hm hL (by omega) (compact_le zs) (by rintro rfl; rfl) (fun blk off cap w h1 h2 h3 => Any.slices_Compact_int Tryz.lays220 blk off cap zs w h1 h2 h3) (fun p cap w => Any.slices_Compact_int_empty Tryz.lays220 p cap w)

/-! what the two come to -/
theorem compact_len_iff (zs : List Int) : (Go.Lib.compact zs).length = zs.length ↔ ∀ j, j < zs.length → Go.Lib.keeps zs.toArray j = true := by
  constructor
  · intro h j hj
    unfold Go.Lib.compact Go.Lib.compactUpTo at h
    rw [List.length_map] at h
    have h2 : (List.range zs.length).filter (Go.Lib.keeps zs.toArray) = List.range zs.length := by
      rw [List.filter_eq_self]
      intro a ha
      have h3 : ((List.range zs.length).filter (Go.Lib.keeps zs.toArray)).length = (List.range zs.length).length := by rw [h]; simp
      exact List.length_filter_eq_length_iff.1 h3 a ha
    exact (List.filter_eq_self.1 h2) j (List.mem_range.2 hj)
  · intro h; rw [Go.Lib.compact_all zs h]
theorem keeps_iff (zs : List Int) (j : Nat) (hj : j < zs.length) : Go.Lib.keeps zs.toArray j = true ↔ (j = 0 ∨ zs[j] ≠ zs[j - 1]) := by
  unfold Go.Lib.keeps
  rw [decide_eq_true_eq]
  have h1 : zs.toArray[j]! = zs[j] := by simp [hj]
  have h2 : zs.toArray[j - 1]! = zs[j - 1] := by have : j - 1 < zs.length := by omega
                                                 simp [this]
  rw [h1, h2]
theorem sorted_nodup_iff (zs : List Int) (hs : zs.Pairwise (fun x y => x ≤ y)) : (∀ j, (hj : j < zs.length) → (j = 0 ∨ zs[j] ≠ zs[j - 1])) ↔ zs.Nodup := by
  rw [List.pairwise_iff_getElem] at hs
  unfold List.Nodup
  rw [List.pairwise_iff_getElem]
  constructor
  · intro h i j hi hj hij
    have h1 : zs[j - 1] < zs[j] := by
      have e1 := hs (j - 1) j (by omega) hj (by omega)
      have e2 := (h j hj).resolve_left (by omega)
      omega
    rcases Nat.lt_or_ge i (j - 1) with h2 | h2
    · have := hs i (j - 1) hi (by omega) h2; omega
    · have : i = j - 1 := by omega
      subst this; omega
  · intro h j hj
    rcases Nat.eq_zero_or_pos j with h0 | h0
    · exact .inl h0
    · exact .inr (fun e => h (j - 1) j (by omega) hj (by omega) e.symm)
theorem apart_len (zs : List Int) : decide ((Go.Lib.compact (zs.mergeSort fun x y => decide (x ≤ y))).length = zs.length) = decide zs.Nodup := by
  rw [decide_eq_decide]
  have hp := List.mergeSort_perm zs (fun x y => decide (x ≤ y))
  have hl : (zs.mergeSort fun x y => decide (x ≤ y)).length = zs.length := hp.length_eq
  have hs : (zs.mergeSort fun x y => decide (x ≤ y)).Pairwise (fun x y => x ≤ y) := by
    have := List.pairwise_mergeSort (le := fun x y : Int => decide (x ≤ y)) (fun a b c => by simp; omega) (fun a b => by simp; omega) zs
    exact this.imp (by simp)
  rw [← hl, compact_len_iff, ← hp.nodup_iff, ← sorted_nodup_iff _ hs]
  constructor
  · intro h j hj; exact (keeps_iff _ j hj).1 (h j hj)
  · intro h j hj; exact (keeps_iff _ j hj).2 (h j hj)
end Go.Proofs
end

section
/- Plain facts, part 2. -/
namespace Go.Proofs
open Go Av Rp
theorem row_snoc (l : List Int) (a : Int) : IV.sl 1 (intRow l ++ [[.v (.int .i64 a)]]) = ints (l ++ [a]) := by simp [intRow, ints]
end Go.Proofs
namespace Go.Proofs
open Go Av Rp
theorem asked_root {c : Col} {t : Thread} (h : (!asked c t) = false) : 0 ≤ t.root ∧ t.root ≤ 3 := by
  have : asked c t = true := by simpa using h
  simp only [asked, Thread.may, inL, Bool.and_eq_true, decide_eq_true_eq] at this
  omega
theorem reg_get {t : Thread} (h : 0 ≤ t.root ∧ t.root ≤ 3) (x : SV) (r : List SV) : (x :: SV.im (.v (.int .i64 t.r0)) :: SV.im (.v (.int .i64 t.r1)) :: SV.im (.v (.int .i64 t.r2)) :: SV.im (.v (.int .i64 t.r3)) :: r)[1 + t.root.toNat]? = some (intv (t.reg t.root)) := by
  obtain h0 | h0 | h0 | h0 : t.root = 0 ∨ t.root = 1 ∨ t.root = 2 ∨ t.root = 3 := by omega
  all_goals (rw [h0]; rfl)
theorem ans_no {h : Heap} {c : Col} {t : Thread} (h1 : (!asked c t) = true) : answer h c t = (h, c, t) := by
  unfold answer; rw [if_pos h1]
theorem ans_ep {h : Heap} {c : Col} {t : Thread} (h1 : (!asked c t) = false) (h2 : (!decide (t.epoch = c.epoch)) = true) : answer h c t = (h, c, { t with epoch := c.epoch, stage := 1, root := 0 }) := by
  unfold answer; rw [if_neg (by simpa using h1), if_pos (by simpa using h2)]
theorem ans_se {h : Heap} {c : Col} {t : Thread} (h1 : (!asked c t) = false) (h2 : (!decide (t.epoch = c.epoch)) = false) (h3 : decide (c.phase = 2) = true) : answer h c t = (h, c, { t with stage := 2 }) := by
  unfold answer; rw [if_neg (by simpa using h1), if_neg (by simpa using h2), if_pos (by simpa using h3)]
theorem ans_4 {h : Heap} {c : Col} {t : Thread} (h1 : (!asked c t) = false) (h2 : (!decide (t.epoch = c.epoch)) = false) (h3 : decide (c.phase = 2) = false) (h4 : decide (t.root + 1 = 4) = true) :
    answer h c t = ((shade h c (t.reg t.root)).1, (shade h c (t.reg t.root)).2, { t with root := 0, stage := 3 }) := by
  unfold answer; rw [if_neg (by simpa using h1), if_neg (by simpa using h2), if_neg (by simpa using h3), if_pos (by simpa using h4)]
theorem ans_5 {h : Heap} {c : Col} {t : Thread} (h1 : (!asked c t) = false) (h2 : (!decide (t.epoch = c.epoch)) = false) (h3 : decide (c.phase = 2) = false) (h4 : decide (t.root + 1 = 4) = false) :
    answer h c t = ((shade h c (t.reg t.root)).1, (shade h c (t.reg t.root)).2, { t with root := t.root + 1 }) := by
  unfold answer; rw [if_neg (by simpa using h1), if_neg (by simpa using h2), if_neg (by simpa using h3), if_neg (by simpa using h4)]
end Go.Proofs
namespace Go.Proofs
open Go Av Rp
theorem all1_t {c : Col} {t : Thread} (h : t.live = true) : (t.live && !answered c t) = !answered c t := by rw [h]; rfl
theorem all1_f {c : Col} {t : Thread} (h : t.live = false) : (t.live && !answered c t) = false := by rw [h]; rfl
theorem allAns_any (c : Col) (l : List Thread) : allAns c l = !l.any fun t => t.live && !answered c t := by
  unfold allAns
  induction l with
  | nil => rfl
  | cons x l ih => simp only [List.any_cons, List.all_cons, Bool.not_or, ih]
end Go.Proofs
namespace Go.Proofs
open Go Av Rp
section
variable {α : Type} [DecidableEq α] {a b : List α}
theorem eql_len (h : (!decide ((a.length : Int) = (b.length : Int))) = true) : decide (a = b) = false := by
  have h' : a.length ≠ b.length := by intro e; simp [e] at h
  exact decide_eq_false fun e => h' (by rw [e])
theorem eql_len' (h : (!decide ((a.length : Int) = (b.length : Int))) = false) : a.length = b.length := by
  have : (a.length : Int) = (b.length : Int) := by simpa using h
  omega
theorem eql_step {i : Nat} {x y : α} {v : Bool} (h : v = decide (a.drop i = b.drop i)) (hx : a[i]? = some x) (hy : b[i]? = some y) (e : x = y) : v = decide (a.drop (i + 1) = b.drop (i + 1)) := by
  rw [h, drop_cons hx, drop_cons hy, e, decide_eq_decide]; simp
theorem eql_ne {i : Nat} {x y : α} {v : Bool} (h : v = decide (a.drop i = b.drop i)) (hx : a[i]? = some x) (hy : b[i]? = some y) (e : x ≠ y) : v = false := by
  rw [h, drop_cons hx, drop_cons hy]; exact decide_eq_false fun h => e (by injection h)
theorem eql_end {i : Nat} {v : Bool} (h : v = decide (a.drop i = b.drop i)) (ha : a.length ≤ i) (hb : b.length ≤ i) : v = true := by
  rw [h, List.drop_eq_nil_of_le ha, List.drop_eq_nil_of_le hb]; simp
end
theorem page_ne (p q : Page) : (decide (p.kind = q.kind) && decide (p.arg = q.arg)) = decide (p = q) := by
  obtain ⟨a, b⟩ := p; obtain ⟨c, d⟩ := q
  rw [Bool.eq_iff_iff]; simp
theorem opn_ne (p q : Opn) : (decide (p.kind = q.kind) && decide (p.a = q.a) && decide (p.b = q.b) && decide (p.c = q.c)) = decide (p = q) := by
  obtain ⟨a, b, c, d⟩ := p; obtain ⟨a', b', c', d'⟩ := q
  rw [Bool.eq_iff_iff]; simp [and_assoc]
end Go.Proofs
namespace Go.Proofs
open Go Av Rp
theorem lists_eq (x y : Lists) : decide (x = y) = (decide (x.a = y.a) && decide (x.b = y.b) && decide (x.c = y.c)) := by
  obtain ⟨a, b, c⟩ := x; obtain ⟨a', b', c'⟩ := y
  rw [Bool.eq_iff_iff]; simp [and_assoc]
theorem col_eq (x y : Col) : decide (x = y) = (decide (x.work = y.work) && (decide (x.phase = y.phase) && decide (x.epoch = y.epoch) && (x.major == y.major) && (x.over == y.over)) && decide (x.at_ = y.at_) && decide (x.field = y.field) && decide (x.seek = y.seek) && decide (x.card = y.card) && (x.met == y.met)) := by
  obtain ⟨a1, a2, a3, a4, a5, a6, a7, a8, a9, a10⟩ := x; obtain ⟨b1, b2, b3, b4, b5, b6, b7, b8, b9, b10⟩ := y
  rw [Bool.eq_iff_iff]; simp; grind
theorem heap_eq (x y : Heap) : decide (x = y) = (decide (x.W = y.W) && decide (x.P = y.P) && decide (x.F = y.F) && decide (x.C = y.C)) := by
  obtain ⟨a1, a2, a3, a4⟩ := x; obtain ⟨b1, b2, b3, b4⟩ := y
  rw [Bool.eq_iff_iff]; simp [and_assoc]
theorem thread_eq (x y : Thread) : decide (x = y) = (decide (x.cache = y.cache) && ((x.live == y.live) && (decide (x.r0 = y.r0) && decide (x.r1 = y.r1) && decide (x.r2 = y.r2) && decide (x.r3 = y.r3)) && decide (x.epoch = y.epoch) && decide (x.stage = y.stage) && decide (x.root = y.root)) && decide (x.pc = y.pc) && decide (x.x = y.x) && decide (x.y = y.y) && decide (x.do_ = y.do_)) := by
  obtain ⟨a1, a2, a3, a4, a5, a6, a7, a8, a9, a10, a11, a12, a13⟩ := x; obtain ⟨b1, b2, b3, b4, b5, b6, b7, b8, b9, b10, b11, b12, b13⟩ := y
  rw [Bool.eq_iff_iff]; simp; grind
end Go.Proofs
namespace Go.Proofs
open Go Av Rp
theorem thr_do {x y : Thread} (h : decide (x.do_ = y.do_) = false) : decide (x = y) = false := by
  have h' : x.do_ ≠ y.do_ := of_decide_eq_false h
  exact decide_eq_false fun e => h' (by rw [e])
theorem thr_len {x y : Thread} (h : (!decide ((x.do_.length : Int) = (y.do_.length : Int))) = true) : decide (x = y) = false := thr_do (eql_len h)
theorem thr_ne {x y : Thread} {i : Nat} {u v : Opn} (h : decide (x.do_ = y.do_) = decide (x.do_.drop i = y.do_.drop i)) (hx : x.do_[i]? = some u) (hy : y.do_[i]? = some v) (e : u ≠ v) : decide (x = y) = false := thr_do (eql_ne h hx hy e)
end Go.Proofs
namespace Go.Proofs
open Go Av Rp
theorem zeros (m k : Nat) (h : m = k) : IV.sl 1 (List.replicate m ([Value.int .i64 0].map .v)) = ints (List.replicate k 0) := by
  subst h; rw [ints, List.map_replicate]; rfl
theorem falses (m k : Nat) (h : m = k) : IV.sl 1 (List.replicate m ([Value.bool false].map .v)) = bools (List.replicate k false) := by
  subst h; rw [bools, List.map_replicate]; rfl
theorem pages0 (m k : Nat) (h : m = k) : IV.sl 2 (List.replicate m ([Value.int .i64 0, Value.int .i64 0].map .v)) = pages (List.replicate k ⟨0, 0⟩) := by
  subst h; rw [pages, List.map_replicate]; rfl
def heap0 (n : Nat) : Heap := ⟨List.replicate (16 * n) 0, List.replicate n ⟨0, 0⟩, ⟨[], [], []⟩, List.replicate (2 * n) false⟩
end Go.Proofs
namespace Go.Proofs
open Go Av Rp
theorem newCards (n : Int) (h : 1 ≤ n ∧ n ≤ 64) : IntKind.i64.wrap (Int.tdiv ((16 * n.toNat : Nat) : Int) 8) = 2 * n := by
  rw [show ((16 * n.toNat : Nat) : Int) = 8 * (2 * n) by omega, Int.mul_tdiv_cancel_left _ (by decide), wrap_id _ (by omega) (by omega)]
end Go.Proofs
namespace Go.Proofs
open Go Av Rp
def col1 : Col := ⟨1, 1, false, [], false, 0, 0, 0, 0, false⟩
def thr1 : Thread := ⟨true, 0, 0, 0, 0, ⟨[], [], []⟩, 0, 0, 0, [], 0, 0, 0⟩
theorem answer1 : answer (heap0 1) col1 thr1 = (heap0 1, col1, { thr1 with epoch := 1, stage := 1 }) := by decide
theorem asked1 : asked col1 thr1 = true := by decide
theorem allAns1 : allAns col1 [{ thr1 with epoch := 1, stage := 1 }] = true := by decide
theorem allAns2 : allAns col1 [{ thr1 with epoch := 1, stage := 1 }, thr1] = false := by decide
end Go.Proofs
namespace Go.Proofs
open Go Av Rp
theorem few_F {h : Heap} {c : Col} {t : Thread} (hf : few15 h c t = true) : h.F.all.length ≤ 1000000 ∧ c.work.length ≤ 1000000 := by
  simp only [few15, Heap.few, Lists.light, Bool.and_eq_true, decide_eq_true_eq] at hf
  simp only [Lists.all, List.length_append]
  omega
theorem st_pc {c : Col} {t : Thread} (h : asked c t = true) : t.live = true ∧ t.pc = 0 ∧ answered c t = false := by
  simp only [asked, Bool.and_eq_true, decide_eq_true_eq, Bool.not_eq_true'] at h
  exact ⟨h.1.1.1, h.1.2, h.2⟩
theorem st_1 {c : Col} {t : Thread} (h : asked c t = true) (h1 : decide (c.phase = 0) = true) : False := by
  have h2 := (st_pc h).2.2
  have h3 : c.phase = 0 := of_decide_eq_true h1
  simp [answered, wants, h3] at h2
theorem st_2 {c : Col} {t : Thread} (h : asked c t = true) (h1 : (!decide (t.pc = 0)) = true) : False := by
  rw [(st_pc h).2.1] at h1; simp at h1
theorem st_3 {c : Col} {t : Thread} (h : asked c t = true) (h1 : (!t.live) = true) : False := by
  rw [(st_pc h).1] at h1; simp at h1
theorem st_4 {c : Col} {t : Thread} (h : asked c t = true) (h1 : allAns c [t] = true) : False := by
  simp [allAns, (st_pc h).1, (st_pc h).2.2] at h1
theorem st_0 {h : Heap} {c : Col} {t : Thread} (h1 : asked c t = false) : answer h c t = (h, c, t) := ans_no (by rw [h1]; rfl)
end Go.Proofs
end

section
/- The arguments' readings, by type. -/
set_option linter.all false
set_option maxRecDepth 20000
namespace Av
open Go Rp
def rg (n : Int) : Prop := -9223372036854775808 ≤ n ∧ n ≤ 9223372036854775807
theorem map_of {α β : Type} {Q : α → Prop} {g : α → β} : ∀ {es : List β}, (∀ r, r ∈ es → ∃ a, Q a ∧ r = g a) → ∃ l : List α, (∀ a, a ∈ l → Q a) ∧ es = l.map g
  | [], _ => ⟨[], fun a h => by simp at h, rfl⟩
  | r :: es, h => by
    obtain ⟨a, h1, rfl⟩ := h r List.mem_cons_self
    obtain ⟨l, h2, rfl⟩ := map_of fun r hr => h r (List.mem_cons_of_mem _ hr)
    exact ⟨a :: l, fun b hb => (List.mem_cons.1 hb).elim (fun e => e ▸ h1) (h2 b), rfl⟩
theorem sl_of {α : Type} {s : Nat} {Pe : List IV → Prop} {Q : α → Prop} {g : α → List IV} (hp : ∀ r, Pe r → ∃ a, Q a ∧ r = g a) {ivs : List IV} (h : PSl s Pe ivs) : ∃ l : List α, (∀ a, a ∈ l → Q a) ∧ l.length ≤ bigN ∧ ivs = [.sl s (l.map g)] := by
  obtain ⟨es, h1, h2, rfl⟩ := h
  obtain ⟨l, h3, rfl⟩ := map_of fun r hr => hp r (h2 r hr)
  exact ⟨l, h3, by simpa using h1, rfl⟩
theorem int_of {r : List IV} (h : PInt .i64 r) : ∃ n, rg n ∧ r = [.int n] := by
  obtain ⟨n, h1, h2, rfl⟩ := h
  exact ⟨n, ⟨h1, h2⟩, rfl⟩
theorem bool_of {r : List IV} (h : PBool r) : ∃ b : Bool, True ∧ r = [.bool b] := by
  obtain ⟨b, rfl⟩ := h
  exact ⟨b, trivial, rfl⟩
def Page.rg (p : Page) : Prop := Av.rg p.kind ∧ Av.rg p.arg
def Opn.rg (p : Opn) : Prop := Av.rg p.kind ∧ Av.rg p.a ∧ Av.rg p.b ∧ Av.rg p.c
def rgs (l : List Int) : Prop := (∀ n, n ∈ l → rg n) ∧ l.length ≤ bigN
def Lists.rg (l : Lists) : Prop := rgs l.a ∧ rgs l.b ∧ rgs l.c
theorem page_of {r : List IV} (h : Pts [PInt .i64, PInt .i64] r) : ∃ p : Page, Page.rg p ∧ r = pageI p := by
  obtain ⟨_, _, h1, ⟨_, _, h2, rfl, rfl⟩, rfl⟩ := h
  obtain ⟨a, ha, rfl⟩ := int_of h1
  obtain ⟨b, hb, rfl⟩ := int_of h2
  exact ⟨⟨a, b⟩, ⟨ha, hb⟩, rfl⟩
theorem opn_of {r : List IV} (h : Pts [PInt .i64, PInt .i64, PInt .i64, PInt .i64] r) : ∃ p : Opn, Opn.rg p ∧ r = opI p := by
  obtain ⟨_, _, h1, ⟨_, _, h2, ⟨_, _, h3, ⟨_, _, h4, rfl, rfl⟩, rfl⟩, rfl⟩, rfl⟩ := h
  obtain ⟨a, ha, rfl⟩ := int_of h1
  obtain ⟨b, hb, rfl⟩ := int_of h2
  obtain ⟨c, hc, rfl⟩ := int_of h3
  obtain ⟨d, hd, rfl⟩ := int_of h4
  exact ⟨⟨a, b, c, d⟩, ⟨ha, hb, hc, hd⟩, rfl⟩
theorem ints_of {r : List IV} (h : PSl 1 (PInt .i64) r) : ∃ l : List Int, rgs l ∧ r = [ints l] := by
  obtain ⟨l, h1, h2, rfl⟩ := sl_of (fun r hr => int_of hr) h
  exact ⟨l, ⟨h1, h2⟩, rfl⟩
theorem bools_of {r : List IV} (h : PSl 1 PBool r) : ∃ l : List Bool, l.length ≤ bigN ∧ r = [bools l] := by
  obtain ⟨l, h1, h2, rfl⟩ := sl_of (fun r hr => bool_of hr) h
  exact ⟨l, h2, rfl⟩
theorem pages_of {r : List IV} (h : PSl 2 (Pts [PInt .i64, PInt .i64]) r) : ∃ l : List Page, ((∀ p, p ∈ l → Page.rg p) ∧ l.length ≤ bigN) ∧ r = [pages l] := by
  obtain ⟨l, h1, h2, rfl⟩ := sl_of (fun r hr => page_of hr) h
  exact ⟨l, ⟨h1, h2⟩, rfl⟩
theorem ops_of {r : List IV} (h : PSl 4 (Pts [PInt .i64, PInt .i64, PInt .i64, PInt .i64]) r) : ∃ l : List Opn, ((∀ p, p ∈ l → Opn.rg p) ∧ l.length ≤ bigN) ∧ r = [opsI l] := by
  obtain ⟨l, h1, h2, rfl⟩ := sl_of (fun r hr => opn_of hr) h
  exact ⟨l, ⟨h1, h2⟩, rfl⟩
theorem lists_of {r : List IV} (h : Pts [PSl 1 (PInt .i64), PSl 1 (PInt .i64), PSl 1 (PInt .i64)] r) : ∃ l : Lists, Lists.rg l ∧ r = [ints l.a, ints l.b, ints l.c] := by
  obtain ⟨_, _, h1, ⟨_, _, h2, ⟨_, _, h3, rfl, rfl⟩, rfl⟩, rfl⟩ := h
  obtain ⟨a, ha, rfl⟩ := ints_of h1
  obtain ⟨b, hb, rfl⟩ := ints_of h2
  obtain ⟨c, hc, rfl⟩ := ints_of h3
  exact ⟨⟨a, b, c⟩, ⟨ha, hb, hc⟩, rfl⟩
def Heap.rg (h : Heap) : Prop := rgs h.W ∧ ((∀ p, p ∈ h.P → Page.rg p) ∧ h.P.length ≤ bigN) ∧ Lists.rg h.F ∧ h.C.length ≤ bigN
def Col.rg (c : Col) : Prop := rgs c.work ∧ Av.rg c.phase ∧ Av.rg c.epoch ∧ Av.rg c.at_ ∧ Av.rg c.field ∧ Av.rg c.seek ∧ Av.rg c.card
def Thread.rg (t : Thread) : Prop := (Av.rg t.r0 ∧ Av.rg t.r1 ∧ Av.rg t.r2 ∧ Av.rg t.r3) ∧ Lists.rg t.cache ∧ Av.rg t.epoch ∧ Av.rg t.stage ∧ Av.rg t.root ∧ ((∀ p, p ∈ t.do_ → Opn.rg p) ∧ t.do_.length ≤ bigN) ∧ Av.rg t.pc ∧ Av.rg t.x ∧ Av.rg t.y
abbrev PI := PInt .i64
abbrev PIs := PSl 1 PI
abbrev PLs := Pts [PIs, PIs, PIs]
theorem heap_of {r : List IV} (h : Pts [PIs, PSl 2 (Pts [PI, PI]), PLs, PSl 1 PBool] r) : ∃ h : Heap, Heap.rg h ∧ r = heapI h := by
  obtain ⟨_, _, h1, ⟨_, _, h2, ⟨_, _, h3, ⟨_, _, h4, rfl, rfl⟩, rfl⟩, rfl⟩, rfl⟩ := h
  obtain ⟨a, ha, rfl⟩ := ints_of h1
  obtain ⟨b, hb, rfl⟩ := pages_of h2
  obtain ⟨c, hc, rfl⟩ := lists_of h3
  obtain ⟨d, hd, rfl⟩ := bools_of h4
  exact ⟨⟨a, b, c, d⟩, ⟨ha, hb, hc, hd⟩, rfl⟩
theorem col_of {r : List IV} (h : Pts [PI, PI, PBool, PIs, PBool, PI, PI, PI, PI, PBool] r) : ∃ c : Col, Col.rg c ∧ r = colI c := by
  obtain ⟨_, _, h1, ⟨_, _, h2, ⟨_, _, h3, ⟨_, _, h4, ⟨_, _, h5, ⟨_, _, h6, ⟨_, _, h7, ⟨_, _, h8, ⟨_, _, h9, ⟨_, _, h10, rfl, rfl⟩, rfl⟩, rfl⟩, rfl⟩, rfl⟩, rfl⟩, rfl⟩, rfl⟩, rfl⟩, rfl⟩ := h
  obtain ⟨a1, b1, rfl⟩ := int_of h1
  obtain ⟨a2, b2, rfl⟩ := int_of h2
  obtain ⟨a3, b3, rfl⟩ := bool_of h3
  obtain ⟨a4, b4, rfl⟩ := ints_of h4
  obtain ⟨a5, b5, rfl⟩ := bool_of h5
  obtain ⟨a6, b6, rfl⟩ := int_of h6
  obtain ⟨a7, b7, rfl⟩ := int_of h7
  obtain ⟨a8, b8, rfl⟩ := int_of h8
  obtain ⟨a9, b9, rfl⟩ := int_of h9
  obtain ⟨a10, b10, rfl⟩ := bool_of h10
  exact ⟨⟨a1, a2, a3, a4, a5, a6, a7, a8, a9, a10⟩, ⟨b4, b1, b2, b6, b7, b8, b9⟩, rfl⟩
abbrev PThr : List (List IV → Prop) := [PBool, Pts [PI, PI, PI, PI], PLs, PI, PI, PI, PSl 4 (Pts [PI, PI, PI, PI]), PI, PI, PI]
theorem thread_of {r : List IV} (h : Pts PThr r) : ∃ t : Thread, Thread.rg t ∧ r = threadI t := by
  obtain ⟨_, _, h1, ⟨_, _, h2, ⟨_, _, h3, ⟨_, _, h4, ⟨_, _, h5, ⟨_, _, h6, ⟨_, _, h7, ⟨_, _, h8, ⟨_, _, h9, ⟨_, _, h10, rfl, rfl⟩, rfl⟩, rfl⟩, rfl⟩, rfl⟩, rfl⟩, rfl⟩, rfl⟩, rfl⟩, rfl⟩ := h
  obtain ⟨_, _, g1, ⟨_, _, g2, ⟨_, _, g3, ⟨_, _, g4, rfl, rfl⟩, rfl⟩, rfl⟩, rfl⟩ := h2
  obtain ⟨a1, b1, rfl⟩ := bool_of h1
  obtain ⟨r0, s0, rfl⟩ := int_of g1
  obtain ⟨r1, s1, rfl⟩ := int_of g2
  obtain ⟨r2, s2, rfl⟩ := int_of g3
  obtain ⟨r3, s3, rfl⟩ := int_of g4
  obtain ⟨a3, b3, rfl⟩ := lists_of h3
  obtain ⟨a4, b4, rfl⟩ := int_of h4
  obtain ⟨a5, b5, rfl⟩ := int_of h5
  obtain ⟨a6, b6, rfl⟩ := int_of h6
  obtain ⟨a7, b7, rfl⟩ := ops_of h7
  obtain ⟨a8, b8, rfl⟩ := int_of h8
  obtain ⟨a9, b9, rfl⟩ := int_of h9
  obtain ⟨a10, b10, rfl⟩ := int_of h10
  exact ⟨⟨a1, r0, r1, r2, r3, a3, a4, a5, a6, a7, a8, a9, a10⟩, ⟨⟨s0, s1, s2, s3⟩, b3, b4, b5, b6, b7, b8, b9, b10⟩, rfl⟩
end Av
end

section
/- The seat's types, as the arguments' readings give them. -/
set_option linter.all false
set_option maxRecDepth 20000
namespace Go.Proofs
open Go Av Rp
theorem co3 : Tryz.prog.cellsOf 3 = 1 := by kernel_rfl
theorem co4 : Tryz.prog.cellsOf 4 = 1 := by kernel_rfl
theorem co22 : Tryz.prog.cellsOf 22 = 1 := by kernel_rfl
theorem co23 : Tryz.prog.cellsOf 23 = 1 := by kernel_rfl
theorem co25 : Tryz.prog.cellsOf 25 = 3 := by kernel_rfl
theorem co26 : Tryz.prog.cellsOf 26 = 1 := by kernel_rfl
theorem co28 : Tryz.prog.cellsOf 28 = 6 := by kernel_rfl
theorem co30 : Tryz.prog.cellsOf 30 = 10 := by kernel_rfl
theorem co31 : Tryz.prog.cellsOf 31 = 4 := by kernel_rfl
theorem co32 : Tryz.prog.cellsOf 32 = 1 := by kernel_rfl
theorem co34 : Tryz.prog.cellsOf 34 = 15 := by kernel_rfl
theorem co64 : Tryz.prog.cellsOf 64 = 4 := by kernel_rfl
theorem co80 : Tryz.prog.cellsOf 80 = 2 := by kernel_rfl
theorem gd3 : Gd Tryz.prog 3 1 PI := Gd.int Tryz.underlying3
theorem gd4 : Gd Tryz.prog 4 1 PBool := Gd.bool Tryz.underlying4
theorem gd22 : Gd Tryz.prog 22 1 PIs := Gd.slice Tryz.underlying22 co3 (by decide) gd3
theorem gd26 : Gd Tryz.prog 26 1 (PSl 1 PBool) := Gd.slice Tryz.underlying26 co4 (by decide) gd4
theorem gd80 : Gd Tryz.prog 80 2 (Pts [PI, PI]) :=
  Gd.struct [(3, 1, PI), (3, 1, PI)] Tryz.underlying80 co80 rfl (by rfl) (by simp [co3]) (by simp [gd3])
theorem gd64 : Gd Tryz.prog 64 4 (Pts [PI, PI, PI, PI]) :=
  Gd.struct [(3, 1, PI), (3, 1, PI), (3, 1, PI), (3, 1, PI)] Tryz.underlying64 co64 rfl (by rfl) (by simp [co3]) (by simp [gd3])
theorem gd23 : Gd Tryz.prog 23 1 (PSl 2 (Pts [PI, PI])) := Gd.slice Tryz.underlying23 co80 (by decide) gd80
theorem gd32 : Gd Tryz.prog 32 1 (PSl 4 (Pts [PI, PI, PI, PI])) := Gd.slice Tryz.underlying32 co64 (by decide) gd64
theorem gd25 : Gd Tryz.prog 25 3 PLs := Gd.array (k := 3) (s := 1) Tryz.underlying25 co25 co22 gd22
theorem gd31 : Gd Tryz.prog 31 4 (Pts [PI, PI, PI, PI]) := Gd.array (k := 4) (s := 1) Tryz.underlying31 co31 co3 gd3
theorem gd28 : Gd Tryz.prog 28 6 (Pts [PIs, PSl 2 (Pts [PI, PI]), PLs, PSl 1 PBool]) :=
  Gd.struct [(22, 1, PIs), (23, 1, PSl 2 (Pts [PI, PI])), (25, 3, PLs), (26, 1, PSl 1 PBool)] Tryz.underlying28 co28 rfl (by rfl)
    (by simp [co22, co23, co25, co26]) (by simp [gd22, gd23, gd25, gd26])
theorem gd30 : Gd Tryz.prog 30 10 (Pts [PI, PI, PBool, PIs, PBool, PI, PI, PI, PI, PBool]) :=
  Gd.struct [(3, 1, PI), (3, 1, PI), (4, 1, PBool), (22, 1, PIs), (4, 1, PBool), (3, 1, PI), (3, 1, PI), (3, 1, PI), (3, 1, PI), (4, 1, PBool)] Tryz.underlying30 co30 rfl (by rfl)
    (by simp [co22, co3, co4]) (by simp [gd22, gd3, gd4])
theorem gd34 : Gd Tryz.prog 34 15 (Pts PThr) :=
  Gd.struct [(4, 1, PBool), (31, 4, Pts [PI, PI, PI, PI]), (25, 3, PLs), (3, 1, PI), (3, 1, PI), (3, 1, PI), (32, 1, PSl 4 (Pts [PI, PI, PI, PI])), (3, 1, PI), (3, 1, PI), (3, 1, PI)] Tryz.underlying34 co34 rfl (by rfl)
    (by simp [co31, co3, co4, co25, co32]) (by simp [gd31, gd3, gd4, gd25, gd32])
theorem gd48 : Gd Tryz.prog 48 1 (PSl 15 (Pts PThr)) := Gd.slice Tryz.underlying48 co34 (by decide) gd34
end Go.Proofs
end
