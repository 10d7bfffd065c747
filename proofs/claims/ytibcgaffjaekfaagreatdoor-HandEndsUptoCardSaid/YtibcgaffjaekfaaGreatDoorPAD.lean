/- Part 4 of 22 of a proof: own engine, contracts and facts. -/
import Derived.LoopNIn
import Derived.Test.YtibcgaffjaekfaaGreatDoorPAC
set_option linter.all false
section
/- The engine, part 11: a region whose order is left open. -/
namespace Av
open Go

/-- what a plan says of an operation: it asks of the frame's blocks at stages lo to hi alone; or it is the change from stage q on -/
inductive Row where
  | flo (lo hi : Nat)
  | eff (q : Nat)

def undefS : SV := .im (.v undef)

/-- one operation, its guard heard; O tells what calls come to -/
def oev (P : Program) (G : Globs) (ops : Array Oper) (O : Nat → Option SV) (i : Nat) (o : Oper) (T : Tm) (L : List Blk) : Option (SV × List Blk) :=
  match o.guard with
  | none => match O i with
    | some x => some (x, L)
    | none => aop P G o.op T L
  | some (j, b) => match yieldsT ops T j with
    | some (.im (.v (.bool b'))) => match b', b with
      | true, true | false, false => match O i with
        | some x => some (x, L)
        | none => aop P G o.op T L
      | true, false | false, true => some (undefS, L)
    | some (.im (.v (.tuple _))) => some (undefS, L)
    | _ => none

/-- the slots when the operations in S are done -/
def tS (S : Nat → Bool) (X : Nat → SV) (T0 : Tm) : List Oper → Nat → Tm
  | [], _ => T0
  | o :: l, i => if S i then (match o.dst with
    | some d => (d, X i) :: tS S X T0 l (i + 1)
    | none => tS S X T0 l (i + 1)) else tS S X T0 l (i + 1)

def dstAt (l : List Oper) (i : Nat) : Option Nat := (l[i]?).bind (·.dst)

theorem get_tS_in {S : Nat → Bool} {X : Nat → SV} {T0 : Tm} : ∀ {l : List Oper} {n j d : Nat}, (∀ j k d, dstAt l j = some d → dstAt l k = some d → j = k) → dstAt l j = some d → S (n + j) = true →
    get (tS S X T0 l n) d = some (X (n + j))
  | [], n, j, d, _, h, _ => by simp [dstAt] at h
  | o :: l, n, 0, d, hu, h, hS => by
    have hd : o.dst = some d := by simpa [dstAt] using h
    simp only [Nat.add_zero] at hS ⊢
    simp only [tS, hS, if_true, hd, get]
  | o :: l, n, j + 1, d, hu, h, hS => by
    have h' : dstAt l j = some d := by simpa [dstAt] using h
    have ih := get_tS_in (S := S) (X := X) (T0 := T0) (l := l) (n := n + 1) (j := j) (d := d)
      (fun a b c ha hb => by have := hu (a + 1) (b + 1) c (by simpa [dstAt] using ha) (by simpa [dstAt] using hb); omega) h' (by rw [show n + 1 + j = n + (j + 1) by omega]; exact hS)
    rw [show n + 1 + j = n + (j + 1) by omega] at ih
    simp only [tS]
    split
    · split
      · rename_i d' hd'
        simp only [get]
        split
        · rename_i e; subst e
          have := hu 0 (j + 1) d' (by simpa [dstAt] using hd') h
          omega
        · exact ih
      · exact ih
    · exact ih

theorem get_tS_out {S : Nat → Bool} {X : Nat → SV} {T0 : Tm} : ∀ {l : List Oper} {n d : Nat}, (∀ j, dstAt l j = some d → S (n + j) = false) → get (tS S X T0 l n) d = get T0 d
  | [], n, d, _ => rfl
  | o :: l, n, d, h => by
    have ih := get_tS_out (S := S) (X := X) (T0 := T0) (l := l) (n := n + 1) (d := d) (fun j hj => by rw [show n + 1 + j = n + (j + 1) by omega]; exact h (j + 1) (by simpa [dstAt] using hj))
    simp only [tS]
    split
    · rename_i hS
      split
      · rename_i d' hd'
        simp only [get]
        split
        · rename_i e; subst e
          have := h 0 (by simpa [dstAt] using hd')
          simp only [Nat.add_zero] at this
          rw [hS] at this; cases this
        · exact ih
      · exact ih
    · exact ih

/-- i must come behind j -/
def behind (l : List Oper) (i j : Nat) : Bool := ((l[i]?).map fun o => o.after.toList.any fun e => Region.binds .any e && e.on == j).getD false

def readsOf (o : Oper) : List Nat := o.op.operands.toList.filterMap fun | .tmp t => some t | _ => none

def rowQ : Row → Option Nat
  | .eff q => some q
  | .flo _ _ => none

/-- the closed conditions on a plan -/
def planOk (l : List Oper) (rows : List Row) (m : Nat) : Bool :=
  let n := l.length
  let is := List.range n
  rows.length == n &&
  is.all (fun i => ((l[i]?).map fun o => o.after.all fun e => !Region.binds .any e || decide (e.on < i)).getD false) &&
  is.all (fun i => is.all fun j => i == j || (dstAt l i).isNone || dstAt l i != dstAt l j) &&
  is.all (fun i => ((l[i]?).map fun o => (readsOf o).all fun r => is.all fun j => dstAt l j != some r || (decide (j < i) && behind l i j)).getD false) &&
  is.all (fun i => ((l[i]?).map fun o => match o.guard with | some (j, _) => decide (j < i) && behind l i j | none => true).getD false) &&
  is.all (fun i => match rows[i]? with
    | some (Row.eff q) => decide (q < m) && is.all fun j => match rows[j]? with
      | some (Row.eff q') => i == j || (q != q' && (decide (q < q') || behind l i j))
      | _ => true
    | some (Row.flo lo hi) => decide (lo ≤ m) && decide (hi ≤ m) && is.all fun j => match rows[j]? with
      | some (Row.eff q) => (q + 1 != lo || behind l i j) && (q != hi || behind l j i)
      | _ => true
    | none => false) &&
  (List.range m).all (fun q => is.any fun i => (rows[i]?).bind rowQ == some q)

/-- the conditions on a plan, as they are used -/
structure PlanOk (l : List Oper) (rows : List Row) (m : Nat) : Prop where
  len : rows.length = l.length
  back : ∀ (i : Nat) (o : Oper) (e : Edge), l[i]? = some o → e ∈ o.after.toList → Region.binds .any e = true → e.on < i
  uniq : ∀ (i j d : Nat), dstAt l i = some d → dstAt l j = some d → i = j
  reads : ∀ (i : Nat) (o : Oper) (r j : Nat), l[i]? = some o → r ∈ readsOf o → dstAt l j = some r → j < i ∧ behind l i j = true
  guard : ∀ (i : Nat) (o : Oper) (j : Nat) (b : Bool), l[i]? = some o → o.guard = some (j, b) → j < i ∧ behind l i j = true
  eff : ∀ (i q : Nat), rows[i]? = some (Row.eff q) → q < m ∧ ∀ (j q' : Nat), rows[j]? = some (Row.eff q') → i ≠ j → q ≠ q' ∧ (q' < q → behind l i j = true)
  flo : ∀ (i lo hi : Nat), rows[i]? = some (Row.flo lo hi) → lo ≤ m ∧ hi ≤ m ∧ ∀ (j q : Nat), rows[j]? = some (Row.eff q) → (q + 1 = lo → behind l i j = true) ∧ (q = hi → behind l j i = true)
  all : ∀ q, q < m → ∃ i : Nat, rows[i]? = some (Row.eff q)

theorem planOk_spec {l : List Oper} {rows : List Row} {m : Nat} (h : planOk l rows m = true) : PlanOk l rows m := by
  unfold planOk at h
  simp only [Bool.and_eq_true, beq_iff_eq, List.all_eq_true, List.mem_range, Bool.or_eq_true] at h
  obtain ⟨⟨⟨⟨⟨⟨h1, h2⟩, h3⟩, h4⟩, h5⟩, h6⟩, h7⟩ := h
  have lt : ∀ {i : Nat} {o : Oper}, l[i]? = some o → i < l.length := fun h => (List.getElem?_eq_some_iff.1 h).1
  have ltr : ∀ {i : Nat} {o : Row}, rows[i]? = some o → i < l.length := fun h => by rw [← h1]; exact (List.getElem?_eq_some_iff.1 h).1
  have ltd : ∀ {i d : Nat}, dstAt l i = some d → i < l.length := fun {i d} h => by
    unfold dstAt at h
    cases hl : l[i]? with
    | none => simp [hl] at h
    | some o => exact lt hl
  refine ⟨h1, ?_, ?_, ?_, ?_, ?_, ?_, ?_⟩
  · intro i o e ho he hb
    have := h2 i (lt ho)
    simp only [ho, Option.map_some, Option.getD_some, Array.all_eq_true_iff_forall_mem] at this
    have := this e (by simpa using he)
    rw [hb] at this; simpa using this
  · intro i j d hi hj
    have := h3 i (ltd hi) j (ltd hj)
    rcases this with (e | e) | e
    · exact e
    · simp [hi] at e
    · simp [hi, hj] at e
  · intro i o r j ho hr hj
    have := h4 i (lt ho)
    simp only [ho, Option.map_some, Option.getD_some, List.all_eq_true, List.mem_range, Bool.or_eq_true, Bool.and_eq_true, decide_eq_true_eq] at this
    rcases this r hr j (ltd hj) with e | e
    · simp [hj] at e
    · exact e
  · intro i o j b ho hg
    have := h5 i (lt ho)
    simpa [ho, hg] using this
  · intro i q hi
    have := h6 i (ltr hi)
    simp only [hi, Bool.and_eq_true, decide_eq_true_eq, List.all_eq_true, List.mem_range] at this
    refine ⟨this.1, fun j q' hj hne => ?_⟩
    have := this.2 j (ltr hj)
    simp only [hj, Bool.or_eq_true, beq_iff_eq, Bool.and_eq_true, bne_iff_ne, decide_eq_true_eq] at this
    rcases this with e | ⟨e1, e2⟩
    · exact absurd e hne
    · exact ⟨e1, fun hlt => e2.resolve_left (by omega)⟩
  · intro i lo hi hr
    have := h6 i (ltr hr)
    simp only [hr, Bool.and_eq_true, decide_eq_true_eq, List.all_eq_true, List.mem_range] at this
    refine ⟨this.1.1, this.1.2, fun j q hj => ?_⟩
    have := this.2 j (ltr hj)
    simp only [hj, Bool.or_eq_true, Bool.and_eq_true, bne_iff_ne, ne_eq] at this
    exact ⟨fun e => this.1.resolve_left (by simpa using e), fun e => this.2.resolve_left (by simpa using e)⟩
  · intro q hq
    have := h7 q hq
    simp only [List.any_eq_true, List.mem_range, beq_iff_eq] at this
    obtain ⟨i, hi, he⟩ := this
    cases hr : rows[i]? with
    | none => simp [hr] at he
    | some r =>
      cases r with
      | eff q' => simp [hr, rowQ] at he; subst he; exact ⟨i, hr⟩
      | flo a b => simp [hr, rowQ] at he

section
variable {C : Cx} {Q : QT}

/-- what is to be shown of an operation under a plan -/
def chkFrom (C : Cx) (ops : Array Oper) (O : Nat → Option SV) (Tf : Tm) (Ls : List (List Blk)) (i : Nat) (o : Oper) (x : SV) : Nat → Nat → Prop
  | 0, _ => True
  | n + 1, k => oev C.P C.G ops O i o Tf (Ls.getD k []) = some (x, Ls.getD k []) ∧ chkFrom C ops O Tf Ls i o x n (k + 1)

def chkAll (C : Cx) (ops : Array Oper) (O : Nat → Option SV) (Tf : Tm) (Ls : List (List Blk)) : List Oper → List Row → List SV → Nat → Prop
  | o :: l, .eff q :: rows, x :: xs, i => oev C.P C.G ops O i o Tf (Ls.getD q []) = some (x, Ls.getD (q + 1) []) ∧ chkAll C ops O Tf Ls l rows xs (i + 1)
  | o :: l, .flo lo hi :: rows, x :: xs, i => chkFrom C ops O Tf Ls i o x (hi + 1 - lo) lo ∧ chkAll C ops O Tf Ls l rows xs (i + 1)
  | [], [], [], _ => True
  | _, _, _, _ => False

theorem chkFrom_get {ops : Array Oper} {O : Nat → Option SV} {Tf : Tm} {Ls : List (List Blk)} {i : Nat} {o : Oper} {x : SV} : ∀ (n k j : Nat), chkFrom C ops O Tf Ls i o x n k → k ≤ j → j < k + n →
    oev C.P C.G ops O i o Tf (Ls.getD j []) = some (x, Ls.getD j [])
  | 0, k, j, _, h1, h2 => by omega
  | n + 1, k, j, h, h1, h2 => by
    rcases Nat.lt_or_ge k j with hlt | hge
    · exact chkFrom_get n (k + 1) j h.2 hlt (by omega)
    · have : j = k := by omega
      subst this; exact h.1

theorem chkAll_get {ops : Array Oper} {O : Nat → Option SV} {Tf : Tm} {Ls : List (List Blk)} : ∀ {l : List Oper} {rows : List Row} {xs : List SV} {n : Nat}, chkAll C ops O Tf Ls l rows xs n →
    xs.length = l.length ∧ ∀ (i : Nat) (o : Oper) (r : Row) (x : SV), l[i]? = some o → rows[i]? = some r → xs[i]? = some x →
      (∀ q, r = Row.eff q → oev C.P C.G ops O (n + i) o Tf (Ls.getD q []) = some (x, Ls.getD (q + 1) [])) ∧
      (∀ lo hi k, r = Row.flo lo hi → lo ≤ k → k ≤ hi → oev C.P C.G ops O (n + i) o Tf (Ls.getD k []) = some (x, Ls.getD k []))
  | [], [], [], n, _ => ⟨rfl, fun i o r x h => by simp at h⟩
  | o :: l, r :: rows, x :: xs, n, h => by
    have hh : chkAll C ops O Tf Ls l rows xs (n + 1) := by cases r <;> exact h.2
    obtain ⟨h1, h2⟩ := chkAll_get hh
    refine ⟨by simp [h1], fun i o' r' x' ho hr hx => ?_⟩
    cases i with
    | zero =>
      simp only [List.getElem?_cons_zero, Option.some.injEq] at ho hr hx
      subst ho hr hx
      refine ⟨?_, ?_⟩
      · rintro q rfl; exact h.1
      · rintro lo hi k rfl h3 h4
        exact chkFrom_get _ _ k h.1 h3 (by omega)
    | succ i =>
      simp only [List.getElem?_cons_succ] at ho hr hx
      have := h2 i o' r' x' ho hr hx
      rw [show n + 1 + i = n + (i + 1) by omega] at this
      exact this
  | [], [], _ :: _, n, h => by simp [chkAll] at h
  | [], _ :: _, _, n, h => by cases h
  | _ :: _, [], _, n, h => by simp [chkAll] at h
  | _ :: _, .eff _ :: _, [], n, h => by simp [chkAll] at h
  | _ :: _, .flo _ _ :: _, [], n, h => by simp [chkAll] at h

theorem behind_listed {l : List Oper} {listed : Array Bool} {i j : Nat} (hi : i ∈ Region.ready .any l.toArray listed) (hb : behind l i j = true) : listed.getD j false = true := by
  unfold Region.ready at hi
  simp only [List.mem_filter, List.mem_range, Bool.and_eq_true] at hi
  obtain ⟨hlt, _, h⟩ := hi
  have hlt' : i < l.length := by simpa using hlt
  simp only [List.getElem?_toArray, List.getElem?_eq_getElem hlt', Option.map_some, Option.getD_some, Array.all_eq_true_iff_forall_mem] at h
  unfold behind at hb
  simp only [List.getElem?_eq_getElem hlt', Option.map_some, Option.getD_some, List.any_eq_true, Bool.and_eq_true, beq_iff_eq] at hb
  obtain ⟨e, he, h1, rfl⟩ := hb
  have := h e (by simpa using he)
  simpa [h1] using this

theorem yielded_tS {ops : Array Oper} {T T' : Tm} {j : Nat} (h : ∀ d, ((ops[j]?).bind (·.dst)) = some d → get T d = get T' d) : yieldsT ops T j = yieldsT ops T' j := by
  unfold yieldsT
  cases hd : (ops[j]?).bind (·.dst) with
  | none => rfl
  | some d => simpa using h d hd

theorem OpTo.oev {ops : Array Oper} {O : Nat → Option SV} {i : Nat} {o : Oper} {T : Tm} {L L' : List Blk} {x : SV} (hi : ops[i]? = some o) (hd : dstOk C.N o.dst = true)
    (hO : ∀ y, O i = some y → OpTo C o T L (fun T' L' => T' = put T o.dst y ∧ L' = L)) (h : Av.oev C.P C.G ops O i o T L = some (x, L'))
    {β : List Gh} {M : Nat → Prop} {a : Act} {W : World} (hc : Conc C.G C.N T L β M a W) {K : Act → World → Prop} {Qx : Exit → Act → World → Prop}
    (hk : ∀ β' M' a' W', Conc C.G C.N (put T o.dst x) L' β' M' a' W' → Step C.K β M L W β' M' L' W' → K a' W') : wpOpIn (FW C.ro) 0 C.P ops Qx i K a W := by
  have run : (match O i with | some y => some (y, L) | none => Av.aop C.P C.G o.op T L) = some (x, L') → OpTo C o T L (fun T' L'' => T' = put T o.dst x ∧ L'' = L') := by
    intro hb
    split at hb
    · rename_i y hy
      simp only [Option.some.injEq, Prod.mk.injEq] at hb
      obtain ⟨rfl, rfl⟩ := hb
      exact hO y hy
    · exact OpTo.aop hd hb
  unfold wpOpIn
  rw [hi]
  simp only []
  unfold Av.oev at h
  split at h
  · rename_i hg
    have hw : Region.wanted o (yielded ops a.tmps) = true := by simp [Region.wanted, hg]
    rw [if_pos hw]
    exact (run h).wp hc fun β' M' a' W' T' L'' ⟨e1, e2⟩ hc' hs' => by subst e1 e2; exact hk β' M' a' W' hc' hs'
  · rename_i j b hg
    split at h
    · rename_i b' hy
      have hyy := yielded_of hc hy
      have pass : b' ≠ b → some (undefS, L) = some (x, L') → (if Region.wanted o (yielded ops a.tmps) = true then Oper.wpIn (FW C.ro) 0 C.P o a W K Qx
          else (∀ f, o.about C.P W a.eval = some f → (FW C.ro).fn f) ∧ K (a.put o.dst undef) W) := by
        intro hne hb
        simp only [Option.some.injEq, Prod.mk.injEq] at hb
        obtain ⟨rfl, rfl⟩ := hb
        have hw : Region.wanted o (yielded ops a.tmps) = false := by simp only [Region.wanted, hg, hyy]; simpa using hne
        rw [if_neg (by simp [hw])]
        exact ⟨fun _ _ => trivial, hk β M _ W (hc.put (dstOk_spec hd) (.im (.v undef))) (Step.refl ..)⟩
      have want : b' = b → (match O i with | some y => some (y, L) | none => Av.aop C.P C.G o.op T L) = some (x, L') → (if Region.wanted o (yielded ops a.tmps) = true then Oper.wpIn (FW C.ro) 0 C.P o a W K Qx
          else (∀ f, o.about C.P W a.eval = some f → (FW C.ro).fn f) ∧ K (a.put o.dst undef) W) := by
        intro he hb
        have hw : Region.wanted o (yielded ops a.tmps) = true := by simp only [Region.wanted, hg, hyy]; simpa using he
        rw [if_pos hw]
        exact (run hb).wp hc fun β' M' a' W' T' L'' ⟨e1, e2⟩ hc' hs' => by subst e1 e2; exact hk β' M' a' W' hc' hs'
      split at h
      · exact want rfl h
      · exact want rfl h
      · exact pass (by simp) h
      · exact pass (by simp) h
    · rename_i vs hy
      have hyy := yielded_of hc hy
      simp only [Option.some.injEq, Prod.mk.injEq] at h
      obtain ⟨rfl, rfl⟩ := h
      have hw : Region.wanted o (yielded ops a.tmps) = false := by simp [Region.wanted, hg, hyy]
      rw [if_neg (by simp [hw])]
      exact ⟨fun _ _ => trivial, hk β M _ W (hc.put (dstOk_spec hd) (.im (.v undef))) (Step.refl ..)⟩
    · cases h

theorem oev_agree {ops : Array Oper} {O : Nat → Option SV} {i : Nat} {o : Oper} {T T' : Tm} {L : List Blk} (ha : ∀ y, y ∈ o.op.operands.toList → aev C.G T y = aev C.G T' y)
    (hg : ∀ j b, o.guard = some (j, b) → yieldsT ops T j = yieldsT ops T' j) : Av.oev C.P C.G ops O i o T L = Av.oev C.P C.G ops O i o T' L := by
  unfold Av.oev
  cases hgg : o.guard with
  | none => simp only [aop_agree ha]
  | some jb => obtain ⟨j, b⟩ := jb; simp only [hg j b hgg, aop_agree ha]

/-- **a region whose order is left open**: where a plan is kept, it comes to what the text's own order does -/
theorem AWp.draws {id : Nat} {l : List Oper} {rows : List Row} {m : Nat} {T0 : Tm} {xs : List SV} {Ls : List (List Blk)} (O : Nat → Option SV) (hm : C.P.follows .mixedOrders = true)
    (hp : planOk l rows m = true) (hd : l.all (fun o => dstOk C.N o.dst) = true)
    (hO : ∀ i o y, l[i]? = some o → O i = some y → ∀ T L, (∀ z, z ∈ o.op.operands.toList → aev C.G T z = aev C.G (tS (fun _ => true) (fun i => xs.getD i .any) T0 l 0) z) → OpTo C o T L (fun T' L' => T' = put T o.dst y ∧ L' = L))
    (hc : chkAll C l.toArray O (tS (fun _ => true) (fun i => xs.getD i .any) T0 l 0) Ls l rows xs 0)
    (hq : Q .normal (tS (fun _ => true) (fun i => xs.getD i .any) T0 l 0) (Ls.getD m [])) : AWp C (.region id l.toArray true) Q T0 (Ls.getD 0 []) := by
  have p := planOk_spec hp
  obtain ⟨hxl, hchk⟩ := chkAll_get hc
  intro β₀ M₀ L₀ W₀ β M a W hcc hss
  refine wpIn_region_any hm ?_
  -- how it stands when the operations in 'listed' are done
  let X : Nat → SV := fun i => xs.getD i .any
  let Tl : Array Bool → Tm := fun listed => tS (fun i => listed.getD i false) X T0 l 0
  have key : ∀ (fuel : Nat) (listed : Array Bool) (k : Nat) (β : List Gh) (M : Nat → Prop) (a : Act) (W : World), listed.size = l.length → k ≤ m →
      (∀ i q, rows[i]? = some (Row.eff q) → (listed.getD i false = true ↔ q < k)) → (listed.toList.filter (fun b => !b)).length ≤ fuel →
      (∀ j i, listed.getD j false = true → behind l j i = true → listed.getD i false = true) → Conc C.G C.N (Tl listed) (Ls.getD k []) β M a W → Step C.K β₀ M₀ L₀ W₀ β M (Ls.getD k []) W →
      wpAnyIn (FW C.ro) 0 C.P .any l.toArray (Post C Q β₀ M₀ L₀ W₀) fuel listed a W := by
    have getT : ∀ (listed : Array Bool), (∀ i, listed.getD i false = true → i < l.length) → ∀ r, (∀ j, dstAt l j = some r → listed.getD j false = true) →
        get (Tl listed) r = get (tS (fun _ => true) X T0 l 0) r := by
      intro listed _ r hr
      by_cases hx : ∃ j, dstAt l j = some r
      · obtain ⟨j, hj⟩ := hx
        have h1 := get_tS_in (S := fun i => listed.getD i false) (X := X) (T0 := T0) (n := 0) (fun a b c ha hb => p.uniq a b c ha hb) hj (by simpa using hr j hj)
        have h2 := get_tS_in (S := fun _ => true) (X := X) (T0 := T0) (n := 0) (fun a b c ha hb => p.uniq a b c ha hb) hj rfl
        exact h1.trans h2.symm
      · have h1 := get_tS_out (S := fun i => listed.getD i false) (X := X) (T0 := T0) (l := l) (n := 0) (d := r) (fun j hj => absurd ⟨j, hj⟩ hx)
        have h2 := get_tS_out (S := fun _ => true) (X := X) (T0 := T0) (l := l) (n := 0) (d := r) (fun j hj => absurd ⟨j, hj⟩ hx)
        exact h1.trans h2.symm
    have inb : ∀ (listed : Array Bool), listed.size = l.length → ∀ i, listed.getD i false = true → i < l.length := by
      intro listed hsz i hi
      rcases Nat.lt_or_ge i l.length with h | h
      · exact h
      · simp [Array.getD, hsz, Nat.not_lt.2 h] at hi
    have done : ∀ (listed : Array Bool) (k : Nat) (β : List Gh) (M : Nat → Prop) (a : Act) (W : World), listed.size = l.length → k ≤ m →
        (∀ i q, rows[i]? = some (Row.eff q) → (listed.getD i false = true ↔ q < k)) → (∀ i, i < l.length → listed.getD i false = true) →
        Conc C.G C.N (Tl listed) (Ls.getD k []) β M a W → Step C.K β₀ M₀ L₀ W₀ β M (Ls.getD k []) W → Post C Q β₀ M₀ L₀ W₀ .normal a W := by
      intro listed k β M a W hsz hk hS hall hcc hss
      have hkm : k = m := by
        rcases Nat.lt_or_ge k m with hlt | hge
        · obtain ⟨i, hi⟩ := p.all k hlt
          have hil : i < l.length := by rw [← p.len]; exact (List.getElem?_eq_some_iff.1 hi).1
          have := (hS i k hi).1 (hall i hil)
          omega
        · omega
      subst hkm
      refine ⟨β, M, _, _, hq, hcc.tms fun r x hr => ?_, hss⟩
      rw [getT listed (inb listed hsz) r (fun j hj => hall j ?_)]
      · exact hr
      · unfold dstAt at hj
        cases hl : l[j]? with
        | none => simp [hl] at hj
        | some o => exact (List.getElem?_eq_some_iff.1 hl).1
    have cntset : ∀ (bs : List Bool) (i : Nat), bs[i]? = some false → ((bs.set i true).filter (fun b => !b)).length + 1 = (bs.filter (fun b => !b)).length := by
      intro bs
      induction bs with
      | nil => intro i h; simp at h
      | cons b bs ih =>
        intro i h
        cases i with
        | zero => simp at h; subst h; simp
        | succ i =>
          simp only [List.getElem?_cons_succ] at h
          have := ih i h
          simp only [List.set_cons_succ, List.filter_cons]
          split <;> simp_all
    have allOf : ∀ (bs : List Bool), (bs.filter (fun b => !b)).length = 0 → ∀ i, i < bs.length → bs[i]? = some true := by
      intro bs h i hi
      have h' : bs.filter (fun b => !b) = [] := List.length_eq_zero_iff.1 h
      rw [List.filter_eq_nil_iff] at h'
      have := h' bs[i] (List.getElem_mem hi)
      rw [List.getElem?_eq_getElem hi]
      simpa using this
    intro fuel
    induction fuel with
    | zero =>
      intro listed k β M a W hsz hk hS hcnt _ hcc hss
      have hall : ∀ i, i < l.length → listed.getD i false = true := by
        intro i hi
        have := allOf listed.toList (by omega) i (by simpa [hsz] using hi)
        rw [Array.getElem?_toList] at this
        simp [Array.getD_eq_getD_getElem?, this]
      refine ⟨?_, done listed k β M a W hsz hk hS hall hcc hss⟩
      unfold Region.ready
      rw [List.filter_eq_nil_iff]
      intro i hi
      have hi' : i < l.length := by simpa using hi
      have : listed.getD i true = true := by
        have := hall i hi'
        have hlt : i < listed.size := by omega
        simp [Array.getD, hlt] at this ⊢; exact this
      simp [this]
    | succ fuel ih =>
      intro listed k β M a W hsz hk hS hcnt hcl hcc hss
      refine ⟨fun hr => ?_, fun i hi => ?_⟩
      · refine done listed k β M a W hsz hk hS ?_ hcc hss
        intro i
        induction i using Nat.strongRecOn with
        | _ i ihi =>
          intro hil
          cases hl : listed.getD i false with
          | true => rfl
          | false =>
            exfalso
            have hmem : i ∈ Region.ready .any l.toArray listed := by
              unfold Region.ready
              simp only [List.mem_filter, List.mem_range, Bool.and_eq_true]
              refine ⟨by simpa using hil, ?_, ?_⟩
              · have hlt : i < listed.size := by omega
                simp [Array.getD, hlt] at hl ⊢; exact hl
              · simp only [List.getElem?_toArray, List.getElem?_eq_getElem hil, Option.map_some, Option.getD_some, Array.all_eq_true_iff_forall_mem]
                intro e he
                cases hbi : Region.binds .any e with
                | false => simp
                | true =>
                  have hlt := p.back i _ e (List.getElem?_eq_getElem hil) (by simpa using he) hbi
                  rw [ihi e.on hlt (by omega)]; simp
            rw [hr] at hmem; simp at hmem
      · have hil : i < l.length := by
          unfold Region.ready at hi
          simp only [List.mem_filter, List.mem_range] at hi
          simpa using hi.1
        have hlt : i < listed.size := by omega
        have hni : listed.getD i false = false := by
          unfold Region.ready at hi
          simp only [List.mem_filter, List.mem_range, Bool.and_eq_true] at hi
          have := hi.2.1
          simp [Array.getD, hlt] at this ⊢; exact this
        have ho : l[i]? = some l[i] := List.getElem?_eq_getElem hil
        have hx : xs[i]? = some (X i) := by
          have : i < xs.length := by omega
          simp [X, List.getD, this]
        have hr : ∃ r, rows[i]? = some r := ⟨rows[i]'(by rw [p.len]; exact hil), List.getElem?_eq_getElem _⟩
        obtain ⟨r, hr⟩ := hr
        have hdst := List.all_eq_true.1 hd l[i] (List.getElem_mem hil)
        have hreads : ∀ z, z ∈ l[i].op.operands.toList → aev C.G (Tl listed) z = aev C.G (tS (fun _ => true) X T0 l 0) z := by
          intro z hz
          cases z with
          | tmp t =>
            refine getT listed (inb listed hsz) t fun j hj => ?_
            exact behind_listed hi (p.reads i _ t j ho (List.mem_filterMap.2 ⟨.tmp t, hz, rfl⟩) hj).2
          | _ => rfl
        have hguard : ∀ j b, l[i].guard = some (j, b) → yieldsT l.toArray (Tl listed) j = yieldsT l.toArray (tS (fun _ => true) X T0 l 0) j := by
          intro j b hg
          refine yielded_tS fun d hdj => getT listed (inb listed hsz) d fun j' hj' => ?_
          have : dstAt l j = some d := by simpa [dstAt] using hdj
          have e := p.uniq j j' d this hj'
          subst e
          exact behind_listed hi (p.guard i _ j b ho hg).2
        have setS : ∀ j, (listed.setIfInBounds i true).getD j false = true ↔ j = i ∨ listed.getD j false = true := by
          intro j
          by_cases hji : j = i
          · subst hji; simp [Array.getD, hlt]
          · simp [Array.getD_eq_getD_getElem?, Array.getElem?_setIfInBounds_ne (Ne.symm hji), hji]
        -- the operation is carried out
        have go : ∀ (k' : Nat), k' ≤ m → oev C.P C.G l.toArray O i l[i] (tS (fun _ => true) X T0 l 0) (Ls.getD k []) = some (X i, Ls.getD k' []) →
            (∀ j q, rows[j]? = some (Row.eff q) → ((listed.setIfInBounds i true).getD j false = true ↔ q < k')) →
            wpOpIn (FW C.ro) 0 C.P l.toArray (Post C Q β₀ M₀ L₀ W₀) i (wpAnyIn (FW C.ro) 0 C.P .any l.toArray (Post C Q β₀ M₀ L₀ W₀) fuel (listed.setIfInBounds i true)) a W := by
          intro k' hk' hev hS'
          rw [← oev_agree hreads hguard] at hev
          refine OpTo.oev (by simp) hdst (fun y hy => hO i _ y ho hy _ _ hreads) hev hcc ?_
          intro β' M' a' W' hc' hs'
          refine ih (listed.setIfInBounds i true) k' β' M' a' W' (by simpa using hsz) hk' hS' ?_ ?_ (hc'.tms fun r x hrx => ?_) (hss.trans hs')
          · have h1 := cntset listed.toList i (by
              rw [Array.getElem?_toList, Array.getElem?_eq_getElem hlt]
              simp [Array.getD, hlt] at hni; rw [hni])
            rw [Array.toList_setIfInBounds]; omega
          · intro j i' hj hb
            rw [setS] at hj ⊢
            rcases hj with rfl | hj
            · exact .inr (behind_listed hi hb)
            · exact .inr (hcl j i' hj hb)
          · by_cases hri : l[i].dst = some r
            · have h1 := get_tS_in (S := fun j => (listed.setIfInBounds i true).getD j false) (X := X) (T0 := T0) (l := l) (n := 0) (j := i) (d := r) (fun a b c ha hb => p.uniq a b c ha hb)
                (by simp [dstAt, ho, hri]) (by simp [Array.getD, hlt])
              rw [h1, Nat.zero_add] at hrx
              simp only [put, hri, get, if_true]; exact hrx
            · have hp' : get (put (Tl listed) l[i].dst (X i)) r = get (Tl listed) r := by
                cases hdd : l[i].dst with
                | none => rfl
                | some d => simp only [put, get]; rw [if_neg (fun e => hri (by rw [hdd, e]))]
              rw [hp']
              have same : ∀ j, dstAt l j = some r → (listed.setIfInBounds i true).getD j false = listed.getD j false := by
                intro j hj
                have hne : j ≠ i := by rintro rfl; exact hri (by simpa [dstAt, ho] using hj)
                simp [Array.getD_eq_getD_getElem?, Array.getElem?_setIfInBounds_ne (Ne.symm hne)]
              by_cases hx' : ∃ j, dstAt l j = some r ∧ listed.getD j false = true
              · obtain ⟨j, hj, hjl⟩ := hx'
                have h1 := get_tS_in (S := fun j => (listed.setIfInBounds i true).getD j false) (X := X) (T0 := T0) (n := 0) (fun a b c ha hb => p.uniq a b c ha hb) hj (by simp only [Nat.zero_add]; rw [same j hj]; exact hjl)
                have h2 := get_tS_in (S := fun j => listed.getD j false) (X := X) (T0 := T0) (n := 0) (fun a b c ha hb => p.uniq a b c ha hb) hj (by simpa using hjl)
                rw [h1] at hrx; exact h2.trans hrx
              · have hall : ∀ j, dstAt l j = some r → listed.getD j false = false := fun j hj => by
                  cases hjl : listed.getD j false with
                  | false => rfl
                  | true => exact absurd ⟨j, hj, hjl⟩ hx'
                have h1 := get_tS_out (S := fun j => (listed.setIfInBounds i true).getD j false) (X := X) (T0 := T0) (l := l) (n := 0) (d := r) (fun j hj => by simp only [Nat.zero_add]; rw [same j hj]; exact hall j hj)
                have h2 := get_tS_out (S := fun j => listed.getD j false) (X := X) (T0 := T0) (l := l) (n := 0) (d := r) (fun j hj => by simpa using hall j hj)
                rw [h1] at hrx; exact h2.trans hrx
        cases r with
        | eff q =>
          obtain ⟨hqm, heff⟩ := p.eff i q hr
          have hkq : k = q := by
            have h1 : ¬ q < k := fun h => by have := (hS i q hr).2 h; rw [hni] at this; cases this
            rcases Nat.lt_or_ge k q with h2 | h2
            · obtain ⟨j, hj⟩ := p.all k (by omega)
              have hne : i ≠ j := by rintro rfl; rw [hr] at hj; cases hj; omega
              have hb := (heff j k hj hne).2 h2
              have := (hS j k hj).1 (behind_listed hi hb)
              omega
            · omega
          subst hkq
          have hev := (hchk i _ _ _ ho hr hx).1 k rfl
          rw [Nat.zero_add] at hev
          refine go (k + 1) (by omega) hev fun j q' hj => ?_
          rw [setS, hS j q' hj]
          constructor
          · rintro (rfl | h)
            · rw [hr] at hj; cases hj; omega
            · omega
          · intro h
            by_cases hji : j = i
            · exact .inl hji
            · have := (heff j q' hj (Ne.symm hji)).1
              exact .inr (by omega)
        | flo lo hi' =>
          obtain ⟨hlo, hhi, hfl⟩ := p.flo i lo hi' hr
          have h1 : lo ≤ k := by
            rcases Nat.lt_or_ge k lo with h | h
            · obtain ⟨j, hj⟩ := p.all (lo - 1) (by omega)
              have := (hS j (lo - 1) hj).1 (behind_listed hi ((hfl j (lo - 1) hj).1 (by omega)))
              omega
            · exact h
          have h2 : k ≤ hi' := by
            rcases Nat.lt_or_ge hi' k with h | h
            · obtain ⟨j, hj⟩ := p.all hi' (by omega)
              have hjl := (hS j hi' hj).2 h
              have hb := (hfl j hi' hj).2 rfl
              have := hcl j i hjl hb
              rw [hni] at this; cases this
            · exact h
          have hev := (hchk i _ _ _ ho hr hx).2 lo hi' k rfl h1 h2
          rw [Nat.zero_add] at hev
          refine go k hk hev fun j q' hj => ?_
          rw [setS, hS j q' hj]
          constructor
          · rintro (rfl | h)
            · rw [hr] at hj; cases hj
            · exact h
          · exact .inr
  have nolist : ∀ i, (Array.replicate l.length false).getD i false = false := by
    intro i
    rw [Array.getD_eq_getD_getElem?]
    rcases Nat.lt_or_ge i l.length with h | h
    · simp [h]
    · simp [Nat.not_lt.2 h]
  have hT0 : ∀ r, get (Tl (Array.replicate l.length false)) r = get T0 r := fun r =>
    get_tS_out (S := fun i => (Array.replicate l.length false).getD i false) (X := X) (T0 := T0) (l := l) (n := 0) (d := r) (fun j _ => nolist _)
  have hdrew : Conc C.G C.N T0 (Ls.getD 0 []) β M a { W with drawn := W.drawn + 1 } ∧ Step C.K β M (Ls.getD 0 []) W β M (Ls.getD 0 []) { W with drawn := W.drawn + 1 } := by
    have still : ∀ b, b < W.heap.size → ¬ M b → ({ W with drawn := W.drawn + 1 } : World).heap[b]? = W.heap[b]? ∧ ¬ M b := fun b _ hM => ⟨rfl, hM⟩
    refine ⟨⟨hcc.size, fun n x hx => ?_, ⟨hcc.sat.len, fun i g k hg hk => ?_, hcc.sat.dis, fun g cs hg => ?_⟩, hcc.dfr⟩, ⟨fun _ _ _ h => h, fun _ g _ h => ⟨g, h, g.kin_refl⟩, rfl, rfl, rfl, Nat.le_refl _, fun _ _ _ => rfl, fun _ _ _ => Iff.rfl, fun _ _ h => h⟩⟩
    · obtain ⟨u, hu, hr⟩ := hcc.tm n x hx
      exact ⟨u, hu, R.ext (W := W) (W' := { W with drawn := W.drawn + 1 }) (fun _ _ h => h) (Nat.le_refl W.heap.size) still hr⟩
    · exact BS.keep (W := W) (W' := { W with drawn := W.drawn + 1 }) (fun _ _ h => h) (Nat.le_refl W.heap.size) still (fun b hb => ⟨rfl, (hcc.sat.owned ⟨i, g, k, hg, hk, hb⟩).1⟩) (hcc.sat.ok i g k hg hk)
    · exact RI.ext (W := W) (W' := { W with drawn := W.drawn + 1 }) (Nat.le_refl W.heap.size) still (hcc.sat.glob g cs hg)
  refine key _ (Array.replicate l.length false) 0 β M a _ (by simp) (by omega) (fun i q _ => ?_) (by simp) (fun j i h => ?_) (hdrew.1.tms fun r x hr => by rw [← hT0 r]; exact hr) (hss.trans hdrew.2)
  · rw [nolist]; simp
  · rw [nolist] at h; cases h
end
end Av
end

section
/- The engine, part 12: the same, in the shape in which it is used. -/
namespace Av
open Go

def trun (P : Program) (G : Globs) (ops : Array Oper) (O : Nat → Option SV) : List Oper → List Row → Nat → Tm → List Blk → Option (List SV × List (List Blk))
  | o :: l, r :: rows, i, T, L => match oev P G ops O i o T L with
    | some (x, L') => match trun P G ops O l rows (i + 1) (put T o.dst x) L' with
      | some (xs, Ls) => some (x :: xs, match r with
        | .eff _ => L' :: Ls
        | .flo _ _ => Ls)
      | none => none
    | none => none
  | [], [], _, _, _ => some ([], [])
  | _, _, _, _, _ => none

def lk : List (Nat × SV) → Nat → Option SV
  | [], _ => none
  | (k, x) :: r, i => if k = i then some x else lk r i

section
variable {C : Cx} {Q : QT}

theorem callArgs_agree {G : Globs} {T T' : Tm} {fs caps : List IV} {xs : List Operand} (h : ∀ z, z ∈ xs → aev G T z = aev G T' z) : callArgs G T fs xs caps = callArgs G T' fs xs caps := by
  have hs : ∀ (l : List Operand), (∀ x, x ∈ l → aev G T x = aev G T' x) → aevs G T l = aevs G T' l := by
    intro l
    induction l with
    | nil => intro _; rfl
    | cons x l ih => intro hl; simp only [aevs]; rw [hl x List.mem_cons_self, ih fun y hy => hl y (List.mem_cons_of_mem _ hy)]
  unfold callArgs; rw [hs xs h]

def CallOk (C : Cx) (l : List Oper) (Tf : Tm) (i : Nat) (y : SV) : Prop :=
  ∃ o fv args ts k fs caps xs, l[i]? = some o ∧ o.op = .call ⟨.value fv, args, ts⟩ ∧ aev C.G Tf fv = some (.im (.fn k fs caps)) ∧ callArgs C.G Tf fs args.toList caps = some xs ∧
    clL xs = true ∧ y.cl = true ∧ (∀ (vs : Array Value) (W : World), (callFunc k vs).run C.P W = .ok (.enter k vs) W) ∧ ACall C.P C.G k xs [] (fun r L' => r = y ∧ L' = [])

def AllCalls (C : Cx) (l : List Oper) (Tf : Tm) : List (Nat × SV) → Prop
  | [] => True
  | (i, y) :: r => CallOk C l Tf i y ∧ AllCalls C l Tf r

theorem AllCalls.get {l : List Oper} {Tf : Tm} : ∀ {cs : List (Nat × SV)} {i : Nat} {y : SV}, AllCalls C l Tf cs → lk cs i = some y → CallOk C l Tf i y
  | [], i, y, _, h => by simp [lk] at h
  | (k, x) :: r, i, y, h, hy => by
    simp only [lk] at hy
    split at hy
    · rename_i e; subst e; simp only [Option.some.injEq] at hy; subst hy; exact h.1
    · exact AllCalls.get h.2 hy

theorem AWp.draws2 {id : Nat} {l : List Oper} {T0 : Tm} {L0 : List Blk} {xs : List SV} {Ls : List (List Blk)} (rows : List Row) (m : Nat) (cs : List (Nat × SV)) (hm : C.P.follows .mixedOrders = true)
    (hp : planOk l rows m = true) (hd : l.all (fun o => dstOk C.N o.dst) = true) (_ : trun C.P C.G l.toArray (lk cs) l rows 0 T0 L0 = some (xs, Ls))
    (hc : chkAll C l.toArray (lk cs) (tS (fun _ => true) (fun i => xs.getD i .any) T0 l 0) (L0 :: Ls) l rows xs 0)
    (hO : AllCalls C l (tS (fun _ => true) (fun i => xs.getD i .any) T0 l 0) cs)
    (hq : Q .normal (tS (fun _ => true) (fun i => xs.getD i .any) T0 l 0) ((L0 :: Ls).getD m [])) : AWp C (.region id l.toArray true) Q T0 L0 := by
  refine AWp.draws (rows := rows) (m := m) (xs := xs) (Ls := L0 :: Ls) (lk cs) hm hp hd ?_ hc hq
  intro i o y hl hy T L hag
  obtain ⟨o', fv, args, ts, k, fs, caps, xs', h1, h2, h3, h4, h5, h6, h7, h8⟩ := hO.get hy
  rw [hl] at h1; cases h1
  have hops : o.op.operands.toList = fv :: args.toList := by rw [h2]; simp [Op.operands, Call.operands]
  have hdo : dstOk C.N o.dst = true := List.all_eq_true.1 hd o (List.mem_of_getElem? hl)
  refine (OpTo.call h2 hdo (by rw [hag fv (by rw [hops]; simp)]; exact h3) h7 (by rw [callArgs_agree fun z hz => hag z (by rw [hops]; simp [hz])]; exact h4) h5 h8).mono ?_
  rintro T' L' ⟨r, Lr, ⟨rfl, rfl⟩, rfl, rfl⟩
  rw [SV.cl_ren h6, map_nil_ren]; exact ⟨rfl, rfl⟩
end
end Av
end

section
/- The engine, part 13: slices: nil, literals, append to nothing. -/
set_option linter.unusedSimpArgs false
namespace Av
open Go

section
variable {C : Cx} {Q : QT} {T : Tm} {L : List Blk}

/-- 'x == nil' of a slice -/
theorem OpTo.eqNil {o : Oper} {t : TypeId} {ti : TI} {x : Operand} {e yt : TypeId} {s : Nat} {es : List (List IV)} (ho : o.op = .binOp .eql t x (.const (.slice none 0 0)) yt) (hd : dstOk C.N o.dst = true)
    (hti : tinfo C.P t = some ti) (hk : ti.kind = .slice e) (hx : aev C.G T x = some (.im (.sl s es))) :
    OpTo C o T L (fun T' L' => ∃ b : Bool, (es ≠ [] → b = false) ∧ T' = put T o.dst (.im (.v (.bool b))) ∧ L' = L) := by
  intro β M a W hc next Qx hkk
  obtain ⟨d, h1, h2, h3, h4⟩ := run_underlying (W := W) hti
  have hd' : d = .slice e := by rw [hk] at h3; cases d <;> simp [kindOf] at h3; subst h3; rfl
  subst hd'
  have hu : ∃ a' n c, a.eval x = .slice a' n c ∧ (es ≠ [] → a' ≠ none) := by
    have := hc.ev hx
    generalize a.eval x = u at this
    cases this with | im h => cases h with
      | emp => exact ⟨_, _, _, rfl, fun h => absurd rfl h⟩
      | sl => exact ⟨_, _, _, rfl, fun _ h => by cases h⟩
  obtain ⟨a', n, c, hu, hne⟩ := hu
  have hrun : (execOp a.eval o).run C.P W = .ok (.value (.bool a'.isNone)) W := by
    simp only [execOp, ho]
    have hg : (eqGuard .eql t x (.const (.slice none 0 0)) (a.eval x) (a.eval (.const (.slice none 0 0)))).run C.P W = .ok () W := by
      rw [hu]; rfl
    have he : (Op.equal t (.slice a' n c) (.slice none 0 0)).run C.P W = .ok a'.isNone W := by
      show (Op.equalIn (9999 + 1) t (.slice a' n c) (.slice none 0 0)).run C.P W = _
      rw [Op.equalIn, Sem.run_bind, h1, Result.andThen_ok]
      cases a' <;> rfl
    rw [Sem.run_bind, Sem.run_bind, hg, Result.andThen_ok, hu]
    simp only [binOp, Act.eval, Sem.run_bind, he, Result.andThen_ok, Sem.run_pure]
  rw [Oper.semAt_eq _ _ _ (fun c => by rw [ho]; exact fun e => by cases e), hrun, Oper.uponIn_value]
  refine hkk β M _ W _ _ ⟨a'.isNone, fun h => ?_, rfl, rfl⟩ (hc.put (dstOk_spec hd) (.im (.v _))) (Step.refl ..)
  have := hne h
  cases a' <;> simp_all

/-- a new block of cells that nobody writes to -/
theorem Conc.fresh {G : Globs} {N : Nat} {K : Kf} {β : List Gh} {M : Nat → Prop} {a : Act} {W W' : World} (o : Obj) (h : Conc G N T L β M a W) (hW : W' = W.alloc o ∨ W' = W.drew.alloc o) :
    Conc G N T L β (fun b => M b ∧ b ≠ W.heap.size) a W' ∧ Step K β M L W β (fun b => M b ∧ b ≠ W.heap.size) L W' ∧ W'.heap[W.heap.size]? = some o ∧ W.heap.size < W'.heap.size ∧
      (∀ b, b < W.heap.size → ¬ M b → W'.heap[b]? = W.heap[b]? ∧ ¬ (M b ∧ b ≠ W.heap.size)) := by
  have hheap : ∀ b, b < W.heap.size → W'.heap[b]? = W.heap[b]? := by
    intro b hb; rcases hW with rfl | rfl
    · exact heap_alloc_lt W o hb
    · exact heap_alloc_lt W.drew o hb
  have hsz : W'.heap.size = W.heap.size + 1 := by rcases hW with rfl | rfl <;> simp
  have hnew : W'.heap[W.heap.size]? = some o := by
    rcases hW with rfl | rfl
    · exact World.alloc_heap_new W o
    · exact World.alloc_heap_new W.drew o
  have still : ∀ b, b < W.heap.size → ¬ M b → W'.heap[b]? = W.heap[b]? ∧ ¬ (M b ∧ b ≠ W.heap.size) := fun b hb hM => ⟨hheap b hb, fun h => hM h.1⟩
  refine ⟨⟨h.size, fun n x hx => ?_, ⟨h.sat.len, fun i g k hg hk => ?_, h.sat.dis, fun g cs hg => (h.sat.glob g cs hg).ext (by omega) still⟩, h.dfr⟩, ⟨fun _ _ _ h => h, fun _ g _ h => ⟨g, h, g.kin_refl⟩, ?_, ?_, ?_, by omega, fun b hb _ => hheap b hb, fun b hb _ => ⟨fun h => h.1, fun h => ⟨h, by omega⟩⟩, fun _ _ h => h⟩, hnew, by omega, still⟩
  · obtain ⟨u, hu, hr⟩ := h.tm n x hx
    exact ⟨u, hu, hr.ext (fun _ _ h => h) (by omega) still⟩
  · refine (h.sat.ok i g k hg hk).keep (fun _ _ h => h) (by omega) still fun b hb => ?_
    have := h.sat.owned ⟨i, g, k, hg, hk, hb⟩
    exact ⟨hheap b this.2, this.1, by omega⟩
  · rcases hW with rfl | rfl <;> rfl
  · rcases hW with rfl | rfl <;> rfl
  · rcases hW with rfl | rfl <;> rfl

/-- '[]T{}' -/
theorem OpTo.build0 {o : Oper} {t e : TypeId} {ti te : TI} (ho : o.op = .buildSlice t 0 #[]) (hd : dstOk C.N o.dst = true) (hti : tinfo C.P t = some ti) (hk : ti.kind = .slice e) (hte : tinfo C.P e = some te) :
    OpTo C o T L (fun T' L' => T' = put T o.dst (.im .e0) ∧ L' = L) := by
  intro β M a W hc next Qx hkk
  obtain ⟨d, h1, h2, h3, h4⟩ := run_underlying (W := W) hti
  have hd' : d = .slice e := by rw [hk] at h3; cases d <;> simp [kindOf] at h3; subst h3; rfl
  subst hd'
  have hrun : (execOp a.eval o).run C.P W = .ok (.value (.slice (some ⟨W.heap.size, 0, none⟩) 0 0)) (W.alloc (.cells #[] e)) := by
    simp [execOp, ho, Instr.buildSlice, h1, run_sizeOf hte, Instr.fill, newRow]
    congr 2
    apply Array.eq_empty_of_size_eq_zero; simp
  rw [Oper.semAt_eq _ _ _ (fun c => by rw [ho]; exact fun e => by cases e), hrun, Oper.uponIn_value]
  obtain ⟨c1, c2, _⟩ := hc.fresh (K := C.K) (W' := W.alloc (.cells #[] e)) (.cells #[] e) (.inl rfl)
  exact hkk _ _ _ _ _ _ ⟨rfl, rfl⟩ (c1.put (dstOk_spec hd) (.im (.e0 _))) c2

/-- the cells that an immutable slice has -/
theorem sl_cells {M : Nat → Prop} {W : World} {s : Nat} {es : List (List IV)} {u : Value} (h : RI M W (.sl s es) u) :
    ∃ (ad : Option Addr) (cap : Nat) (val : Nat → Value), u = .slice ad es.length cap ∧ (es ≠ [] → ∃ b off, ad = some ⟨b, off, none⟩ ∧
      (∀ k, k < es.length * s → W.cell? ⟨b, off + k, none⟩ = some (val k))) ∧ (∀ e, e ∈ es → e.length = s) ∧
      ∀ (i : Nat) (e : List IV) (j : Nat) (c : IV), es[i]? = some e → e[j]? = some c → RI M W c (val (i * s + j)) := by
  cases h with
  | emp s a cap => exact ⟨a, cap, fun _ => undef, rfl, fun h => absurd rfl h, fun e he => by simp at he, fun i e j c h => by simp at h⟩
  | sl val hb hM hcap hbd hlen hc hr =>
    refine ⟨_, _, val, rfl, fun _ => ⟨_, _, rfl, fun k hk => ?_⟩, hlen, hr⟩
    have hs : 0 < s := by exact Nat.pos_of_ne_zero fun h => by subst h; omega
    have hi : k / s < es.length := by rw [Nat.div_lt_iff_lt_mul hs]; exact hk
    have he : es[k / s]? = some es[k / s] := List.getElem?_eq_getElem hi
    have hj : k % s < es[k / s].length := by rw [hlen _ (List.getElem_mem hi)]; exact Nat.mod_lt _ hs
    have := hc (k / s) _ (k % s) _ he (List.getElem?_eq_getElem hj)
    rw [Nat.mul_comm, Nat.div_add_mod] at this
    exact this

theorem run_firstCells {P : Program} {W : World} {M : Nat → Prop} {s : Nat} {es : List (List IV)} {u : Value} (h : RI M W (.sl s es) u) :
    ∃ (val : Nat → Value), (Builtin.firstCells s es.length u).run P W = .ok ((List.range (es.length * s)).map val).toArray W ∧ (∀ e, e ∈ es → e.length = s) ∧
      ∀ (i : Nat) (e : List IV) (j : Nat) (c : IV), es[i]? = some e → e[j]? = some c → RI M W c (val (i * s + j)) := by
  obtain ⟨ad, cap, val, rfl, hne, hlen, hr⟩ := sl_cells h
  refine ⟨val, ?_, hlen, hr⟩
  by_cases he : es = []
  · subst he
    cases ad with
    | none => simp [Builtin.firstCells]
    | some ad => simp [Builtin.firstCells, loadCells, loadCellsFrom]
  · obtain ⟨b, off, rfl, hc⟩ := hne he
    have := run_loadCells (P := P) W ⟨b, off, none⟩ (es.length * s) val (fun j hj => by rw [add_mk]; exact hc j hj)
    simpa [Builtin.firstCells] using this

/-- 'append' to an empty slice without room: a copy; it is taken for immutable -/
theorem OpTo.append0 {o : Oper} {t e : TypeId} {ti te : TI} {z : List Value} {x y : Operand} {es : List (List IV)} (ho : o.op = .call ⟨.builtin .append, #[x, y], #[t, t]⟩) (hd : dstOk C.N o.dst = true)
    (hti : tinfo C.P t = some ti) (hk : ti.kind = .slice e) (hte : tinfo C.P e = some te) (hz : te.zero = some z) (hb0 : te.bytes ≠ 0) (hb1 : te.bytes ≤ 512) (hx : aev C.G T x = some (.im .e0))
    (hy : aev C.G T y = some (.im (.sl te.size es))) :
    OpTo C o T L (fun T' L' => T' = put T o.dst (.im (.sl te.size es)) ∧ L' = L) := by
  intro β M a W hc next Qx hkk
  obtain ⟨d, h1, h2, h3, h4⟩ := run_underlying (W := W) hti
  have hd' : d = .slice e := by rw [hk] at h3; cases d <;> simp [kindOf] at h3; subst h3; rfl
  subst hd'
  have hx' : ∃ ad, a.eval x = .slice ad 0 0 := by
    have := hc.ev hx
    generalize a.eval x = u at this
    cases this with | im h => cases h with | e0 ad => exact ⟨ad, rfl⟩
  obtain ⟨ad, hxe⟩ := hx'
  have hyr : RI M W (.sl te.size es) (a.eval y) := by
    have := hc.ev hy
    cases this with | im h => exact h
  have hbig := hyr.big
  have hB : es.length * te.bytes ≤ 2 ^ 47 := by
    have h1 : es.length * te.bytes ≤ bigN * 512 := Nat.mul_le_mul hbig hb1
    have h2 : bigN * 512 = 2 ^ 47 := by simp [bigN]
    exact Nat.le_trans h1 (Nat.le_of_eq h2)
  obtain ⟨val, hfc, hlen, hval⟩ := run_firstCells (P := C.P) hyr
  obtain ⟨ad', cap', hye⟩ := hyr.len
  have hsz := run_sizeOf (W := W) hte
  have hlenOf : (Builtin.lenOf (a.eval y)).run C.P W = .ok es.length W := by rw [hye]; rfl
  rw [Oper.semAt_eq _ _ _ (fun c => by rw [ho]; exact fun e => by cases e)]
  by_cases he : es = []
  · subst he
    have hrun : (execOp a.eval o).run C.P W = .ok (.value (.slice ad 0 0)) W := by
      simp only [execOp, ho, resolve, Sem.run_pure, Sem.run_bind, Result.andThen_ok, invoke, builtin, List.map_toArray, List.map_cons, List.map_nil, Builtin.append_, List.getElem?_toArray,
        List.getElem?_cons_zero, List.getElem?_cons_succ, h1, hxe, hsz, Bool.false_eq_true, if_false, hlenOf, List.length_nil, Nat.add_zero, Nat.zero_add, Nat.le_refl, if_true, hfc, Bool.not_false,
        Nat.zero_mul, List.range_zero]
      have hfc0 : (Builtin.firstCells te.size 0 (a.eval y)).run C.P W = .ok #[] W := by simpa using hfc
      cases ad <;> simp [storeCells, hfc0]
    rw [hrun, Oper.uponIn_value]
    exact hkk _ _ _ _ _ _ ⟨rfl, rfl⟩ (hc.put (dstOk_spec hd) (.im (.emp _ _ _))) (Step.refl ..)
  · have hpos : 0 < es.length := List.length_pos_iff.2 he
    obtain ⟨zv, hzv, hzc⟩ := run_zeroValue (W := W.drew) hte hz
    obtain ⟨inf, hinf, hi1, hi2, hi3⟩ := run_typeInfo (W := W) hte
    obtain ⟨inf', hinf', hi1', hi2', hi3'⟩ := run_typeInfo (W := W.drew) hte
    have hcap : ∃ nc, es.length ≤ nc ∧ (choose (.appendCap es.length 0 e)).run C.P W = .ok nc W.drew := by
      refine ⟨(Question.appendCap es.length 0 e).cut (W.tape W.drawn (Question.appendCap es.length 0 e)), ?_, ?_⟩
      · simp [Question.cut]
      · simp [Question.forced]
    obtain ⟨nc, hnc, hch⟩ := hcap
    have hgrow : Builtin.nextslicecap es.length 0 = es.length := by
      unfold Builtin.nextslicecap; rw [if_pos (by omega)]
    have hfcd : (Builtin.firstCells te.size es.length (a.eval y)).run C.P W.drew = .ok ((List.range (es.length * te.size)).map val).toArray W.drew := by
      have hyr' : RI M W.drew (.sl te.size es) (a.eval y) := hyr.ext (W := W) (W' := W.drew) (Nat.le_refl W.heap.size) (fun _ _ h => ⟨rfl, h⟩)
      obtain ⟨ad2, cap2, val2, hu2, hne2, _, _⟩ := sl_cells hyr
      obtain ⟨b2, off2, rfl, hc2⟩ := hne2 he
      have e1 := run_loadCells (P := C.P) W ⟨b2, off2, none⟩ (es.length * te.size) val2 (fun j hj => by rw [add_mk]; exact hc2 j hj)
      have e2 := run_loadCells (P := C.P) W.drew ⟨b2, off2, none⟩ (es.length * te.size) val2 (fun j hj => by rw [add_mk]; exact hc2 j hj)
      rw [hu2] at hfc ⊢
      simp only [Builtin.firstCells] at hfc ⊢
      rw [e1] at hfc; rw [e2]
      simp only [Result.ok.injEq, and_true] at hfc
      rw [hfc]
    have hfco : (Builtin.firstCells te.size 0 (.slice ad 0 0)).run C.P W.drew = .ok #[] W.drew := by
      cases ad with
      | none => rfl
      | some ad => simp [Builtin.firstCells, loadCells, loadCellsFrom]
    have hrun : (execOp a.eval o).run C.P W = .ok (.value (.slice (some ⟨W.heap.size, 0, none⟩) es.length nc))
        (W.drew.alloc (.cells (((List.range (es.length * te.size)).map val).toArray ++ Builtin.zeroCells z.toArray (nc - es.length)) e)) := by
      simp only [execOp, ho, resolve, Sem.run_pure, Sem.run_bind, Result.andThen_ok, invoke, builtin, List.map_toArray, List.map_cons, List.map_nil, Builtin.append_, List.getElem?_toArray,
        List.getElem?_cons_zero, List.getElem?_cons_succ, h1, hxe, hsz, Bool.false_eq_true, if_false, hlenOf, Nat.zero_add, Bool.not_false, if_true]
      rw [if_neg (by omega)]
      simp only [hinf, Result.andThen_ok, Sem.run_bind, hi2, hb0, or_self, and_false, if_false, hgrow]
      rw [if_neg (by omega)]
      simp only [Sem.run_bind, hch, Result.andThen_ok, hinf', run_askRoom, hfco, hfcd, hzv, hzc, newRow, run_newObj, Sem.run_pure, Array.empty_append]
      rfl
    rw [hrun, Oper.uponIn_value]
    obtain ⟨c1, c2, c3, c4, c5⟩ := hc.fresh (K := C.K) (W' := W.drew.alloc _) (.cells (((List.range (es.length * te.size)).map val).toArray ++ Builtin.zeroCells z.toArray (nc - es.length)) e) (.inr rfl)
    refine hkk _ _ _ _ _ _ ⟨rfl, rfl⟩ (c1.put (dstOk_spec hd) (.im (.sl val c4 (fun h => h.2 rfl) hnc hbig hlen ?_ ?_))) c2
    · intro i en j c h1 h2
      have hi : i < es.length := (List.getElem?_eq_some_iff.1 h1).1
      have hj : j < te.size := by rw [← hlen en (List.mem_of_getElem? h1)]; exact (List.getElem?_eq_some_iff.1 h2).1
      have hlt : i * te.size + j < es.length * te.size := by
        calc i * te.size + j < i * te.size + te.size := by omega
          _ = (i + 1) * te.size := by rw [Nat.succ_mul]
          _ ≤ es.length * te.size := Nat.mul_le_mul_right _ hi
      rw [cell_of_heap c3, Nat.zero_add, Array.getElem?_append_left (by simpa using hlt)]
      simp [hlt]
    · intro i en j c h1 h2
      exact (hval i en j c h1 h2).ext (by omega) c5

/-- the slots of the first are the second's too -/
def subT : Tm → Tm → Prop
  | [], _ => True
  | (k, x) :: r, T => get T k = some x ∧ subT r T

theorem subT_spec : ∀ {T' T : Tm}, subT T' T → ∀ k x, get T' k = some x → get T k = some x
  | [], T, _, k, x, h => by simp [get] at h
  | (k', x') :: r, T, h, k, x, hk => by
    simp only [get] at hk
    split at hk
    · rename_i e; subst e; cases hk; exact h.1
    · exact subT_spec h.2 k x hk
end
end Av
end

section
/- Part 14 of the engine: a loop of at most m rounds, walked round by round. -/
namespace Av
open Go
section
variable {C : Cx} {Q : QT} {T : Tm} {L : List Blk}
/-- at most m rounds -/
def Rounds (C : Cx) (c : Code) (Q : QT) : Nat → Tm → List Blk → Prop
  | 0, _, _ => False
  | m + 1, T, L => AWp C c (thenQ (Rounds C c Q m) Q) T L

theorem Rounds.round {c : Code} {m : Nat} (h : AWp C c (thenQ (Rounds C c Q m) Q) T L) : Rounds C c Q (m + 1) T L := h

theorem AWp.rounds {c : Code} (m : Nat) (h : Rounds C c Q m T L) : AWp C (.loop c) Q T L := by
  refine AWp.loop (Rounds C c Q) h ?_
  intro m T L hI
  cases m with
  | zero => exact hI.elim
  | succ m =>
    refine AWp.mono hI ?_
    intro e T L q
    cases e with
    | normal => exact ⟨m, Nat.lt_succ_self m, q⟩
    | _ => exact q

/-- a loop over states of one's own: what stands in the slots, and in the blocks, is told by the state -/
theorem AWp.loopS {σ : Type} {c : Code} (I : σ → Prop) (μ : σ → Nat) (Tk : σ → Tm) (Lk : σ → List Blk) (s₀ : σ) (h₀ : I s₀ ∧ subT (Tk s₀) T ∧ L = Lk s₀)
    (round : ∀ s, I s → AWp C c (thenQ (fun T' L' => ∃ s', I s' ∧ μ s' < μ s ∧ subT (Tk s') T' ∧ L' = Lk s') Q) (Tk s) (Lk s)) : AWp C (.loop c) Q T L := by
  refine AWp.loop (fun m T L => ∃ s, I s ∧ m = μ s ∧ subT (Tk s) T ∧ L = Lk s) (m := μ s₀) ⟨s₀, h₀.1, rfl, h₀.2⟩ ?_
  rintro m T L ⟨s, hI, rfl, hT, rfl⟩
  refine AWp.tms _ (subT_spec hT) (AWp.mono (round s hI) ?_)
  intro e T L q
  cases e with
  | normal => obtain ⟨s', h1, h2, h3, h4⟩ := q; exact ⟨μ s', h2, s', h1, rfl, h3, h4⟩
  | _ => exact q
end
end Av
end
