/- Part 1 of 22 of a proof: own engine, contracts and facts. -/
import Derived.OrdersIn
import Derived.RangeFuncIn
import Derived.RangeFuncRecord
import Derived.TacticsIn
import Derived.Laws.Cells
import Derived.Laws.IdiomCopy
set_option linter.all false
section
/- The engine, part 1: symbolic values, what they say of a world, and how that is kept. -/
namespace Av
open Go

/-- values that nothing changes any more -/
inductive IV where
  | v (x : Value)
  | e0
  | sl (s : Nat) (es : List (List IV))
  | ep (s : Nat) (es : List (List IV)) (k : Nat)
  | pt (cs : List IV) (o : Nat)
  | fn (f : FuncId) (fs caps : List IV)

/-- no slice that is spoken of has more elements -/
def bigN : Nat := 2 ^ 38

/-- M: the blocks that may still change -/
inductive RI (M : Nat → Prop) (W : World) : IV → Value → Prop
  | v (x : Value) : RI M W (.v x) x
  | e0 (a : Option Addr) : RI M W .e0 (.slice a 0 0)
  | emp (s : Nat) (a : Option Addr) (cap : Nat) : RI M W (.sl s []) (.slice a 0 cap)
  | sl {s : Nat} {es : List (List IV)} {b off cap : Nat} (val : Nat → Value) (hb : b < W.heap.size) (hM : ¬ M b) (hcap : es.length ≤ cap) (hbd : es.length ≤ bigN)
      (hlen : ∀ e, e ∈ es → e.length = s)
      (hc : ∀ (i : Nat) (e : List IV) (j : Nat) (c : IV), es[i]? = some e → e[j]? = some c → W.cell? ⟨b, off + (i * s + j), none⟩ = some (val (i * s + j)))
      (hr : ∀ (i : Nat) (e : List IV) (j : Nat) (c : IV), es[i]? = some e → e[j]? = some c → RI M W c (val (i * s + j))) :
      RI M W (.sl s es) (.slice (some ⟨b, off, none⟩) es.length cap)
  | ep {s : Nat} {es : List (List IV)} {b off n cap : Nat} (k : Nat) (h : RI M W (.sl s es) (.slice (some ⟨b, off, none⟩) n cap)) :
      RI M W (.ep s es k) (.pointer (some ⟨b, off + k, none⟩))
  | pt {cs : List IV} {b : Nat} (o : Nat) (val : Nat → Value) (hb : b < W.heap.size) (hM : ¬ M b)
      (hc : ∀ j c, cs[j]? = some c → W.cell? ⟨b, j, none⟩ = some (val j)) (hr : ∀ j c, cs[j]? = some c → RI M W c (val j)) :
      RI M W (.pt cs o) (.pointer (some ⟨b, o, none⟩))
  | fn {f : FuncId} {fs caps : List IV} {us vs : Array Value} (hu : us.size = fs.length) (hs : vs.size = caps.length) (valf val : Nat → Value)
      (hvf : ∀ j c, fs[j]? = some c → us[j]? = some (valf j)) (hrf : ∀ j c, fs[j]? = some c → RI M W c (valf j))
      (hv : ∀ j c, caps[j]? = some c → vs[j]? = some (val j)) (hr : ∀ j c, caps[j]? = some c → RI M W c (val j)) :
      RI M W (.fn f fs caps) (.func (.func f) us vs)

theorem cell_of_block {W W' : World} {b : Nat} (h : W'.heap[b]? = W.heap[b]?) (o : Nat) : W'.cell? ⟨b, o, none⟩ = W.cell? ⟨b, o, none⟩ := by
  simp only [World.cell?, h]

theorem RI.ext {M M' : Nat → Prop} {W W' : World} (hs : W.heap.size ≤ W'.heap.size)
    (h : ∀ b, b < W.heap.size → ¬ M b → W'.heap[b]? = W.heap[b]? ∧ ¬ M' b) {x : IV} {u : Value} (r : RI M W x u) : RI M' W' x u := by
  induction r with
  | v x => exact .v x
  | e0 a => exact .e0 a
  | emp s a cap => exact .emp s a cap
  | sl val hb hM hcap hbd hlen hc hr ih =>
    exact .sl val (Nat.lt_of_lt_of_le hb hs) (h _ hb hM).2 hcap hbd hlen (fun i e j c h1 h2 => by rw [cell_of_block (h _ hb hM).1]; exact hc i e j c h1 h2) ih
  | ep k _ ih => exact .ep k ih
  | pt o val hb hM hc hr ih => exact .pt o val (Nat.lt_of_lt_of_le hb hs) (h _ hb hM).2 (fun j c h1 => by rw [cell_of_block (h _ hb hM).1]; exact hc j c h1) ih
  | fn hu hsz valf val hvf hrf hv hr ihf ih => exact .fn hu hsz valf val hvf ihf hv ih

inductive SV where
  | im (x : IV)
  | loc (i o : Nat)
  | app (i : Nat)
  | sub (i s lo hi m : Nat)
  | ap (i k : Nat)
  | agg (cs : List SV)
  | tup (cs : List SV)
  | yl (i : Nat)
  | any

inductive Gh where
  | blk (b : Nat)
  | slc (a : Option Addr) (n c : Nat)

inductive R (β : List Gh) (M : Nat → Prop) (W : World) : SV → Value → Prop
  | im {x : IV} {u : Value} (h : RI M W x u) : R β M W (.im x) u
  | loc {i b : Nat} (o : Nat) (h : β[i]? = some (.blk b)) : R β M W (.loc i o) (.pointer (some ⟨b, o, none⟩))
  | app {i n c : Nat} {a : Option Addr} (h : β[i]? = some (.slc a n c)) : R β M W (.app i) (.slice a n c)
  | sub {i b off n c : Nat} (s lo hi m cp : Nat) (h : β[i]? = some (.slc (some ⟨b, off, none⟩) n c)) (hcp : hi - lo ≤ cp) :
      R β M W (.sub i s lo hi m) (.slice (some ⟨b, off + lo * s, none⟩) (hi - lo) cp)
  | ap {i b off n c : Nat} (k : Nat) (h : β[i]? = some (.slc (some ⟨b, off, none⟩) n c)) : R β M W (.ap i k) (.pointer (some ⟨b, off + k, none⟩))
  | agg {cs : List SV} {vs : Array Value} (hs : vs.size = cs.length) (val : Nat → Value) (hv : ∀ j c, cs[j]? = some c → vs[j]? = some (val j))
      (hr : ∀ j c, cs[j]? = some c → R β M W c (val j)) : R β M W (.agg cs) (.agg vs)
  | tup {cs : List SV} {vs : Array Value} (hs : vs.size = cs.length) (val : Nat → Value) (hv : ∀ j c, cs[j]? = some c → vs[j]? = some (val j))
      (hr : ∀ j c, cs[j]? = some c → R β M W c (val j)) : R β M W (.tup cs) (.tuple vs)
  | yl {i b : Nat} (h : β[i]? = some (.blk b)) : R β M W (.yl i) (.func (.yield b) #[] #[])
  | any (u : Value) : R β M W .any u

theorem R.ext {β β' : List Gh} {M M' : Nat → Prop} {W W' : World} (hβ : ∀ (i : Nat) (g : Gh), β[i]? = some g → β'[i]? = some g) (hs : W.heap.size ≤ W'.heap.size)
    (h : ∀ b, b < W.heap.size → ¬ M b → W'.heap[b]? = W.heap[b]? ∧ ¬ M' b) {x : SV} {u : Value} (r : R β M W x u) : R β' M' W' x u := by
  induction r with
  | im hi => exact .im (hi.ext hs h)
  | loc o hg => exact .loc o (hβ _ _ hg)
  | app hg => exact .app (hβ _ _ hg)
  | sub s lo hi m cp hg hcp => exact .sub s lo hi m cp (hβ _ _ hg) hcp
  | ap k hg => exact .ap k (hβ _ _ hg)
  | agg hsz val hv _ ih => exact .agg hsz val hv ih
  | tup hsz val hv _ ih => exact .tup hsz val hv ih
  | yl hg => exact .yl (hβ _ _ hg)
  | any u => exact .any u

abbrev Tm := List (Nat × SV)

def get : Tm → Nat → Option SV
  | [], _ => none
  | (k, x) :: T, n => if k = n then some x else get T n

def mapT (f : SV → SV) (T : Tm) : Tm := T.map fun p => (p.1, f p.2)
theorem mapT_get (f : SV → SV) : ∀ (T : Tm) (k : Nat), get (mapT f T) k = (get T k).map f
  | [], _ => rfl
  | (k', x) :: T, k => by
    have := mapT_get f T k
    simp only [mapT, List.map_cons, get] at this ⊢
    split
    · rfl
    · exact this
def allT (f : SV → Bool) (T : Tm) : Bool := T.all fun p => f p.2
theorem allT_get {f : SV → Bool} : ∀ {T : Tm} {k : Nat} {x : SV}, allT f T = true → get T k = some x → f x = true
  | [], k, x, _, h => by simp [get] at h
  | (k', y) :: T, k, x, hb, h => by
    simp only [allT, List.all_cons, Bool.and_eq_true] at hb
    simp only [get] at h
    split at h
    · cases h; exact hb.1
    · exact allT_get (T := T) hb.2 h

/-- what is fixed of a loop over a function, and how it stands -/
structure LpD where
  N : Nat
  s : LoopState
  p : Option Code
  ps : Array Tmp
  asg : Code
  body : Code

def LpD.is (d : LpD) (r : Loop) : Prop := r.state = d.s ∧ r.pending = d.p ∧ r.params = d.ps ∧ r.assign = d.asg ∧ r.body = d.body ∧ r.tmps.size = d.N

inductive Blk where
  | vars (cs : List SV) (t : TypeId)
  | app (s : Nat) (es : List (List IV)) (t : TypeId)
  | obj (o : Obj)
  | mark
  | lp (T : Tm) (d : LpD)
  | dead

def BS (β : List Gh) (M : Nat → Prop) (W : World) : Gh → Blk → Prop
  | .blk b, .vars cs t => M b ∧ ∃ arr : Array Value, W.heap[b]? = some (.cells arr t (0, 0)) ∧ arr.size = cs.length ∧ ∀ (k : Nat) (c : SV), cs[k]? = some c → ∃ u : Value, arr[k]? = some u ∧ R β M W c u
  | .slc a n cap, .app s es t => n = es.length ∧ ((es = [] ∧ cap = 0) ∨ ∃ (b off : Nat) (arr : Array Value), a = some ⟨b, off, none⟩ ∧ M b ∧
      W.heap[b]? = some (.cells arr t (0, 0)) ∧ 0 < cap ∧ es.length ≤ cap ∧ off + cap * s ≤ arr.size ∧ (∀ e, e ∈ es → e.length = s) ∧
      ∀ (i : Nat) (e : List IV) (j : Nat) (c : IV), es[i]? = some e → e[j]? = some c → ∃ u : Value, arr[off + (i * s + j)]? = some u ∧ RI M W c u)
  | .blk b, .obj o => M b ∧ W.heap[b]? = some o
  | .blk b, .mark => M b ∧ W.heap[b]? = some (.deferred (some []))
  | .blk b, .lp T d => M b ∧ ∃ r : Loop, W.heap[b]? = some (.loop r) ∧ d.is r ∧ ∀ (k : Nat) (x : SV), get T k = some x → ∃ u : Value, r.tmps[k]? = some u ∧ R β M W x u
  | _, .dead => True
  | _, _ => False

def own : Gh → Blk → Option Nat
  | .blk b, .vars _ _ => some b
  | .blk b, .obj _ => some b
  | .blk b, .mark => some b
  | .blk b, .lp _ _ => some b
  | .slc (some a) _ cap, .app _ _ _ => if cap = 0 then none else some a.block
  | _, _ => none

def Owned (β : List Gh) (L : List Blk) (b : Nat) : Prop := ∃ (i : Nat) (g : Gh) (k : Blk), β[i]? = some g ∧ L[i]? = some k ∧ own g k = some b

/-- what is known of package-level variables that nobody writes -/
abbrev Globs := List (Nat × List IV)

structure Sat (G : Globs) (β : List Gh) (M : Nat → Prop) (L : List Blk) (W : World) : Prop where
  len : β.length = L.length
  ok : ∀ (i : Nat) (g : Gh) (k : Blk), β[i]? = some g → L[i]? = some k → BS β M W g k
  dis : ∀ (i j : Nat) (gi gj : Gh) (ki kj : Blk) (b : Nat), β[i]? = some gi → L[i]? = some ki → β[j]? = some gj → L[j]? = some kj → own gi ki = some b → own gj kj = some b → i = j
  glob : ∀ g cs, (g, cs) ∈ G → RI M W (.pt cs 0) (.pointer (some ⟨g, 0, none⟩))

theorem BS.own_spec {β : List Gh} {M : Nat → Prop} {W : World} {g : Gh} {k : Blk} {b : Nat} (h : BS β M W g k) (ho : own g k = some b) : M b ∧ b < W.heap.size := by
  have key : ∀ {o : Obj}, W.heap[b]? = some o → b < W.heap.size := fun h => (Array.getElem?_eq_some_iff.1 h).1
  cases g with
  | blk b' =>
    cases k with
    | vars cs t => simp only [own, Option.some.injEq] at ho; subst ho; obtain ⟨hM, arr, hh, _⟩ := h; exact ⟨hM, key hh⟩
    | app s es t => simp [own] at ho
    | obj o => simp only [own, Option.some.injEq] at ho; subst ho; exact ⟨h.1, key h.2⟩
    | mark => simp only [own, Option.some.injEq] at ho; subst ho; exact ⟨h.1, key h.2⟩
    | lp T d => simp only [own, Option.some.injEq] at ho; subst ho; obtain ⟨hM, r, hh, _⟩ := h; exact ⟨hM, key hh⟩
    | dead => simp [own] at ho
  | slc a n cap =>
    cases k with
    | vars cs t => simp [own] at ho
    | obj o => simp [own] at ho
    | mark => simp [own] at ho
    | lp T d => simp [own] at ho
    | dead => simp [own] at ho
    | app s es t =>
      rcases h with ⟨_, ⟨_, rfl⟩ | ⟨b', off, arr, rfl, hM, hh, hc, _⟩⟩
      · cases a <;> simp [own] at ho
      · simp only [own] at ho
        split at ho
        · cases ho
        · simp only [Option.some.injEq] at ho; subst ho; exact ⟨hM, key hh⟩

theorem Sat.owned {G : Globs} {β : List Gh} {M : Nat → Prop} {L : List Blk} {W : World} (h : Sat G β M L W) {b : Nat} (ho : Owned β L b) : M b ∧ b < W.heap.size := by
  obtain ⟨i, g, k, h1, h2, h3⟩ := ho
  exact (h.ok i g k h1 h2).own_spec h3

/-- a block stays that block, a slice a slice -/
def Gh.kin : Gh → Gh → Prop
  | .blk b, g => g = .blk b
  | .slc _ _ _, g => ∃ a n c, g = .slc a n c
theorem Gh.kin_refl : ∀ (g : Gh), g.kin g
  | .blk _ => rfl
  | .slc a n c => ⟨a, n, c, rfl⟩
theorem Gh.kin_trans : ∀ {g g' g'' : Gh}, g.kin g' → g'.kin g'' → g.kin g''
  | .blk b, g', g'', h, k => by simp only [Gh.kin] at h; subst h; exact k
  | .slc a n c, g', g'', h, k => by obtain ⟨a', n', c', rfl⟩ := h; exact k

/-- k: so many of the blocks keep their names and their places; f: so many stay what they are -/
structure Kf where
  k : Nat
  f : Nat
instance : Coe Nat Kf := ⟨fun n => ⟨n, n⟩⟩

structure Step (K : Kf) (β : List Gh) (M : Nat → Prop) (L : List Blk) (W : World) (β' : List Gh) (M' : Nat → Prop) (L' : List Blk) (W' : World) : Prop where
  pre : ∀ (i : Nat) (g : Gh), i < K.k → β[i]? = some g → β'[i]? = some g
  kin : ∀ (i : Nat) (g : Gh), i < K.f → β[i]? = some g → ∃ g', β'[i]? = some g' ∧ g.kin g'
  os : W'.os = W.os
  tape : W'.tape = W.tape
  output : W'.output = W.output
  size : W.heap.size ≤ W'.heap.size
  heap : ∀ b, b < W.heap.size → ¬ Owned β L b → W'.heap[b]? = W.heap[b]?
  muts : ∀ b, b < W.heap.size → ¬ Owned β L b → (M' b ↔ M b)
  sub : ∀ b, b < W.heap.size → Owned β' L' b → Owned β L b

theorem Step.refl (K : Kf) (β : List Gh) (M : Nat → Prop) (L : List Blk) (W : World) : Step K β M L W β M L W :=
  ⟨fun _ _ _ h => h, fun _ g _ h => ⟨g, h, g.kin_refl⟩, rfl, rfl, rfl, Nat.le_refl _, fun _ _ _ => rfl, fun _ _ _ => Iff.rfl, fun _ _ h => h⟩

theorem Step.trans {K : Kf} {β β₁ β₂ : List Gh} {M M₁ M₂ : Nat → Prop} {L L₁ L₂ : List Blk} {W W₁ W₂ : World}
    (h : Step K β M L W β₁ M₁ L₁ W₁) (k : Step K β₁ M₁ L₁ W₁ β₂ M₂ L₂ W₂) : Step K β M L W β₂ M₂ L₂ W₂ :=
  ⟨fun i g hi hg => k.pre i g hi (h.pre i g hi hg), fun i g hi hg => let ⟨g', h1, h2⟩ := h.kin i g hi hg; let ⟨g'', h3, h4⟩ := k.kin i g' hi h1; ⟨g'', h3, Gh.kin_trans h2 h4⟩, k.os.trans h.os, k.tape.trans h.tape, k.output.trans h.output, Nat.le_trans h.size k.size,
   fun b hb ho => (k.heap b (Nat.lt_of_lt_of_le hb h.size) (fun o => ho (h.sub b hb o))).trans (h.heap b hb ho),
   fun b hb ho => (k.muts b (Nat.lt_of_lt_of_le hb h.size) (fun o => ho (h.sub b hb o))).trans (h.muts b hb ho),
   fun b hb o => h.sub b hb (k.sub b (Nat.lt_of_lt_of_le hb h.size) o)⟩

/-- what nothing changes stays -/
theorem Step.still {G : Globs} {K : Kf} {β β' : List Gh} {M M' : Nat → Prop} {L L' : List Blk} {W W' : World}
    (h : Step K β M L W β' M' L' W') (hs : Sat G β M L W) : ∀ b, b < W.heap.size → ¬ M b → W'.heap[b]? = W.heap[b]? ∧ ¬ M' b :=
  fun b hb hM => ⟨h.heap b hb (fun o => hM (hs.owned o).1), fun hM' => hM ((h.muts b hb (fun o => hM (hs.owned o).1)).1 hM')⟩

def put (T : Tm) : Option Nat → SV → Tm
  | some d, x => (d, x) :: T
  | none, _ => T

/-- the marks of loops over functions, among the activation's deferred calls -/
def marks : List Gh → List Blk → List Deferred
  | .blk b :: β, .mark :: L => { target := .collected b, args := #[] } :: marks β L
  | _ :: β, _ :: L => marks β L
  | _, _ => []

def Blk.isMark : Blk → Bool
  | .mark => true
  | _ => false

theorem marks_none : ∀ (β : List Gh) (L : List Blk), (∀ k, k ∈ L → k.isMark = false) → marks β L = []
  | [], L, _ => by cases L <;> rfl
  | g :: β, [], _ => by cases g <;> rfl
  | g :: β, k :: L, h => by
    have hk := h k List.mem_cons_self
    have ih := marks_none β L (fun k' h' => h k' (List.mem_cons_of_mem _ h'))
    cases g <;> cases k <;> first | exact ih | simp [Blk.isMark] at hk

theorem marks_append : ∀ (β : List Gh) (L : List Blk) (β' : List Gh) (L' : List Blk), β.length = L.length → marks (β ++ β') (L ++ L') = marks β L ++ marks β' L'
  | [], [], β', L', _ => rfl
  | [], k :: L, _, _, h => by simp at h
  | g :: β, [], _, _, h => by simp at h
  | g :: β, k :: L, β', L', h => by
    have ih := marks_append β L β' L' (by simpa using h)
    cases g <;> cases k <;> simp [marks, ih]

theorem marks_set : ∀ (β : List Gh) (L : List Blk) (i : Nat) (g : Gh) (k k' : Blk), L[i]? = some k → k.isMark = false → k'.isMark = false →
    marks (β.set i g) (L.set i k') = marks β L
  | [], L, i, g, k, k', _, _, _ => by cases L <;> cases i <;> simp [marks]
  | g0 :: β, [], i, g, k, k', h, _, _ => by simp at h
  | g0 :: β, k0 :: L, 0, g, k, k', h, h1, h2 => by
    simp only [List.getElem?_cons_zero, Option.some.injEq] at h; subst h
    cases g0 <;> cases k0 <;> cases g <;> cases k' <;> first | rfl | simp [Blk.isMark] at h1 h2
  | g0 :: β, k0 :: L, i + 1, g, k, k', h, h1, h2 => by
    have ih := marks_set β L i g k k' (by simpa using h) h1 h2
    cases g0 <;> cases k0 <;> simp [marks, ih]

structure Conc (G : Globs) (N : Nat) (T : Tm) (L : List Blk) (β : List Gh) (M : Nat → Prop) (a : Act) (W : World) : Prop where
  size : a.tmps.size = N
  tm : ∀ k x, get T k = some x → ∃ u, a.tmps[k]? = some u ∧ R β M W x u
  sat : Sat G β M L W
  dfr : a.defers = (marks β L).reverse

/-- operands -/
def aev (G : Globs) (T : Tm) : Operand → Option SV
  | .tmp t => get T t
  | .const u => some (.im (.v u))
  | .global g => (G.lookup g).map fun cs => .im (.pt cs 0)
  | .func f => some (.im (.fn f [] []))

theorem mem_of_lookup {G : Globs} {g : Nat} {cs : List IV} (h : G.lookup g = some cs) : (g, cs) ∈ G := by
  induction G with
  | nil => simp [List.lookup] at h
  | cons x G ih =>
    obtain ⟨a, b⟩ := x
    simp only [List.lookup] at h
    split at h
    · rename_i he; simp only [Option.some.injEq] at h; subst h; have : g = a := by simpa using he
      subst this; exact List.mem_cons_self
    · exact List.mem_cons_of_mem _ (ih h)

theorem Conc.ev {G : Globs} {N : Nat} {T : Tm} {L : List Blk} {β : List Gh} {M : Nat → Prop} {a : Act} {W : World} (h : Conc G N T L β M a W)
    {x : Operand} {s : SV} (hx : aev G T x = some s) : R β M W s (a.eval x) := by
  cases x with
  | tmp t =>
    obtain ⟨u, hu, hr⟩ := h.tm t s hx
    simp only [Act.eval, Array.getD_eq_getD_getElem?, hu, Option.getD_some]; exact hr
  | const v => simp only [aev, Option.some.injEq] at hx; subst hx; exact .im (.v v)
  | global g =>
    simp only [aev, Option.map_eq_some_iff] at hx
    obtain ⟨cs, h1, rfl⟩ := hx
    exact .im (h.sat.glob g cs (mem_of_lookup h1))
  | func f =>
    simp only [aev, Option.some.injEq] at hx; subst hx
    exact .im (.fn (by simp) (by simp) (fun _ => undef) (fun _ => undef) (fun j c hj => by simp at hj) (fun j c hj => by simp at hj) (fun j c hj => by simp at hj) (fun j c hj => by simp at hj))

/-- a slot is written -/
theorem Conc.put {G : Globs} {N : Nat} {T : Tm} {L : List Blk} {β : List Gh} {M : Nat → Prop} {a : Act} {W : World} (h : Conc G N T L β M a W)
    {dst : Option Nat} {x : SV} {u : Value} (hd : ∀ d, dst = some d → d < N) (hr : R β M W x u) : Conc G N (put T dst x) L β M (a.put dst u) W := by
  cases dst with
  | none => exact h
  | some d =>
    refine ⟨by simpa [Act.put] using h.size, fun k y hk => ?_, h.sat, h.dfr⟩
    simp only [Av.put, get] at hk
    simp only [Act.put]
    split at hk
    · rename_i e; subst e; simp only [Option.some.injEq] at hk; subst hk
      exact ⟨u, by simp [h.size, hd d rfl], hr⟩
    · rename_i e
      obtain ⟨u', hu, hr'⟩ := h.tm k y hk
      exact ⟨u', by rw [Array.getElem?_setIfInBounds_ne e]; exact hu, hr'⟩
end Av
end

section
/- The engine, part 2: what a piece of code does, said of symbolic values; the rules of the control. -/
namespace Av
open Go

/-- the program, the round, what is known of variables, how many of the blocks must stay named as they are, how many slots -/
structure Cx where
  P : Program
  ro : Option Nat
  G : Globs
  K : Kf
  N : Nat

def FW (ro : Option Nat) : Fence := { Fence.wide with round := ro }

abbrev QT := Exit → Tm → List Blk → Prop

def Post (C : Cx) (Q : QT) (β₀ : List Gh) (M₀ : Nat → Prop) (L₀ : List Blk) (W₀ : World) : Exit → Act → World → Prop :=
  fun e a W => ∃ β M T L, Q e T L ∧ Conc C.G C.N T L β M a W ∧ Step C.K β₀ M₀ L₀ W₀ β M L W

def AWp (C : Cx) (c : Code) (Q : QT) (T : Tm) (L : List Blk) : Prop :=
  ∀ β₀ M₀ L₀ W₀ β M a W, Conc C.G C.N T L β M a W → Step C.K β₀ M₀ L₀ W₀ β M L W → c.wpIn (FW C.ro) 0 C.P (Post C Q β₀ M₀ L₀ W₀) a W

def AL (C : Cx) (ops : Array Oper) (Q : QT) (l : List Oper) (T : Tm) (L : List Blk) : Prop :=
  ∀ β₀ M₀ L₀ W₀ β M a W, Conc C.G C.N T L β M a W → Step C.K β₀ M₀ L₀ W₀ β M L W → wpListIn (FW C.ro) 0 C.P ops (Post C Q β₀ M₀ L₀ W₀) l a W

def OpTo (C : Cx) (o : Oper) (T : Tm) (L : List Blk) (Φ : Tm → List Blk → Prop) : Prop :=
  ∀ β M a W, Conc C.G C.N T L β M a W → ∀ (next : Act → World → Prop) (Qx : Exit → Act → World → Prop),
    (∀ β' M' a' W' T' L', Φ T' L' → Conc C.G C.N T' L' β' M' a' W' → Step C.K β M L W β' M' L' W' → next a' W') →
    o.uponIn (FW C.ro) 0 C.P a next Qx ((o.semAt C.ro a.eval).run C.P W)

def thenQ (k : Tm → List Blk → Prop) (Q : QT) : QT
  | .normal, T, L => k T L
  | e, T, L => Q e T L

def inQ (id : Nat) (Q : QT) : QT
  | .exit id', T, L => if id' = id then Q .normal T L else Q (.exit id') T L
  | e, T, L => Q e T L

section
variable {C : Cx} {Q : QT} {T : Tm} {L : List Blk}

theorem AWp.mono {c : Code} {Q' : QT} (h : AWp C c Q T L) (hq : ∀ e T L, Q e T L → Q' e T L) : AWp C c Q' T L :=
  fun β₀ M₀ L₀ W₀ β M a W hc hs => wpIn_mono (h β₀ M₀ L₀ W₀ β M a W hc hs) fun _ _ _ ⟨β, M, T, L, q, c, s⟩ => ⟨β, M, T, L, hq _ _ _ q, c, s⟩

theorem AWp.seq {x y : Code} (h : AWp C x (thenQ (AWp C y Q) Q) T L) : AWp C (.seq x y) Q T L := by
  intro β₀ M₀ L₀ W₀ β M a W hc hs
  refine wpIn_seq (wpIn_mono (h β₀ M₀ L₀ W₀ β M a W hc hs) ?_)
  rintro e a' W' ⟨β', M', T', L', q, hc', hs'⟩
  cases e with
  | normal => exact q β₀ M₀ L₀ W₀ β' M' a' W' hc' hs'
  | exit id => exact ⟨β', M', T', L', q, hc', hs'⟩
  | goto l => exact ⟨β', M', T', L', q, hc', hs'⟩
  | ret => exact ⟨β', M', T', L', q, hc', hs'⟩
  | panic ch => exact ⟨β', M', T', L', q, hc', hs'⟩
  | outgrown => exact ⟨β', M', T', L', q, hc', hs'⟩

theorem AWp.skip (h : Q .normal T L) : AWp C .skip Q T L :=
  fun _ _ _ _ _ _ _ _ hc hs => wpIn_skip ⟨_, _, _, _, h, hc, hs⟩
theorem AWp.ret (h : Q .ret T L) : AWp C .ret Q T L :=
  fun _ _ _ _ _ _ _ _ hc hs => wpIn_ret ⟨_, _, _, _, h, hc, hs⟩
theorem AWp.exit {id : Nat} (h : Q (.exit id) T L) : AWp C (.exit id) Q T L :=
  fun _ _ _ _ _ _ _ _ hc hs => wpIn_exit ⟨_, _, _, _, h, hc, hs⟩
theorem AWp.goto {l : Nat} (h : Q (.goto l) T L) : AWp C (.goto l) Q T L :=
  fun _ _ _ _ _ _ _ _ hc hs => wpIn_goto ⟨_, _, _, _, h, hc, hs⟩
theorem AWp.label {l : Nat} (h : Q .normal T L) : AWp C (.label l) Q T L :=
  fun _ _ _ _ _ _ _ _ hc hs => wpIn_label ⟨_, _, _, _, h, hc, hs⟩

theorem R.bool {β : List Gh} {M : Nat → Prop} {W : World} {x u : Value} (h : R β M W (.im (.v x)) u) : u = x := by
  cases h with | im h => cases h; rfl

theorem AWp.cond {c : Operand} {x y : Code} {t : Bool} (hc : aev C.G T c = some (.im (.v (.bool t)))) (h1 : t = true → AWp C x Q T L) (h2 : t = false → AWp C y Q T L) :
    AWp C (.cond c x y) Q T L :=
  fun β₀ M₀ L₀ W₀ β M a W hh hs => wpIn_cond_split (t := t) (hh.ev hc).bool
    (fun e => h1 e β₀ M₀ L₀ W₀ β M a W hh hs) (fun e => h2 e β₀ M₀ L₀ W₀ β M a W hh hs)

theorem AWp.block {id : Nat} {c : Code} (h : AWp C c (inQ id Q) T L) : AWp C (.block id c) Q T L := by
  intro β₀ M₀ L₀ W₀ β M a W hc hs
  refine wpIn_block (wpIn_mono (h β₀ M₀ L₀ W₀ β M a W hc hs) ?_)
  rintro e a' W' ⟨β', M', T', L', q, hc', hs'⟩
  cases e with
  | normal => exact ⟨β', M', T', L', q, hc', hs'⟩
  | exit id' =>
    simp only [inQ] at q
    simp only [Exit.inBlock]
    split
    · rename_i e; rw [if_pos e] at q; exact ⟨β', M', T', L', q, hc', hs'⟩
    · rename_i e; rw [if_neg e] at q; exact ⟨β', M', T', L', q, hc', hs'⟩
  | goto l => exact ⟨β', M', T', L', q, hc', hs'⟩
  | ret => exact ⟨β', M', T', L', q, hc', hs'⟩
  | panic ch => exact ⟨β', M', T', L', q, hc', hs'⟩
  | outgrown => exact ⟨β', M', T', L', q, hc', hs'⟩

/-- a loop whose measure is no function of the frame and the world -/
theorem wpIn_loop_rel {F : Fence} {n : Nat} {P : Program} {Q : Exit → Act → World → Prop} {c : Code} (I : Nat → Act → World → Prop) {m : Nat} {a : Act} {w : World} (h₀ : I m a w)
    (round : ∀ m a w, I m a w → c.wpIn F n P (Exit.then (fun a' w' => ∃ m', m' < m ∧ I m' a' w') Q) a w) : (Code.loop c).wpIn F n P Q a w := by
  intro b k cs hro hb hr
  have key : ∀ j a w, I j a w →
      ∃ e a' w', Q e a' w' ∧ ArrivesIn (Machine.fenced P F) P (lone (b.atR a (.code c :: .inLoop c :: k)) cs w) b k cs e a' w' := by
    intro j
    induction j using Nat.strongRecOn with
    | _ j ih =>
      intro a w hI
      obtain ⟨e, a₁, w₁, hq, harr⟩ := round j a w hI b (.inLoop c :: k) cs hro hb hr
      cases e with
      | normal =>
        obtain ⟨m', hlt, hI₁⟩ := hq
        obtain ⟨e₂, a₂, w₂, hq₂, harr₂⟩ := ih m' hlt a₁ w₁ hI₁
        exact ⟨e₂, a₂, w₂, hq₂, .of_steps (StepsIn.trans harr (.one (fenced_calm hb hr rfl) stepR_inLoop)) harr₂⟩
      | exit id => exact ⟨_, a₁, w₁, hq, .pass (x := .inLoop c) rfl (fun _ _ => .inl (by simp)) harr⟩
      | goto l => exact ⟨_, a₁, w₁, hq, .pass (x := .inLoop c) rfl (fun _ _ => .inl (by simp)) harr⟩
      | ret => exact ⟨_, a₁, w₁, hq, .pass (x := .inLoop c) rfl (fun _ _ => .inl (by simp)) harr⟩
      | panic ch => exact ⟨_, a₁, w₁, hq, .pass (x := .inLoop c) rfl (fun _ _ => .inl (by simp)) harr⟩
      | outgrown => exact ⟨_, a₁, w₁, hq, .pass (x := .inLoop c) rfl (fun _ _ => .inl (by simp)) harr⟩
  obtain ⟨e, a', w', hq, harr⟩ := key m a w h₀
  exact ⟨e, a', w', hq, .of_steps (.one (fenced_calm hb hr rfl) stepR_loop) harr⟩

/-- I m T L: what holds at the head of a round, m more rounds at most -/
theorem AWp.loop {c : Code} (I : Nat → Tm → List Blk → Prop) {m : Nat} (h₀ : I m T L)
    (round : ∀ m T L, I m T L → AWp C c (thenQ (fun T' L' => ∃ m', m' < m ∧ I m' T' L') Q) T L) : AWp C (.loop c) Q T L := by
  intro β₀ M₀ L₀ W₀ β M a W hc hs
  refine wpIn_loop_rel (fun m a W => ∃ β M T L, I m T L ∧ Conc C.G C.N T L β M a W ∧ Step C.K β₀ M₀ L₀ W₀ β M L W) (m := m) ⟨β, M, T, L, h₀, hc, hs⟩ ?_
  rintro m a W ⟨β, M, T, L, hI, hc, hs⟩
  refine wpIn_mono (round m T L hI β₀ M₀ L₀ W₀ β M a W hc hs) ?_
  rintro e a' W' ⟨β', M', T', L', q, hc', hs'⟩
  cases e with
  | normal => obtain ⟨m', hm, hI'⟩ := q; exact ⟨m', hm, β', M', T', L', hI', hc', hs'⟩
  | exit id => exact ⟨β', M', T', L', q, hc', hs'⟩
  | goto l => exact ⟨β', M', T', L', q, hc', hs'⟩
  | ret => exact ⟨β', M', T', L', q, hc', hs'⟩
  | panic ch => exact ⟨β', M', T', L', q, hc', hs'⟩
  | outgrown => exact ⟨β', M', T', L', q, hc', hs'⟩

/-- slots may be forgotten -/
theorem Conc.tms {G : Globs} {N : Nat} {T' : Tm} {β : List Gh} {M : Nat → Prop} {a : Act} {W : World} (h : Conc G N T L β M a W)
    (ht : ∀ k x, get T' k = some x → get T k = some x) : Conc G N T' L β M a W :=
  ⟨h.size, fun k x hk => h.tm k x (ht k x hk), h.sat, h.dfr⟩
theorem AWp.tms {c : Code} (T' : Tm) (ht : ∀ k x, get T' k = some x → get T k = some x) (h : AWp C c Q T' L) : AWp C c Q T L :=
  fun β₀ M₀ L₀ W₀ β M a W hc hs => h β₀ M₀ L₀ W₀ β M a W (hc.tms ht) hs

/-! ### Regions -/
theorem AWp.region {id : Nat} {l : List Oper} (h : AL C l.toArray Q l T L) : AWp C (.region id l.toArray false) Q T L :=
  fun β₀ M₀ L₀ W₀ β M a W hc hs => wpIn_region_lit (h β₀ M₀ L₀ W₀ β M a W hc hs)

theorem AL.nil {ops : Array Oper} (h : Q .normal T L) : AL C ops Q [] T L :=
  fun _ _ _ _ _ _ _ _ hc hs => wpListIn_nil ⟨_, _, _, _, h, hc, hs⟩

theorem OpTo.wp {o : Oper} {Φ : Tm → List Blk → Prop} (h : OpTo C o T L Φ) {β : List Gh} {M : Nat → Prop} {a : Act} {W : World} (hc : Conc C.G C.N T L β M a W)
    {next : Act → World → Prop} {Qx : Exit → Act → World → Prop}
    (hk : ∀ β' M' a' W' T' L', Φ T' L' → Conc C.G C.N T' L' β' M' a' W' → Step C.K β M L W β' M' L' W' → next a' W') : o.wpIn (FW C.ro) 0 C.P a W next Qx :=
  ⟨fun _ _ => trivial, h β M a W hc next Qx hk⟩

theorem AL.cons {ops : Array Oper} {o : Oper} {rest : List Oper} {Φ : Tm → List Blk → Prop} (ho : OpTo C o T L Φ) (hg : o.guard = none)
    (k : ∀ T' L', Φ T' L' → AL C ops Q rest T' L') : AL C ops Q (o :: rest) T L := by
  intro β₀ M₀ L₀ W₀ β M a W hc hs
  refine wpListIn_plain hg fun K hK => ho.wp hc ?_
  intro β' M' a' W' T' L' hΦ hc' hs'
  exact hK _ _ (k T' L' hΦ β₀ M₀ L₀ W₀ β' M' a' W' hc' (hs.trans hs'))

/-- what a guard asks for -/
def yieldsT (ops : Array Oper) (T : Tm) (j : Nat) : Option SV := ((ops[j]?).bind (·.dst)).bind (get T)

theorem yielded_of {G : Globs} {N : Nat} {β : List Gh} {M : Nat → Prop} {a : Act} {W : World} {ops : Array Oper} {j : Nat} {u : Value} (hc : Conc G N T L β M a W)
    (h : yieldsT ops T j = some (.im (.v u))) : yielded ops a.tmps j = match u with | .bool b => some b | _ => none := by
  unfold yieldsT at h
  unfold yielded
  cases hd : (ops[j]?).bind (·.dst) with
  | none => simp [hd] at h
  | some d =>
    simp only [hd, Option.bind_some] at h
    obtain ⟨u', hu, hr⟩ := hc.tm d _ h
    have := hr.bool
    subst this
    simp only [Option.bind_some, hu]
    cases u' <;> rfl

theorem AL.want {ops : Array Oper} {o : Oper} {rest : List Oper} {Φ : Tm → List Blk → Prop} (ho : OpTo C o T L Φ) {j : Nat} {b : Bool} (hg : o.guard = some (j, b))
    (hy : yieldsT ops T j = some (.im (.v (.bool b)))) (k : ∀ T' L', Φ T' L' → AL C ops Q rest T' L') : AL C ops Q (o :: rest) T L := by
  intro β₀ M₀ L₀ W₀ β M a W hc hs
  have hw : Region.wanted o (yielded ops a.tmps) = true := by
    simp [Region.wanted, hg, yielded_of hc hy]
  refine wpListIn_step fun K hK => ?_
  rw [if_pos hw]
  refine ho.wp hc ?_
  intro β' M' a' W' T' L' hΦ hc' hs'
  exact hK _ _ (k T' L' hΦ β₀ M₀ L₀ W₀ β' M' a' W' hc' (hs.trans hs'))

theorem AL.pass {ops : Array Oper} {o : Oper} {rest : List Oper} {j : Nat} {b : Bool} {u : Value} (hg : o.guard = some (j, b))
    (hy : yieldsT ops T j = some (.im (.v u))) (hu : (match u with | .bool b' => some b' | _ => none) ≠ some b) (hd : ∀ d, o.dst = some d → d < C.N)
    (k : AL C ops Q rest (put T o.dst (.im (.v undef))) L) : AL C ops Q (o :: rest) T L := by
  intro β₀ M₀ L₀ W₀ β M a W hc hs
  have hw : Region.wanted o (yielded ops a.tmps) = false := by
    simp only [Region.wanted, hg, yielded_of hc hy]
    simpa using hu
  refine wpListIn_step fun K hK => ?_
  rw [if_neg (by simp [hw])]
  refine ⟨fun _ _ => trivial, hK _ _ (k β₀ M₀ L₀ W₀ β M _ W (hc.put hd (.im (.v undef))) hs)⟩
end
end Av
end

section
/- The engine, part 3: the operations. -/
namespace Av
open Go

/-! ### Types -/
inductive TK where
  | int (k : IntKind) | bool | str | ptr (e : TypeId) | slice (e : TypeId) | array (n : Nat) (e : TypeId) | struct | other
  deriving DecidableEq

structure TI where
  agg : Bool
  size : Nat
  bytes : Nat
  zero : Option (List Value)
  fields : List (Nat × Nat)
  kind : TK

def kindOf : TypeDesc → TK
  | .int k => .int k
  | .bool => .bool
  | .string => .str
  | .pointer e => .ptr e
  | .slice e => .slice e
  | .array n e => .array n e
  | .struct _ => .struct
  | _ => .other

def isAggD : TypeDesc → Bool
  | .struct _ | .array _ _ => true
  | _ => false

def fieldsOf (P : Program) : TypeDesc → List (Nat × Nat)
  | .struct fs => fs.toList.map fun f => (f.offset, ((P.info? f.type).map (·.size)).getD 0)
  | _ => []

def tinfo (P : Program) (t : TypeId) : Option TI :=
  match P.underlying t, P.info? t with
  | some d, some i => some { agg := isAggD d, size := i.size, bytes := i.bytes, zero := i.zero.map (·.cells.toList), fields := fieldsOf P d, kind := kindOf d }
  | _, _ => none

section
variable {P : Program} {t : TypeId} {ti : TI} {W : World}

theorem tinfo_spec (h : tinfo P t = some ti) : ∃ d i, P.underlying t = some d ∧ P.info? t = some i ∧
    ti = { agg := isAggD d, size := i.size, bytes := i.bytes, zero := i.zero.map (·.cells.toList), fields := fieldsOf P d, kind := kindOf d } := by
  unfold tinfo at h
  split at h
  · rename_i d i hd hi; simp only [Option.some.injEq] at h; exact ⟨d, i, hd, hi, h.symm⟩
  · cases h

theorem run_isAgg (h : tinfo P t = some ti) : (isAgg t).run P W = .ok ti.agg W := by
  obtain ⟨d, i, hd, hi, rfl⟩ := tinfo_spec h
  simp [isAgg, underlying, hd]
  cases d <;> simp [isAggD]
theorem run_sizeOf (h : tinfo P t = some ti) : (Go.sizeOf t).run P W = .ok ti.size W := by
  obtain ⟨d, i, hd, hi, rfl⟩ := tinfo_spec h
  simp [Go.sizeOf, typeInfo, hi]
theorem run_typeInfo (h : tinfo P t = some ti) : ∃ i, (typeInfo t).run P W = .ok i W ∧ i.size = ti.size ∧ i.bytes = ti.bytes ∧ i.zero.map (·.cells.toList) = ti.zero := by
  obtain ⟨d, i, hd, hi, rfl⟩ := tinfo_spec h
  exact ⟨i, by simp [typeInfo, hi], rfl, rfl, rfl⟩
theorem run_zeroValue {z : List Value} (h : tinfo P t = some ti) (hz : ti.zero = some z) : ∃ u, (zeroValue t).run P W = .ok u W ∧ u.cells = z.toArray := by
  obtain ⟨d, i, hd, hi, rfl⟩ := tinfo_spec h
  simp only [Option.map_eq_some_iff] at hz
  obtain ⟨u, hu, rfl⟩ := hz
  exact ⟨u, by simp [zeroValue, typeInfo, hi, hu], by simp⟩
theorem run_underlying (h : tinfo P t = some ti) : ∃ d, (underlying t).run P W = .ok d W ∧ P.underlying t = some d ∧ kindOf d = ti.kind ∧ fieldsOf P d = ti.fields := by
  obtain ⟨d, i, hd, hi, rfl⟩ := tinfo_spec h
  exact ⟨d, by simp [underlying, hd], hd, rfl, rfl⟩
end

theorem add_mk (b o n : Nat) : (⟨b, o, none⟩ : Addr).add n = ⟨b, o + n, none⟩ := by
  unfold Addr.add; split <;> simp_all

/-! ### Loads -/
section
variable {P : Program} {t : TypeId} {ti : TI} {W : World}

theorem run_loadVar_agg {b o : Nat} {f : Nat → Value} (h : tinfo P t = some ti) (ha : ti.agg = true) (hc : ∀ j, j < ti.size → W.cell? ⟨b, o + j, none⟩ = some (f j)) :
    (loadVar t ⟨b, o, none⟩).run P W = .ok (.agg ((List.range ti.size).map f).toArray) W := by
  have hl := run_loadCells (P := P) W ⟨b, o, none⟩ ti.size f (fun j hj => by rw [add_mk]; exact hc j hj)
  simp [loadVar, run_isAgg h, ha, run_sizeOf h, hl]

theorem run_loadVar_one {b o : Nat} {u : Value} (h : tinfo P t = some ti) (ha : ti.agg = false) (hc : W.cell? ⟨b, o, none⟩ = some u) :
    (loadVar t ⟨b, o, none⟩).run P W = .ok u W := by
  simp [loadVar, run_isAgg h, ha, hc]
end

/-- a part of some cells -/
def part (ti : TI) (cs : List SV) (o : Nat) : Option SV :=
  if ti.agg then if o + ti.size ≤ cs.length then some (.agg ((cs.drop o).take ti.size)) else none else cs[o]?

theorem range_R {β : List Gh} {M : Nat → Prop} {W : World} {cs : List SV} {o n : Nat} {f : Nat → Value} (hn : o + n ≤ cs.length)
    (hr : ∀ j c, j < n → cs[o + j]? = some c → R β M W c (f j)) : R β M W (.agg ((cs.drop o).take n)) (.agg ((List.range n).map f).toArray) := by
  refine .agg (by simp; omega) f (fun j c hj => ?_) (fun j c hj => ?_)
  · have hlt : j < n := by
      rcases Nat.lt_or_ge j n with h | h
      · exact h
      · rw [List.getElem?_eq_none (by simp; omega)] at hj; cases hj
    simp [hlt]
  · have hlt : j < n := by
      rcases Nat.lt_or_ge j n with h | h
      · exact h
      · rw [List.getElem?_eq_none (by simp; omega)] at hj; cases hj
    rw [List.getElem?_take_of_lt hlt, List.getElem?_drop] at hj
    exact hr j c hlt hj

theorem part_R {P : Program} {t : TypeId} {ti : TI} {β : List Gh} {M : Nat → Prop} {W : World} {cs : List SV} {b o : Nat} {x : SV} (h : tinfo P t = some ti)
    (hx : part ti cs o = some x) (base : Nat) (f : Nat → Value) (hc : ∀ j c, cs[j]? = some c → W.cell? ⟨b, base + j, none⟩ = some (f j)) (hr : ∀ j c, cs[j]? = some c → R β M W c (f j)) :
    ∃ u, (loadVar t ⟨b, base + o, none⟩).run P W = .ok u W ∧ R β M W x u := by
  unfold part at hx
  split at hx
  · rename_i ha
    split at hx
    · rename_i hn
      simp only [Option.some.injEq] at hx; subst hx
      refine ⟨_, run_loadVar_agg h ha (f := fun j => f (o + j)) (fun j hj => ?_), range_R hn fun j c hj hc' => hr _ c hc'⟩
      rw [Nat.add_assoc]
      exact hc _ (cs[o + j]'(by omega)) (List.getElem?_eq_getElem _)
    · cases hx
  · rename_i ha
    exact ⟨f o, run_loadVar_one h (by simpa using ha) (hc _ _ hx), hr _ _ hx⟩

/-- what a pointer leads to -/
def rd (L : List Blk) (ti : TI) : SV → Option SV
  | .loc i o => match L[i]? with
    | some (.vars cs _) => part ti cs o
    | _ => none
  | .im (.pt cs o) => part ti (cs.map .im) o
  | .im (.ep s es k) => match es[k / s]? with
    | some e => part ti (e.map .im) (k % s)
    | none => none
  | _ => none

theorem cell_of_heap {W : World} {b o : Nat} {arr : Array Value} {t : TypeId} {f : Nat × Nat} (h : W.heap[b]? = some (.cells arr t f)) : W.cell? ⟨b, o, none⟩ = arr[o]? := by
  simp [World.cell?, h]

section
variable {C : Cx} {Q : QT} {T : Tm} {L : List Blk}

/-- an operation that hands back a value and leaves the world alone -/
theorem OpTo.pure {o : Oper} {x : SV} (hdf : ∀ c, o.op ≠ .defer c) (hd : ∀ d, o.dst = some d → d < C.N)
    (h : ∀ β M a W, Conc C.G C.N T L β M a W → ∃ u, (execOp a.eval o).run C.P W = .ok (.value u) W ∧ R β M W x u) :
    OpTo C o T L (fun T' L' => T' = put T o.dst x ∧ L' = L) := by
  intro β M a W hc next Qx hk
  obtain ⟨u, hu, hr⟩ := h β M a W hc
  rw [Oper.semAt_eq _ _ _ hdf, hu, Oper.uponIn_value]
  exact hk β M _ W _ _ ⟨rfl, rfl⟩ (hc.put hd hr) (Step.refl ..)

theorem OpTo.mono {o : Oper} {Φ Φ' : Tm → List Blk → Prop} (h : OpTo C o T L Φ) (hΦ : ∀ T' L', Φ T' L' → Φ' T' L') : OpTo C o T L Φ' :=
  fun β M a W hc next Qx hk => h β M a W hc next Qx fun β' M' a' W' T' L' hp => hk β' M' a' W' T' L' (hΦ _ _ hp)

/-- a pointer's block and place -/
theorem R.pt {β : List Gh} {M : Nat → Prop} {W : World} {cs : List IV} {o : Nat} {u : Value} (h : R β M W (.im (.pt cs o)) u) :
    ∃ (b : Nat) (val : Nat → Value), u = .pointer (some ⟨b, o, none⟩) ∧ (∀ (j : Nat) (c : IV), cs[j]? = some c → W.cell? ⟨b, j, none⟩ = some (val j)) ∧ ∀ (j : Nat) (c : IV), cs[j]? = some c → RI M W c (val j) := by
  cases h with | im h => cases h with | pt o val hb hM hc hr => exact ⟨_, val, rfl, hc, hr⟩

theorem Conc.vars {G : Globs} {N : Nat} {β : List Gh} {M : Nat → Prop} {a : Act} {W : World} (h : Conc G N T L β M a W) {i o : Nat} {u : Value} {cs : List SV} {bt : TypeId}
    (hu : R β M W (.loc i o) u) (hL : L[i]? = some (.vars cs bt)) :
    ∃ b arr, β[i]? = some (.blk b) ∧ u = .pointer (some ⟨b, o, none⟩) ∧ M b ∧ W.heap[b]? = some (.cells arr bt (0, 0)) ∧ arr.size = cs.length ∧
      ∀ (k : Nat) (c : SV), cs[k]? = some c → R β M W c (arr.getD k undef) := by
  cases hu with
  | loc _ hg =>
    obtain ⟨hM, arr, hh, hsz, hc⟩ := h.sat.ok i _ _ hg hL
    refine ⟨_, arr, hg, rfl, hM, hh, hsz, fun k c hk => ?_⟩
    obtain ⟨u, hu, hr⟩ := hc k c hk
    simpa [Array.getD_eq_getD_getElem?, hu] using hr

theorem rd_R {β : List Gh} {M : Nat → Prop} {a : Act} {W : World} (hc : Conc C.G C.N T L β M a W) {t : TypeId} {ti : TI} (h : tinfo C.P t = some ti) {p x : SV} {u : Value}
    (hp : R β M W p u) (hx : rd L ti p = some x) : ∃ v, (Instr.loadAt t u).run C.P W = .ok v W ∧ R β M W x v := by
  cases p with
  | loc i o =>
    simp only [rd] at hx
    split at hx
    · rename_i cs bt hL
      obtain ⟨b, arr, hg, rfl, hM, hh, hsz, hr⟩ := hc.vars hp hL
      obtain ⟨v, hv, hvr⟩ := part_R (b := b) h hx 0 (fun j => arr.getD j undef) (fun j c hj => by
        rw [Nat.zero_add, cell_of_heap hh]
        have : j < arr.size := by rw [hsz]; exact (List.getElem?_eq_some_iff.1 hj).1
        simp [Array.getD, this]) hr
      exact ⟨v, by simpa [Instr.loadAt, Instr.sureAddr] using hv, hvr⟩
    · cases hx
  | im y =>
    cases y with
    | pt cs o =>
      simp only [rd] at hx
      obtain ⟨b, val, rfl, hcl, hr⟩ := hp.pt
      obtain ⟨v, hv, hvr⟩ := part_R (β := β) (M := M) (b := b) h hx 0 val (fun j c hj => by
        rw [Nat.zero_add]
        simp only [List.getElem?_map, Option.map_eq_some_iff] at hj
        obtain ⟨c', hc', rfl⟩ := hj; exact hcl j c' hc') (fun j c hj => by
        simp only [List.getElem?_map, Option.map_eq_some_iff] at hj
        obtain ⟨c', hc', rfl⟩ := hj; exact R.im (β := β) (hr j c' hc'))
      exact ⟨v, by simpa [Instr.loadAt, Instr.sureAddr] using hv, hvr⟩
    | ep s es k =>
      simp only [rd] at hx
      split at hx
      · rename_i e he
        cases hp with | im hp => cases hp with
          | ep _ hsl => cases hsl with
            | emp => simp at he
            | sl val hb hM hcap hbd hlen hcl hr =>
              rename_i b off cap
              obtain ⟨v, hv, hvr⟩ := part_R (β := β) (M := M) (b := b) h hx (off + (k / s) * s) (fun j => val ((k / s) * s + j)) (fun j c hj => by
                simp only [List.getElem?_map, Option.map_eq_some_iff] at hj
                obtain ⟨c', hc', rfl⟩ := hj
                rw [Nat.add_assoc]; exact hcl _ e j c' he hc') (fun j c hj => by
                simp only [List.getElem?_map, Option.map_eq_some_iff] at hj
                obtain ⟨c', hc', rfl⟩ := hj; exact R.im (β := β) (hr _ e j c' he hc'))
              refine ⟨v, ?_, hvr⟩
              have : off + k / s * s + k % s = off + k := by rw [Nat.add_assoc, Nat.mul_comm, Nat.div_add_mod]
              rw [this] at hv
              simpa [Instr.loadAt, Instr.sureAddr] using hv
      · cases hx
    | _ => simp [rd] at hx
  | _ => simp [rd] at hx

theorem OpTo.load {o : Oper} {t : TypeId} {x : Operand} {ti : TI} {p y : SV} (ho : o.op = .load t x) (hd : ∀ d, o.dst = some d → d < C.N) (h : tinfo C.P t = some ti)
    (hp : aev C.G T x = some p) (hy : rd L ti p = some y) : OpTo C o T L (fun T' L' => T' = put T o.dst y ∧ L' = L) :=
  OpTo.pure (fun c => by rw [ho]; exact fun e => by cases e) hd fun β M a W hc => by
    obtain ⟨v, hv, hr⟩ := rd_R hc h (hc.ev hp) hy
    exact ⟨v, by simp [execOp, ho, hv], hr⟩
end
end Av
end

section
/- The engine, part 4: operations that change the world. -/
namespace Av
open Go

section
variable {C : Cx} {Q : QT} {T : Tm} {L : List Blk}

theorem getElem?_snoc_some {α : Type} {l : List α} {x y : α} {i : Nat} (h : (l ++ [x])[i]? = some y) : (i < l.length ∧ l[i]? = some y) ∨ (i = l.length ∧ y = x) := by
  rcases Nat.lt_trichotomy i l.length with hi | hi | hi
  · rw [List.getElem?_append_left hi] at h; exact .inl ⟨hi, h⟩
  · subst hi; simp at h; exact .inr ⟨rfl, h.symm⟩
  · rw [List.getElem?_eq_none (by simp; omega)] at h; cases h

theorem heap_alloc_lt (W : World) (o : Obj) {b : Nat} (h : b < W.heap.size) : (W.alloc o).heap[b]? = W.heap[b]? := by
  show (W.heap.push o)[b]? = _
  rw [Array.getElem?_push, if_neg (by omega)]

theorem still_alloc {M : Nat → Prop} {W : World} (o : Obj) : ∀ b, b < W.heap.size → ¬ M b → (W.alloc o).heap[b]? = W.heap[b]? ∧ ¬ (M b ∨ b = W.heap.size) :=
  fun b hb hM => ⟨heap_alloc_lt W o hb, fun h => h.elim hM (fun e => by omega)⟩

theorem β_snoc {β : List Gh} {x : Gh} : ∀ (i : Nat) (g : Gh), β[i]? = some g → (β ++ [x])[i]? = some g := fun i g h => by
  rw [List.getElem?_append_left (List.getElem?_eq_some_iff.1 h).1]; exact h

theorem BS.keep {β β' : List Gh} {M M' : Nat → Prop} {W W' : World} {g : Gh} {k : Blk} (hβ : ∀ (i : Nat) (g : Gh), β[i]? = some g → β'[i]? = some g)
    (hs : W.heap.size ≤ W'.heap.size) (h : ∀ b, b < W.heap.size → ¬ M b → W'.heap[b]? = W.heap[b]? ∧ ¬ M' b)
    (ho : ∀ b, own g k = some b → W'.heap[b]? = W.heap[b]? ∧ M' b) (hb : BS β M W g k) : BS β' M' W' g k := by
  cases g with
  | blk b =>
    cases k with
    | vars cs t =>
      obtain ⟨hM, arr, hh, hsz, hc⟩ := hb
      have := ho b rfl
      exact ⟨this.2, arr, this.1.trans hh, hsz, fun k c hk => let ⟨u, hu, hr⟩ := hc k c hk; ⟨u, hu, hr.ext hβ hs h⟩⟩
    | app s es t => exact hb.elim
    | obj o => exact ⟨(ho b rfl).2, (ho b rfl).1.trans hb.2⟩
    | mark => exact ⟨(ho b rfl).2, (ho b rfl).1.trans hb.2⟩
    | lp T d =>
      obtain ⟨hM, r, hh, hd, hc⟩ := hb
      have := ho b rfl
      exact ⟨this.2, r, this.1.trans hh, hd, fun k c hk => let ⟨u, hu, hr⟩ := hc k c hk; ⟨u, hu, hr.ext hβ hs h⟩⟩
    | dead => trivial
  | slc a n cap =>
    cases k with
    | vars cs t => exact hb.elim
    | obj o => exact hb.elim
    | mark => exact hb.elim
    | lp T d => exact hb.elim
    | dead => trivial
    | app s es t =>
      rcases hb with ⟨hn, hb | ⟨b, off, arr, rfl, hM, hh, hc0, hc1, hc2, hc3, hc4⟩⟩
      · exact ⟨hn, .inl hb⟩
      · have hc0' : cap ≠ 0 := by omega
        have := ho b (by simp [own, hc0'])
        exact ⟨hn, .inr ⟨b, off, arr, rfl, this.2, this.1.trans hh, hc0, hc1, hc2, hc3, fun i e j c h1 h2 => let ⟨u, hu, hr⟩ := hc4 i e j c h1 h2; ⟨u, hu, hr.ext hs h⟩⟩⟩

/-- a new block -/
theorem Conc.alloc {G : Globs} {N : Nat} {β : List Gh} {M : Nat → Prop} {a : Act} {W : World} {K : Kf} (h : Conc G N T L β M a W) (o : Obj) (g : Gh) (k : Blk) (hk : k.isMark = false)
    (ho : own g k = some W.heap.size) (hb : BS (β ++ [g]) (fun b => M b ∨ b = W.heap.size) (W.alloc o) g k) :
    Conc G N T (L ++ [k]) (β ++ [g]) (fun b => M b ∨ b = W.heap.size) a (W.alloc o) ∧
      Step K β M L W (β ++ [g]) (fun b => M b ∨ b = W.heap.size) (L ++ [k]) (W.alloc o) := by
  have hsz : W.heap.size ≤ (W.alloc o).heap.size := by simp
  have hlen := h.sat.len
  refine ⟨⟨h.size, fun n x hx => ?_, ⟨by simp [hlen], ?_, ?_, ?_⟩, ?_⟩, ?_⟩
  · obtain ⟨u, hu, hr⟩ := h.tm n x hx
    exact ⟨u, hu, hr.ext β_snoc hsz (still_alloc o)⟩
  · intro i gi ki hg hL
    rcases getElem?_snoc_some hg with ⟨hi, hg'⟩ | ⟨hi, rfl⟩
    · rcases getElem?_snoc_some hL with ⟨_, hL'⟩ | ⟨hi', _⟩
      · refine (h.sat.ok i gi ki hg' hL').keep β_snoc hsz (still_alloc o) (fun b hb => ?_)
        have := h.sat.owned ⟨i, gi, ki, hg', hL', hb⟩
        exact ⟨heap_alloc_lt W o this.2, .inl this.1⟩
      · omega
    · rcases getElem?_snoc_some hL with ⟨hi', _⟩ | ⟨_, rfl⟩
      · omega
      · exact hb
  · intro i j gi gj ki kj b hgi hLi hgj hLj hoi hoj
    rcases getElem?_snoc_some hgi with ⟨hi, hgi'⟩ | ⟨hi, rfl⟩ <;> rcases getElem?_snoc_some hLi with ⟨hi', hLi'⟩ | ⟨hi', rfl⟩ <;>
      rcases getElem?_snoc_some hgj with ⟨hj, hgj'⟩ | ⟨hj, rfl⟩ <;> rcases getElem?_snoc_some hLj with ⟨hj', hLj'⟩ | ⟨hj', rfl⟩ <;> try omega
    · exact h.sat.dis i j gi gj ki kj b hgi' hLi' hgj' hLj' hoi hoj
    · have := (h.sat.owned ⟨i, gi, ki, hgi', hLi', hoi⟩).2
      rw [ho] at hoj; cases hoj; omega
    · have := (h.sat.owned ⟨j, gj, kj, hgj', hLj', hoj⟩).2
      rw [ho] at hoi; cases hoi; omega
  · intro g' cs hg
    exact (h.sat.glob g' cs hg).ext hsz (still_alloc o)
  · rw [h.dfr, marks_append _ _ _ _ hlen, marks_none [g] [k] (fun k' hk' => by simp at hk'; subst hk'; exact hk)]; simp
  · refine ⟨fun i g' hi hg => β_snoc i g' hg, fun i g _ hg => ⟨g, β_snoc i g hg, g.kin_refl⟩, rfl, rfl, rfl, hsz, fun b hb _ => heap_alloc_lt W o hb, fun b hb _ => ⟨fun h => h.elim id (fun e => by omega), .inl⟩, ?_⟩
    rintro b hb ⟨i, gi, ki, hg, hL, hoi⟩
    rcases getElem?_snoc_some hg with ⟨hi, hg'⟩ | ⟨hi, rfl⟩
    · rcases getElem?_snoc_some hL with ⟨_, hL'⟩ | ⟨hi', _⟩
      · exact ⟨i, gi, ki, hg', hL', hoi⟩
      · omega
    · rcases getElem?_snoc_some hL with ⟨hi', _⟩ | ⟨_, rfl⟩
      · omega
      · rw [ho] at hoi; cases hoi; omega

/-- a symbolic value's cells -/
def cellsOf : SV → Option (List SV)
  | .agg cs => some cs
  | .im (.v (.agg a)) => some (a.toList.map fun x => .im (.v x))
  | .im (.v (.tuple _)) => none
  | .tup _ => none
  | .any => none
  | x => some [x]

theorem cells_R {β : List Gh} {M : Nat → Prop} {W : World} {x : SV} {u : Value} {cs : List SV} (h : R β M W x u) (hc : cellsOf x = some cs) :
    u.cells.size = cs.length ∧ ∀ (k : Nat) (c : SV), cs[k]? = some c → ∃ v : Value, u.cells[k]? = some v ∧ R β M W c v := by
  have one : ∀ {y : SV} {v : Value}, R β M W y v → v.cells = #[v] → v.cells.size = [y].length ∧ ∀ (k : Nat) (c : SV), [y][k]? = some c → ∃ v' : Value, v.cells[k]? = some v' ∧ R β M W c v' := by
    intro y v hr hv
    refine ⟨by rw [hv]; rfl, fun k c hk => ?_⟩
    cases k with
    | zero => simp at hk; subst hk; exact ⟨v, by rw [hv]; rfl, hr⟩
    | succ k => simp at hk
  cases h with
  | agg hs val hv hr =>
    simp only [cellsOf, Option.some.injEq] at hc; subst hc
    exact ⟨hs, fun k c hk => ⟨val k, hv k c hk, hr k c hk⟩⟩
  | tup hs val hv hr => simp [cellsOf] at hc
  | any u => simp [cellsOf] at hc
  | loc o hg => simp only [cellsOf, Option.some.injEq] at hc; subst hc; exact one (.loc o hg) rfl
  | sub s lo hi m cp hg hcp => simp only [cellsOf, Option.some.injEq] at hc; subst hc; exact one (.sub s lo hi m cp hg hcp) rfl
  | ap k hg => simp only [cellsOf, Option.some.injEq] at hc; subst hc; exact one (.ap k hg) rfl
  | yl hg => simp only [cellsOf, Option.some.injEq] at hc; subst hc; exact one (.yl hg) rfl
  | app hg => simp only [cellsOf, Option.some.injEq] at hc; subst hc; exact one (.app hg) rfl
  | im hi =>
    cases hi with
    | v _ =>
      cases u with
      | agg a =>
        simp only [cellsOf, Option.some.injEq] at hc; subst hc
        refine ⟨by simp [Value.cells], fun k c hk => ?_⟩
        simp only [List.getElem?_map, Option.map_eq_some_iff] at hk
        obtain ⟨v, hv, rfl⟩ := hk
        exact ⟨v, by simpa [Value.cells] using hv, .im (.v v)⟩
      | tuple a => simp [cellsOf] at hc
      | _ => simp only [cellsOf, Option.some.injEq] at hc; subst hc; exact one (.im (.v _)) rfl
    | e0 a => simp only [cellsOf, Option.some.injEq] at hc; subst hc; exact one (.im (.e0 a)) rfl
    | emp s a cap => simp only [cellsOf, Option.some.injEq] at hc; subst hc; exact one (.im (.emp s a cap)) rfl
    | sl val hb hM hcap hbd hlen hcl hr => simp only [cellsOf, Option.some.injEq] at hc; subst hc; exact one (.im (.sl val hb hM hcap hbd hlen hcl hr)) rfl
    | ep k h => simp only [cellsOf, Option.some.injEq] at hc; subst hc; exact one (.im (.ep k h)) rfl
    | pt o val hb hM hcl hr => simp only [cellsOf, Option.some.injEq] at hc; subst hc; exact one (.im (.pt o val hb hM hcl hr)) rfl
    | fn hu hs valf val hvf hrf hv hr => simp only [cellsOf, Option.some.injEq] at hc; subst hc; exact one (.im (.fn hu hs valf val hvf hrf hv hr)) rfl

/-- 'alloc', 'box': a new variable -/
theorem OpTo.newVar {o : Oper} {t : TypeId} {cs : List SV} (hdf : ∀ c, o.op ≠ .defer c) (hd : ∀ d, o.dst = some d → d < C.N)
    (h : ∀ β M a W, Conc C.G C.N T L β M a W → ∃ arr : Array Value, (execOp a.eval o).run C.P W = .ok (.value (.pointer (some ⟨W.heap.size, 0, none⟩))) (W.alloc (.cells arr t)) ∧
      arr.size = cs.length ∧ ∀ (k : Nat) (c : SV), cs[k]? = some c → ∃ v : Value, arr[k]? = some v ∧ R β M W c v) :
    OpTo C o T L (fun T' L' => T' = put T o.dst (.loc L.length 0) ∧ L' = L ++ [.vars cs t]) := by
  intro β M a W hc next Qx hk
  obtain ⟨arr, hu, hsz, hr⟩ := h β M a W hc
  rw [Oper.semAt_eq _ _ _ hdf, hu, Oper.uponIn_value]
  obtain ⟨hc', hs'⟩ := hc.alloc (K := C.K) (.cells arr t) (.blk W.heap.size) (.vars cs t) rfl rfl ⟨.inr rfl, arr, World.alloc_heap_new W _, hsz, fun k c hk => by
    obtain ⟨v, hv, hr'⟩ := hr k c hk
    exact ⟨v, hv, hr'.ext β_snoc (by simp) (still_alloc _)⟩⟩
  refine hk _ _ _ _ _ _ ⟨rfl, rfl⟩ (hc'.put hd (.loc 0 ?_)) hs'
  rw [← hc.sat.len]; simp

theorem OpTo.alloc {o : Oper} {t : TypeId} {ti : TI} {z : List Value} (ho : o.op = .alloc t) (hd : ∀ d, o.dst = some d → d < C.N) (h : tinfo C.P t = some ti) (hz : ti.zero = some z) :
    OpTo C o T L (fun T' L' => T' = put T o.dst (.loc L.length 0) ∧ L' = L ++ [.vars (z.map fun x => .im (.v x)) t]) :=
  OpTo.newVar (fun c => by rw [ho]; exact fun e => by cases e) hd fun β M a W hc => by
    obtain ⟨u, hu, hcl⟩ := run_zeroValue (W := W) h hz
    refine ⟨z.toArray, ?_, by simp, fun k c hk => ?_⟩
    · simp [execOp, ho, Instr.alloc, hu, Go.newVar, newRow, hcl]
    · simp only [List.getElem?_map, Option.map_eq_some_iff] at hk
      obtain ⟨v, hv, rfl⟩ := hk
      exact ⟨v, by simpa using hv, .im (.v v)⟩

theorem OpTo.box {o : Oper} {t : TypeId} {x : Operand} {s : SV} {cs : List SV} (ho : o.op = .box t x) (hd : ∀ d, o.dst = some d → d < C.N) (hx : aev C.G T x = some s) (hcs : cellsOf s = some cs) :
    OpTo C o T L (fun T' L' => T' = put T o.dst (.loc L.length 0) ∧ L' = L ++ [.vars cs t]) :=
  OpTo.newVar (fun c => by rw [ho]; exact fun e => by cases e) hd fun β M a W hc => by
    obtain ⟨h1, h2⟩ := cells_R (hc.ev hx) hcs
    exact ⟨(a.eval x).cells, by simp [execOp, ho, Instr.box, Go.newVar, newRow], h1, h2⟩

/-! ### Stores -/
def splice {α : Type} (cs : List α) : Nat → List α → List α
  | _, [] => cs
  | o, x :: xs => splice (cs.set o x) (o + 1) xs

theorem splice_length {α : Type} : ∀ (xs cs : List α) (o : Nat), (splice cs o xs).length = cs.length
  | [], _, _ => rfl
  | x :: xs, cs, o => by rw [splice, splice_length xs]; simp

theorem splice_get {α : Type} : ∀ (xs cs : List α) (o k : Nat), o + xs.length ≤ cs.length → (splice cs o xs)[k]? = if o ≤ k ∧ k < o + xs.length then xs[k - o]? else cs[k]?
  | [], cs, o, k, h => by simp [splice]; omega
  | x :: xs, cs, o, k, h => by
    simp only [List.length_cons] at h
    rw [splice, splice_get xs (cs.set o x) (o + 1) k (by simp; omega)]
    by_cases h1 : o + 1 ≤ k ∧ k < o + 1 + xs.length
    · rw [if_pos h1, if_pos (by simp; omega), show k - o = (k - (o + 1)) + 1 by omega, List.getElem?_cons_succ]
    · rw [if_neg h1]
      by_cases h2 : k = o
      · subst h2; rw [if_pos (by simp), List.getElem?_set_self (by omega)]; simp
      · rw [if_neg (by simp; omega), List.getElem?_set_ne (by omega)]

theorem setCell_blk {W : World} {b o : Nat} {arr : Array Value} {t : TypeId} {f : Nat × Nat} (h : W.heap[b]? = some (.cells arr t f)) (v : Value) :
    W.setCell ⟨b, o, none⟩ v = W.putObj b (.cells (arr.setIfInBounds o v) t f) := by
  have hb : b < W.heap.size := (Array.getElem?_eq_some_iff.1 h).1
  unfold World.setCell World.putObj
  congr 1
  apply Array.ext_getElem?
  intro i
  rw [Array.getElem?_modify]
  by_cases hi : i = b
  · subst hi; rw [if_pos rfl, h]; simp [hb]
  · rw [if_neg (Ne.symm hi), Array.getElem?_setIfInBounds_ne (Ne.symm hi)]

theorem putObj_putObj (W : World) (b : Nat) (o o' : Obj) : (W.putObj b o).putObj b o' = W.putObj b o' := by
  unfold World.putObj
  congr 1
  simp

theorem run_storeCells_blk {P : Program} {b : Nat} {t : TypeId} : ∀ (vs : List Value) (W : World) (arr : Array Value) (o i : Nat), W.heap[b]? = some (.cells arr t (0, 0)) →
    (∀ v, v ∈ vs → v.oneCell' = true) → o + i + vs.length ≤ arr.size →
    ∃ arr' : Array Value, (storeCells ⟨b, o, none⟩ vs i).run P W = .ok () (W.putObj b (.cells arr' t (0, 0))) ∧ arr'.toList = splice arr.toList (o + i) vs
  | [], W, arr, o, i, h, _, _ => ⟨arr, by
      have : W.putObj b (.cells arr t (0, 0)) = W := by
        unfold World.putObj
        have hb : b < W.heap.size := (Array.getElem?_eq_some_iff.1 h).1
        have he : W.heap.setIfInBounds b (.cells arr t (0, 0)) = W.heap := by
          apply Array.ext_getElem?
          intro j
          by_cases hj : j = b
          · subst hj; rw [h]; simp [hb]
          · rw [Array.getElem?_setIfInBounds_ne (Ne.symm hj)]
        rw [he]
      rw [this]; rfl, rfl⟩
  | v :: vs, W, arr, o, i, h, hv, hn => by
    simp only [List.length_cons] at hn
    have hb : b < W.heap.size := (Array.getElem?_eq_some_iff.1 h).1
    have hcell : W.cell? ⟨b, o + i, none⟩ = some (arr[o + i]'(by omega)) := by rw [cell_of_heap h]; simp
    have hfz : W.frozen? ⟨b, o + i, none⟩ = false := by simp [World.frozen?, h]
    have h' : (W.putObj b (.cells (arr.setIfInBounds (o + i) v) t (0, 0))).heap[b]? = some (.cells (arr.setIfInBounds (o + i) v) t (0, 0)) := World.putObj_heap_same hb
    obtain ⟨arr', h1, h2⟩ := run_storeCells_blk (P := P) vs _ (arr.setIfInBounds (o + i) v) o (i + 1) h' (fun u hu => hv u (List.mem_cons_of_mem _ hu)) (by simp; omega)
    refine ⟨arr', ?_, ?_⟩
    · have hst : (store ⟨b, o + i, none⟩ v .plain).run P W = .ok () (W.putObj b (.cells (arr.setIfInBounds (o + i) v) t (0, 0))) := by
        rw [run_store P W _ v .plain (hv v List.mem_cons_self), hcell]
        simp only [hfz, setCell_blk h]
        rfl
      rw [putObj_putObj] at h1
      simp only [storeCells, add_mk, Sem.run_bind]
      have : (store ⟨b, o + i, none⟩ v).run P W = .ok () (W.putObj b (.cells (arr.setIfInBounds (o + i) v) t (0, 0))) := hst
      rw [this, Result.andThen_ok, h1]
    · rw [h2]
      simp [splice, Nat.add_assoc]
end
end Av
end
