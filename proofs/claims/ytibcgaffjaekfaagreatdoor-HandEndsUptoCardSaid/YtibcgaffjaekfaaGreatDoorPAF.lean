/- Part 6 of 22 of a proof: own engine, contracts and facts. -/
import Derived.Laws.StructEq
import Derived.DeepKeys
import Derived.Test.YtibcgaffjaekfaaGreatDoorPAE
set_option linter.all false
section
/- The engine, part 18: variables that are written no more. -/
set_option linter.unusedSimpArgs false
namespace Av
open Go
section
variable {C : Cx} {Q : QT} {T : Tm} {L : List Blk}

mutual
/-- a variable that is written no more: everywhere its address leads to what stays -/
def SV.frv (i : Nat) (v : List IV) : SV → SV
  | .app j => .app j
  | .agg cs => .agg (frvL i v cs)
  | .tup cs => .tup (frvL i v cs)
  | .im x => .im x
  | .loc j o => if j = i then .im (.pt v o) else .loc j o
  | .sub j s lo hi m => .sub j s lo hi m
  | .ap j k => .ap j k
  | .yl j => .yl j
  | .any => .any
def frvL (i : Nat) (v : List IV) : List SV → List SV
  | [] => []
  | x :: xs => SV.frv i v x :: frvL i v xs
end
theorem frvL_eq (i : Nat) (v : List IV) : ∀ xs, frvL i v xs = xs.map (SV.frv i v)
  | [] => rfl
  | x :: xs => by simp [frvL, frvL_eq i v xs]
def Blk.frv (i : Nat) (v : List IV) : Blk → Blk
  | .vars cs t => .vars (frvL i v cs) t
  | .lp T d => .lp (mapT (SV.frv i v) T) d
  | k => k
def frvT (i : Nat) (v : List IV) : Tm → Tm
  | [] => []
  | (k, x) :: T => (k, x.frv i v) :: frvT i v T
def frvB (i : Nat) (v : List IV) : Nat → List Blk → List Blk
  | _, [] => []
  | 0, _ :: L => .dead :: L.map (Blk.frv i v)
  | n + 1, k :: L => k.frv i v :: frvB i v n L

theorem frvT_get (i : Nat) (v : List IV) : ∀ (T : Tm) (k : Nat), get (frvT i v T) k = (get T k).map (SV.frv i v)
  | [], _ => rfl
  | (k', x) :: T, k => by simp only [frvT, get]; split <;> simp [frvT_get i v T k]

theorem frvB_get (i : Nat) (v : List IV) : ∀ (n : Nat) (L : List Blk) (j : Nat), (frvB i v n L)[j]? = if j = n then (L[j]?).map (fun _ => .dead) else (L[j]?).map (Blk.frv i v)
  | n, [], j => by simp [frvB]
  | 0, k :: L, j => by cases j <;> simp [frvB]
  | n + 1, k :: L, j => by cases j <;> simp [frvB, frvB_get i v n L]

theorem R.frv {β : List Gh} {M M' : Nat → Prop} {W : World} {i : Nat} {v : List IV} (hM : ∀ b, M' b → M b) (hv : ∀ o u, R β M W (.loc i o) u → RI M' W (.pt v o) u) {x : SV} {u : Value} (r : R β M W x u) : R β M' W (x.frv i v) u := by
  induction r with
  | im hi => simp only [SV.frv]; exact .im (hi.ext (Nat.le_refl _) fun b _ h => ⟨rfl, fun h' => h (hM b h')⟩)
  | app hg => exact .app hg
  | loc o hg =>
    simp only [SV.frv]; split
    · rename_i e; subst e; exact .im (hv _ _ (.loc o hg))
    · exact .loc o hg
  | sub s lo hi m cp hg hcp => exact .sub s lo hi m cp hg hcp
  | ap k hg => exact .ap k hg
  | agg hsz val hv _ ih =>
    simp only [SV.frv, frvL_eq]
    refine .agg (by simpa using hsz) val (fun j c hj => ?_) (fun j c hj => ?_)
    all_goals (simp only [List.getElem?_map, Option.map_eq_some_iff] at hj; obtain ⟨c', hc', rfl⟩ := hj)
    · exact hv j c' hc'
    · exact ih j c' hc'
  | tup hsz val hv _ ih =>
    simp only [SV.frv, frvL_eq]
    refine .tup (by simpa using hsz) val (fun j c hj => ?_) (fun j c hj => ?_)
    all_goals (simp only [List.getElem?_map, Option.map_eq_some_iff] at hj; obtain ⟨c', hc', rfl⟩ := hj)
    · exact hv j c' hc'
    · exact ih j c' hc'
  | yl hg => exact .yl hg
  | any u => exact .any u

theorem Conc.freezeV {G : Globs} {N : Nat} {K : Kf} {β : List Gh} {M : Nat → Prop} {a : Act} {W : World} (h : Conc G N T L β M a W) {i : Nat} {cs : List IV} {t : TypeId} (hL : L[i]? = some (.vars (cs.map .im) t))  :
    ∃ M', Conc G N (frvT i cs T) (frvB i cs i L) β M' a W ∧ Step K β M L W β M' (frvB i cs i L) W := by
  have hi : i < L.length := (List.getElem?_eq_some_iff.1 hL).1
  obtain ⟨g, hg⟩ : ∃ g, β[i]? = some g := ⟨β[i]'(by rw [h.sat.len]; exact hi), List.getElem?_eq_getElem _⟩
  refine ⟨fun b => M b ∧ own g (.vars (cs.map .im) t) ≠ some b, ?_⟩
  have hB := h.sat.ok i g _ hg hL
  have hown : ∀ b, own g (.vars (cs.map .im) t) = some b → M b ∧ b < W.heap.size := fun b hb => h.sat.owned ⟨i, g, _, hg, hL, hb⟩
  have hM : ∀ b, (M b ∧ own g (.vars (cs.map .im) t) ≠ some b) → M b := fun b h => h.1
  have still : ∀ b, b < W.heap.size → ¬ M b → W.heap[b]? = W.heap[b]? ∧ ¬ (M b ∧ own g (.vars (cs.map .im) t) ≠ some b) := fun b _ hM => ⟨rfl, fun h => hM h.1⟩
  have hv : ∀ o u, R β M W (.loc i o) u → RI (fun b => M b ∧ own g (.vars (cs.map .im) t) ≠ some b) W (.pt cs o) u := by
    intro o u hu
    cases hu with
    | loc _ hg' =>
      rw [hg] at hg'; cases hg'
      obtain ⟨hMb, arr, hh, hsz, hcs⟩ := hB
      have key : ∀ (j : Nat) (c : IV), cs[j]? = some c → ∃ u : Value, arr[j]? = some u ∧ R β M W (.im c) u := fun j c hj => hcs j (.im c) (by simp [hj])
      refine .pt o (fun q => arr.getD q undef) (hown _ rfl).2 (fun h => h.2 rfl) (fun j c hj => ?_) (fun j c hj => ?_)
      all_goals obtain ⟨u, hu, hr⟩ := key j c hj
      · have hlt : j < arr.size := (Array.getElem?_eq_some_iff.1 hu).1
        rw [cell_of_heap hh]; simp [Array.getD, hlt]
      · have hlt : j < arr.size := (Array.getElem?_eq_some_iff.1 hu).1
        have : arr[j] = u := by rw [Array.getElem?_eq_getElem hlt] at hu; exact Option.some.inj hu
        have e2 : arr.getD j undef = u := by simp [Array.getD, hlt, this]
        show RI _ _ _ (arr.getD j undef)
        rw [e2]
        cases hr with | im hr => exact hr.ext (Nat.le_refl _) still
  have hfr : ∀ {x : SV} {u : Value}, R β M W x u → R β (fun b => M b ∧ own g (.vars (cs.map .im) t) ≠ some b) W (x.frv i cs) u := fun r => r.frv hM hv
  have dead_own : ∀ (g : Gh), own g .dead = none := by intro g; cases g with
    | blk b => rfl
    | slc a n c => cases a <;> rfl
  have own_frv : ∀ (g' : Gh) (k : Blk), own g' (k.frv i cs) = own g' k := by
    intro g' k; cases g' with
    | blk b => cases k <;> rfl
    | slc a n c => cases a <;> cases k <;> rfl
  have hcase : ∀ (j : Nat) (kj : Blk), (frvB i cs i L)[j]? = some kj → (j = i ∧ kj = .dead) ∨ (j ≠ i ∧ ∃ k, L[j]? = some k ∧ kj = k.frv i cs) := by
    intro j kj hj
    rw [frvB_get] at hj
    split at hj
    · rename_i e
      simp only [Option.map_eq_some_iff] at hj
      obtain ⟨_, _, rfl⟩ := hj
      exact .inl ⟨e, rfl⟩
    · rename_i e
      simp only [Option.map_eq_some_iff] at hj
      obtain ⟨k, hk, rfl⟩ := hj
      exact .inr ⟨e, k, hk, rfl⟩
  have hlen : (frvB i cs i L).length = L.length := by
    have : ∀ (n : Nat) (L : List Blk), (frvB i cs n L).length = L.length := by
      intro n L
      induction L generalizing n with
      | nil => simp [frvB]
      | cons k L ih => cases n <;> simp [frvB, ih]
    exact this _ _
  refine ⟨⟨h.size, fun n x hx => ?_, ⟨by rw [hlen]; exact h.sat.len, ?_, ?_, fun g' cs hg' => (h.sat.glob g' cs hg').ext (Nat.le_refl _) still⟩, ?_⟩,
    ⟨fun _ _ _ h => h, fun _ g _ h => ⟨g, h, g.kin_refl⟩, rfl, rfl, rfl, Nat.le_refl _, fun _ _ _ => rfl, fun b hb ho => ⟨fun h => h.1, fun h => ⟨h, fun e => ho ⟨i, g, _, hg, hL, e⟩⟩⟩, ?_⟩⟩
  · rw [frvT_get] at hx
    simp only [Option.map_eq_some_iff] at hx
    obtain ⟨y, hy, rfl⟩ := hx
    obtain ⟨u, hu, hr⟩ := h.tm n y hy
    exact ⟨u, hu, hfr hr⟩
  · intro j gj kj h1 h2
    rcases hcase j kj h2 with ⟨rfl, rfl⟩ | ⟨hne, k, hk, rfl⟩
    · cases gj <;> trivial
    · have hb := h.sat.ok j gj k h1 hk
      have hob : ∀ b, own gj k = some b → (M b ∧ own g (.vars (cs.map .im) t) ≠ some b) := fun b hb' =>
        ⟨(h.sat.owned ⟨j, gj, k, h1, hk, hb'⟩).1, fun e => hne (h.sat.dis j i gj g k _ b h1 hk hg hL hb' e)⟩
      cases gj with
      | blk b =>
        cases k with
        | vars cs t' =>
          obtain ⟨hMb, arr, hh, hsz, hcs⟩ := hb
          refine ⟨hob b rfl, arr, hh, by simpa [frvL_eq] using hsz, fun q c hq => ?_⟩
          simp only [frvL_eq, List.getElem?_map, Option.map_eq_some_iff] at hq
          obtain ⟨c', hc', rfl⟩ := hq
          obtain ⟨u, hu, hr⟩ := hcs q c' hc'
          exact ⟨u, hu, hfr hr⟩
        | app => exact hb.elim
        | obj o => exact ⟨hob b rfl, hb.2⟩
        | mark => exact ⟨hob b rfl, hb.2⟩
        | lp T d =>
          obtain ⟨hMb, r, hh, hd, hcs⟩ := hb
          refine ⟨hob b rfl, r, hh, hd, fun q c hq => ?_⟩
          rw [mapT_get, Option.map_eq_some_iff] at hq
          obtain ⟨c', hc', rfl⟩ := hq
          obtain ⟨u, hu, hr⟩ := hcs q c' hc'
          exact ⟨u, hu, hfr hr⟩
        | dead => trivial
      | slc ad n cap =>
        cases k with
        | vars cs t' => exact hb.elim
        | obj o => exact hb.elim
        | mark => exact hb.elim
        | lp T d => exact hb.elim
        | dead => trivial
        | app s' es' t' => exact BS.keep (k := .app s' es' t') (fun _ _ h => h) (Nat.le_refl _) still (fun b hb' => ⟨rfl, hob b hb'⟩) hb
  · intro j l gj gl kj kl c h1 h2 h3 h4 h5 h6
    rcases hcase j kj h2 with ⟨rfl, rfl⟩ | ⟨hne, k, hk, rfl⟩
    · rw [dead_own] at h5; cases h5
    · rcases hcase l kl h4 with ⟨rfl, rfl⟩ | ⟨hne', k', hk', rfl⟩
      · rw [dead_own] at h6; cases h6
      · rw [own_frv] at h5 h6; exact h.sat.dis j l gj gl k k' c h1 hk h3 hk' h5 h6
  · rw [h.dfr]
    have mk : ∀ (n : Nat) (β : List Gh) (L : List Blk), (∀ k, L[n]? = some k → k.isMark = false) → marks β (frvB i cs n L) = marks β L := by
      have mk0 : ∀ (β : List Gh) (L : List Blk), marks β (L.map (Blk.frv i cs)) = marks β L := by
        intro β
        induction β with
        | nil => intro L; cases L <;> rfl
        | cons g β ih =>
          intro L
          cases L with
          | nil => cases g <;> rfl
          | cons k L => cases g <;> cases k <;> simp [marks, Blk.frv, ih]
      intro n β
      induction β generalizing n with
      | nil => intro L _; cases L <;> cases n <;> rfl
      | cons g β ih =>
        intro L hL
        cases L with
        | nil => cases g <;> cases n <;> rfl
        | cons k L =>
          cases n with
          | zero =>
            have hk := hL k rfl
            cases g <;> cases k <;> first | (simp [frvB, marks, mk0]; done) | simp [Blk.isMark] at hk
          | succ n =>
            have := ih n L (fun k hk => hL k (by simpa using hk))
            cases g <;> cases k <;> simp [frvB, marks, Blk.frv, this]
    rw [mk i β L (fun k hk => by rw [hL] at hk; cases hk; rfl)]
  · rintro c hc ⟨j, gj, kj, h1, h2, h3⟩
    rcases hcase j kj h2 with ⟨rfl, rfl⟩ | ⟨hne, k, hk, rfl⟩
    · rw [dead_own] at h3; cases h3
    · rw [own_frv] at h3; exact ⟨j, gj, k, h1, hk, h3⟩

theorem AWp.freezeV {c : Code} (i : Nat) {cs : List IV} {t : TypeId} (hL : L[i]? = some (.vars (cs.map .im) t))  (h : AWp C c Q (frvT i cs T) (frvB i cs i L)) : AWp C c Q T L := by
  intro β₀ M₀ L₀ W₀ β M a W hc hs
  obtain ⟨M', h1, h2⟩ := hc.freezeV (K := C.K) hL
  exact h β₀ M₀ L₀ W₀ β M' a W h1 (hs.trans h2)
theorem AL.freezeV {ops : Array Oper} {l : List Oper} (i : Nat) {cs : List IV} {t : TypeId} (hL : L[i]? = some (.vars (cs.map .im) t))  (h : AL C ops Q l (frvT i cs T) (frvB i cs i L)) : AL C ops Q l T L := by
  intro β₀ M₀ L₀ W₀ β M a W hc hs
  obtain ⟨M', h1, h2⟩ := hc.freezeV (K := C.K) hL
  exact h β₀ M₀ L₀ W₀ β M' a W h1 (hs.trans h2)
end
end Av
end

section
/- The engine, part 19: slices that are made, cut, and gone into. -/
set_option linter.unusedSimpArgs false
namespace Av
open Go
section
variable {C : Cx} {Q : QT} {T : Tm} {L : List Blk}

def chunks {α : Type} (s : Nat) : Nat → List α → List (List α)
  | 0, _ => []
  | n + 1, cs => cs.take s :: chunks s n (cs.drop s)

theorem chunks_length {α : Type} (s : Nat) : ∀ (n : Nat) (cs : List α), (chunks s n cs).length = n
  | 0, _ => rfl
  | n + 1, cs => by simp [chunks, chunks_length s n]

theorem chunks_get {α : Type} (s : Nat) : ∀ (n : Nat) (cs : List α) (i : Nat) (e : List α) (j : Nat) (c : α), (chunks s n cs)[i]? = some e → e[j]? = some c → cs[i * s + j]? = some c
  | 0, _, i, e, j, c, h, _ => by simp [chunks] at h
  | n + 1, cs, 0, e, j, c, h, h2 => by
    simp [chunks] at h; subst h
    have hj : j < s := by
      have := (List.getElem?_eq_some_iff.1 h2).1
      simp at this; omega
    rw [List.getElem?_take_of_lt hj] at h2
    simpa using h2
  | n + 1, cs, i + 1, e, j, c, h, h2 => by
    simp [chunks] at h
    have := chunks_get s n _ i e j c h h2
    rw [List.getElem?_drop] at this
    rw [Nat.succ_mul, ← this]; congr 1; omega

theorem chunks_mem {α : Type} (s : Nat) : ∀ (n : Nat) (cs : List α), n * s ≤ cs.length → ∀ e, e ∈ chunks s n cs → e.length = s
  | 0, _, _, e, h => by simp [chunks] at h
  | n + 1, cs, hl, e, h => by
    rw [Nat.succ_mul] at hl
    simp only [chunks, List.mem_cons] at h
    rcases h with rfl | h
    · simp; omega
    · exact chunks_mem s n _ (by simp; omega) e h

/-- a new block that nothing will change, as a slice -/
theorem fresh_sl {G : Globs} {N : Nat} {K : Kf} {β : List Gh} {M : Nat → Prop} {a : Act} {W : World} (h : Conc G N T L β M a W) (arr : Array Value) (e : TypeId) (s n cap : Nat) (ivs : List IV) (hn : n * s ≤ ivs.length) (hcap : n ≤ cap) (hbig : n ≤ bigN)
    (hr : ∀ (k : Nat) (c : IV), k < n * s → ivs[k]? = some c → ∃ v : Value, arr[k]? = some v ∧ RI M W c v) :
    ∃ M', Conc G N T L β M' a (W.alloc (.cells arr e)) ∧ Step K β M L W β M' L (W.alloc (.cells arr e)) ∧ R β M' (W.alloc (.cells arr e)) (.im (.sl s (chunks s n ivs))) (.slice (some ⟨W.heap.size, 0, none⟩) n cap) := by
  obtain ⟨c1, c2, c3, c4, c5⟩ := h.fresh (K := K) (W' := W.alloc (.cells arr e)) (.cells arr e) (.inl rfl)
  refine ⟨_, c1, c2, .im ?_⟩
  have hl := chunks_length s n ivs
  have hm := chunks_mem s n ivs hn
  have hlt : ∀ (i : Nat) (r : List IV) (j : Nat) (c : IV), (chunks s n ivs)[i]? = some r → r[j]? = some c → i * s + j < n * s := by
    intro i r j c h1 h2
    have hi : i < n := by rw [← hl]; exact (List.getElem?_eq_some_iff.1 h1).1
    have hj : j < s := by rw [← hm r (List.mem_of_getElem? h1)]; exact (List.getElem?_eq_some_iff.1 h2).1
    calc i * s + j < i * s + s := by omega
      _ = (i + 1) * s := by rw [Nat.succ_mul]
      _ ≤ n * s := Nat.mul_le_mul_right _ hi
  have := RI.sl (M := fun b => M b ∧ b ≠ W.heap.size) (W := W.alloc (.cells arr e)) (s := s) (es := chunks s n ivs) (b := W.heap.size) (off := 0) (cap := cap) (fun q => arr.getD q undef) c4 (fun h => h.2 rfl) (by rw [hl]; exact hcap) (by rw [hl]; exact hbig) hm
    (fun i r j c h1 h2 => by
      obtain ⟨v, hv, _⟩ := hr _ c (hlt i r j c h1 h2) (chunks_get s n ivs i r j c h1 h2)
      have hlt' : i * s + j < arr.size := (Array.getElem?_eq_some_iff.1 hv).1
      rw [cell_of_heap c3]; simp [Array.getD, hlt'])
    (fun i r j c h1 h2 => by
      obtain ⟨v, hv, hr'⟩ := hr _ c (hlt i r j c h1 h2) (chunks_get s n ivs i r j c h1 h2)
      have hlt' : i * s + j < arr.size := (Array.getElem?_eq_some_iff.1 hv).1
      have e1 : arr[i * s + j] = v := by rw [Array.getElem?_eq_getElem hlt'] at hv; exact Option.some.inj hv
      have e2 : arr.getD (i * s + j) undef = v := by simp [Array.getD, hlt', e1]
      rw [e2]; exact hr'.ext (W := W) (by simp) c5)
  rw [hl] at this
  exact this

theorem buildS_len {place : Nat → Option (Nat × Nat)} : ∀ {ps : List (Nat × SV)} {z cs : List SV}, buildS place z ps = some cs → cs.length = z.length
  | [], z, cs, h => by simp only [buildS, Option.some.injEq] at h; rw [h]
  | (i, s) :: r, z, cs, h => by
    simp only [buildS] at h
    split at h
    · split at h
      · have := buildS_len h; rw [this, splice_length]
      · cases h
    · cases h

/-- '[]T{a, b, ..}' -/
theorem OpTo.buildN {o : Oper} {t e : TypeId} {n : Nat} {parts : Array (Nat × Operand)} {ti te : TI} {z : List Value} {ss cs : List SV} {ivs : List IV} (ho : o.op = .buildSlice t n parts) (hd : dstOk C.N o.dst = true)
    (hti : tinfo C.P t = some ti) (hk : ti.kind = .slice e) (hte : tinfo C.P e = some te) (hz : te.zero = some z) (hle : n * te.size ≤ 2 ^ 24) (hs : aevs C.G T (parts.toList.map (·.2)) = some ss)
    (hb : buildS (fun i => some (i * te.size, te.size)) (List.replicate (n * te.size) .any) ((parts.toList.map (·.1)).zip ss) = some cs) (hi : ims cs = some ivs) (hbig : n ≤ bigN) :
    OpTo C o T L (fun T' L' => T' = put T o.dst (.im (.sl te.size (chunks te.size n ivs))) ∧ L' = L) := by
  intro β M a W hc next Qx hkk
  obtain ⟨d, h1, h2, h3, h4⟩ := run_underlying (W := W) hti
  have hd' : d = .slice e := by rw [hk] at h3; cases d <;> simp [kindOf] at h3; subst h3; rfl
  subst hd'
  obtain ⟨b1, b2⟩ := build_args hc hs
  have hzs : n * te.size = 0 ∨ n * te.size ≠ 0 := Nat.eq_zero_or_pos _ |>.imp id Nat.pos_iff_ne_zero.1
  obtain ⟨u, hu, hcl⟩ := run_zeroValue (W := W) hte hz
  obtain ⟨zero, hzero⟩ : ∃ zero : Array Value, ∀ k : Array Value → Sem Value, (if n * te.size = 0 then (do let zero ← (Pure.pure #[] : Sem (Array Value)); k zero) else (do let x ← zeroValue e; let zero ← (Pure.pure x.cells : Sem (Array Value)); k zero) : Sem Value).run C.P W = (k zero).run C.P W := by
    rcases hzs with h | h
    · exact ⟨#[], fun k => by rw [if_pos h]; rfl⟩
    · exact ⟨u.cells, fun k => by rw [if_neg h, Sem.run_bind, hu]; rfl⟩
  obtain ⟨arr, ha, hbz, hcr⟩ := buildS_run (β := β) (M := M) (W := W) _ _ _ cs ((Array.range (n * te.size)).map (zero[· % zero.size]!)) (by simp) (fun k c hk => by
    rw [List.getElem?_replicate] at hk
    split at hk
    · rename_i hlt
      cases hk
      exact ⟨zero[k % zero.size]!, by simp [hlt], .any _⟩
    · cases hk) b1 b2 hb
  have hrun : (execOp a.eval o).run C.P W = .ok (.value (.slice (some ⟨W.heap.size, 0, none⟩) n n)) (W.alloc (.cells arr e)) := by
    simp only [execOp, ho, Instr.buildSlice, Sem.run_bind, h1, Result.andThen_ok, run_sizeOf hte]
    rw [if_neg (by omega)]
    have := hzero fun zero => do
      let some cells := Instr.fill (fun i => some (i * te.size, te.size)) ((Array.range (n * te.size)).map (zero[· % zero.size]!)) (parts.map fun x => (x.1, a.eval x.2)).toList | stuck "buildSlice: a part of the wrong size"
      Pure.pure (Value.slice (some (← newRow e cells)) n n)
    refine Eq.trans (congrArg (fun r => Result.andThen r _) this) ?_
    rw [ha]
    simp [newRow]
  rw [Oper.semAt_eq _ _ _ (fun c => by rw [ho]; exact fun e => by cases e), hrun, Oper.uponIn_value]
  have hiv := ims_spec hi
  subst hiv
  have hlen : ivs.length = n * te.size := by
    have h1 := buildS_len hb
    simpa using h1
  obtain ⟨M', c1, c2, c3⟩ := fresh_sl (K := C.K) hc arr e te.size n n ivs (by omega) (Nat.le_refl _) hbig (fun k c hk hc' => by
    obtain ⟨v, hv, hr⟩ := hcr k (.im c) (by simp [hc'])
    cases hr with | im hr => exact ⟨v, hv, hr⟩)
  exact hkk _ _ _ _ _ _ ⟨rfl, rfl⟩ (c1.put (dstOk_spec hd) c3) c2

theorem chunks_flatten {α : Type} {s : Nat} : ∀ {es : List (List α)}, (∀ e, e ∈ es → e.length = s) → chunks s es.length es.flatten = es
  | [], _ => rfl
  | x :: es, h => by
    have hx := h x List.mem_cons_self
    simp only [List.length_cons, chunks, List.flatten_cons]
    rw [← hx, List.take_left, List.drop_left, hx, chunks_flatten fun e he => h e (List.mem_cons_of_mem _ he)]

theorem repl_get {α : Type} (l : List α) : ∀ (n k : Nat), k < n * l.length → (List.replicate n l).flatten[k]? = l[k % l.length]?
  | 0, k, h => by simp at h
  | n + 1, k, h => by
    rw [List.replicate_succ, List.flatten_cons]
    rcases Nat.lt_or_ge k l.length with hk | hk
    · rw [List.getElem?_append_left hk, Nat.mod_eq_of_lt hk]
    · rw [List.getElem?_append_right hk, repl_get l n _ (by rw [Nat.succ_mul] at h; omega), Nat.mod_eq_sub_mod hk]

/-- 'make([]T, n)', of which nothing is changed any more -/
theorem OpTo.makeI {o : Oper} {t e : TypeId} {x y : Operand} {n : Int} {k k' : IntKind} {ti te : TI} {z : List Value} (ho : o.op = .makeSlice t x y) (hd : dstOk C.N o.dst = true)
    (hti : tinfo C.P t = some ti) (hk : ti.kind = .slice e) (hte : tinfo C.P e = some te) (hz : te.zero = some z) (hzl : z.length = te.size) (hb1 : te.bytes ≤ 512)
    (hx : aev C.G T x = some (.im (.v (.int k n)))) (hy : aev C.G T y = some (.im (.v (.int k' n)))) (h0 : 0 ≤ n) (hbig : n ≤ 274877906944) :
    OpTo C o T L (fun T' L' => T' = put T o.dst (.im (.sl te.size (List.replicate n.toNat (z.map .v)))) ∧ L' = L) := by
  intro β M a W hc next Qx hkk
  obtain ⟨d, h1, h2, h3, h4⟩ := run_underlying (W := W) hti
  have hd' : d = .slice e := by rw [hk] at h3; cases d <;> simp [kindOf] at h3; subst h3; rfl
  subst hd'
  have hxe := (hc.ev hx).bool
  have hye := (hc.ev hy).bool
  obtain ⟨u, hu, hcl⟩ := run_zeroValue (W := W) hte hz
  obtain ⟨inf, hinf, hi1, hi2, hi3⟩ := run_typeInfo (W := W) hte
  have hw : IntKind.i64.wrap n = n := by
    simp only [IntKind.wrap, IntKind.bits, IntKind.signed]; simp; split <;> omega
  have hby : (te.bytes : Int) * n ≤ 140737488355328 := by
    have h5 : (te.bytes : Int) * n ≤ 512 * 274877906944 := Int.mul_le_mul (by omega) hbig h0 (by omega)
    omega
  have hN : n.toNat ≤ bigN := by simp [bigN]; omega
  by_cases hz0 : n.toNat * te.size = 0
  · have hrun : (execOp a.eval o).run C.P W = .ok (.value (.slice (some ⟨W.heap.size, 0, none⟩) n.toNat n.toNat)) (W.alloc (.cells #[] e)) := by
      simp only [execOp, ho, Instr.makeSlice, Sem.run_bind, h1, Result.andThen_ok, hxe, hye, asInt, asIntOf, Sem.run_pure, hinf, hi2, hw]
      rw [if_neg (by simp; omega)]
      simp [run_askRoom, run_sizeOf hte, hz0, newRow]
      congr 2
      apply Array.eq_empty_of_size_eq_zero; simp
    rw [Oper.semAt_eq _ _ _ (fun c => by rw [ho]; exact fun e => by cases e), hrun, Oper.uponIn_value]
    obtain ⟨M', c1, c2, c3⟩ := fresh_sl (K := C.K) hc #[] e te.size n.toNat n.toNat ((List.replicate n.toNat (z.map IV.v)).flatten) (by simp [hzl]) (Nat.le_refl _) hN (fun k c hk hc' => by omega)
    have hch := chunks_flatten (s := te.size) (es := List.replicate n.toNat (z.map IV.v)) (fun e he => by rw [List.eq_of_mem_replicate he]; simpa using hzl)
    rw [List.length_replicate] at hch
    rw [hch] at c3
    exact hkk _ _ _ _ _ _ ⟨rfl, rfl⟩ (c1.put (dstOk_spec hd) c3) c2
  · have hrun : (execOp a.eval o).run C.P W = .ok (.value (.slice (some ⟨W.heap.size, 0, none⟩) n.toNat n.toNat)) (W.alloc (.cells ((Array.range (n.toNat * te.size)).map (z.toArray[· % z.toArray.size]!)) e)) := by
      simp only [execOp, ho, Instr.makeSlice, Sem.run_bind, h1, Result.andThen_ok, hxe, hye, asInt, asIntOf, Sem.run_pure, hinf, hi2, hw]
      rw [if_neg (by simp; omega)]
      simp [run_askRoom, run_sizeOf hte, hz0, newRow, hu, hcl]
    rw [Oper.semAt_eq _ _ _ (fun c => by rw [ho]; exact fun e => by cases e), hrun, Oper.uponIn_value]
    obtain ⟨M', c1, c2, c3⟩ := fresh_sl (K := C.K) hc ((Array.range (n.toNat * te.size)).map (z.toArray[· % z.toArray.size]!)) e te.size n.toNat n.toNat ((List.replicate n.toNat (z.map IV.v)).flatten) (by simp [hzl]) (Nat.le_refl _) hN (fun k c hk hc' => by
      rw [repl_get _ _ _ (by simpa [hzl] using hk)] at hc'
      simp only [List.getElem?_map, Option.map_eq_some_iff, List.length_map] at hc'
      obtain ⟨v, hv, rfl⟩ := hc'
      refine ⟨v, ?_, .v v⟩
      have hlt : k % z.length < z.length := (List.getElem?_eq_some_iff.1 hv).1
      have : z[k % z.length] = v := by rw [List.getElem?_eq_getElem hlt] at hv; exact Option.some.inj hv
      simp [hk, hlt, this])
    have hch := chunks_flatten (s := te.size) (es := List.replicate n.toNat (z.map IV.v)) (fun e he => by rw [List.eq_of_mem_replicate he]; simpa using hzl)
    rw [List.length_replicate] at hch
    rw [hch] at c3
    exact hkk _ _ _ _ _ _ ⟨rfl, rfl⟩ (c1.put (dstOk_spec hd) c3) c2

/-- a bound of a slice expression -/
def bnd (G : Globs) (T : Tm) (d : Nat) : Option Operand → Option Nat
  | none => some d
  | some x => match aev G T x with
    | some (.im (.v (.int _ n))) => if 0 ≤ n then some n.toNat else none
    | _ => none

theorem bnd_spec {G : Globs} {N : Nat} {β : List Gh} {M : Nat → Prop} {a : Act} {W : World} (hc : Conc G N T L β M a W) {d n : Nat} {x : Option Operand} (h : bnd G T d x = some n) :
    (x = none ∧ n = d) ∨ ∃ y k, x = some y ∧ a.eval y = .int k (n : Int) := by
  cases x with
  | none => simp only [bnd, Option.some.injEq] at h; exact .inl ⟨rfl, h.symm⟩
  | some y =>
    simp only [bnd] at h
    split at h
    · rename_i k m hy
      split at h
      · rename_i h0
        simp only [Option.some.injEq] at h; subst h
        exact .inr ⟨y, k, rfl, by rw [(hc.ev hy).bool]; congr 1; omega⟩
      · cases h
    · cases h

theorem run_bound {P : Program} {W : World} {k : IntKind} {n y : Nat} {c : BoundsCode} (h : n ≤ y) : (Instr.sliceBound (.int k (n : Int)) y c).run P W = .ok n W := by
  have h1 : (0 : Int) ≤ n ∧ (n : Int) ≤ y := by omega
  simp [Instr.sliceBound, asIntOf, h]

/-- the bounds of a slice expression, where they are kept -/
theorem run_bounds {P : Program} {G : Globs} {N : Nat} {β : List Gh} {M : Nat → Prop} {a : Act} {W : World} (hc : Conc G N T L β M a W) {isS : Bool} {len cap l h : Nat} {lo hi mx : Option Operand}
    (hlo : bnd G T 0 lo = some l) (hhi : bnd G T len hi = some h) (hlh : l ≤ h) (hmx : mx = none ∧ h ≤ cap ∨ ∃ m x, mx = some x ∧ hi ≠ none ∧ bnd G T 0 (some x) = some m ∧ h ≤ m ∧ m ≤ cap) :
    ∃ m, (Instr.sliceBounds isS len cap (lo.map a.eval) (hi.map a.eval) (mx.map a.eval)).run P W = .ok (l, h, m) W ∧ h ≤ m ∧ m ≤ cap ∧ (mx = none → m = cap) ∧ (∀ x m', mx = some x → bnd G T 0 (some x) = some m' → m = m') := by
  rcases hmx with ⟨rfl, hcap⟩ | ⟨m, x, rfl, hne, hm, hhm, hmc⟩
  · refine ⟨cap, ?_, hcap, Nat.le_refl _, fun _ => rfl, (fun x m' h _ => by cases h)⟩
    rcases bnd_spec hc hlo with ⟨rfl, rfl⟩ | ⟨y, k, rfl, hy⟩ <;> rcases bnd_spec hc hhi with ⟨rfl, rfl⟩ | ⟨y', k', rfl, hy'⟩ <;>
      simp [Instr.sliceBounds, run_bound, *]
  · obtain ⟨z, k0, hz, hz'⟩ : ∃ y k, some x = some y ∧ a.eval y = .int k (m : Int) := by
      rcases bnd_spec hc hm with ⟨h, _⟩ | h
      · cases h
      · exact h
    cases hz
    refine ⟨m, ?_, hhm, hmc, (fun h => by cases h), (fun x' m' h1 h2 => by cases h1; rw [hm] at h2; cases h2; rfl)⟩
    rcases bnd_spec hc hhi with ⟨rfl, rfl⟩ | ⟨y', k', rfl, hy'⟩
    · exact absurd rfl hne
    · rcases bnd_spec hc hlo with ⟨rfl, rfl⟩ | ⟨y, k, rfl, hy⟩ <;>
        simp [Instr.sliceBounds, run_bound, *]

theorem sl_sub {M : Nat → Prop} {W : World} {s : Nat} {es : List (List IV)} {b off n cap l h c : Nat} (hr : RI M W (.sl s es) (.slice (some ⟨b, off, none⟩) n cap)) (hlh : l ≤ h) (hh : h ≤ es.length) (hc : h - l ≤ c) :
    RI M W (.sl s ((es.take h).drop l)) (.slice (some ⟨b, off + l * s, none⟩) (h - l) c) := by
  have hlen : ((es.take h).drop l).length = h - l := by simp; omega
  by_cases he : (es.take h).drop l = []
  · rw [he] at hlen ⊢
    rw [← hlen]; exact .emp _ _ _
  · cases hr with
    | emp => simp at he
    | sl val hb hM hcap hbd hl hcs hrs =>
      have hget : ∀ (i : Nat) (e : List IV), ((es.take h).drop l)[i]? = some e → es[l + i]? = some e := by
        intro i e hi
        rw [List.getElem?_drop] at hi
        have : l + i < h := by
          have := (List.getElem?_eq_some_iff.1 hi).1
          simp at this; omega
        rw [List.getElem?_take_of_lt this] at hi; exact hi
      have := RI.sl (M := M) (W := W) (s := s) (es := (es.take h).drop l) (b := b) (off := off + l * s) (cap := c) (fun q => val (l * s + q)) hb hM (by rw [hlen]; exact hc) (by rw [hlen]; omega)
        (fun e he' => hl e (List.mem_of_mem_take (List.mem_of_mem_drop he')))
        (fun i e j c h1 h2 => by
          have := hcs (l + i) e j c (hget i e h1) h2
          rw [Nat.add_mul, Nat.add_assoc (l * s)] at this
          rw [Nat.add_assoc off]; exact this)
        (fun i e j c h1 h2 => by
          have := hrs (l + i) e j c (hget i e h1) h2
          rw [Nat.add_mul, Nat.add_assoc (l * s)] at this; exact this)
      rw [hlen] at this; exact this

/-- 'x[l:h]' and 'x[l:h:m]', x a slice that stays -/
theorem OpTo.sliceI {o : Oper} {t e : TypeId} {x : Operand} {lo hi mx : Option Operand} {ti te : TI} {es : List (List IV)} {l h : Nat} (ho : o.op = .slice t x lo hi mx) (hd : dstOk C.N o.dst = true)
    (hti : tinfo C.P t = some ti) (hk : ti.kind = .slice e) (hte : tinfo C.P e = some te) (hx : aev C.G T x = some (.im (.sl te.size es))) (hlo : bnd C.G T 0 lo = some l) (hhi : bnd C.G T es.length hi = some h) (hlh : l ≤ h)
    (hh : h ≤ es.length) (hmx : mx = none ∨ ∃ m x, mx = some x ∧ hi ≠ none ∧ bnd C.G T 0 (some x) = some m ∧ h ≤ m ∧ m ≤ es.length) :
    OpTo C o T L (fun T' L' => T' = put T o.dst (.im (.sl te.size ((es.take h).drop l))) ∧ L' = L) :=
  OpTo.pure (fun c => by rw [ho]; exact fun e => by cases e) (dstOk_spec hd) fun β M a W hc => by
    obtain ⟨d, h1, h2, h3, h4⟩ := run_underlying (W := W) hti
    have hd' : d = .slice e := by rw [hk] at h3; cases d <;> simp [kindOf] at h3; subst h3; rfl
    subst hd'
    have hr : RI M W (.sl te.size es) (a.eval x) := by
      have := hc.ev hx
      cases this with | im h => exact h
    obtain ⟨ad, cap, hu⟩ := hr.len
    have hcap : es.length ≤ cap := by
      rw [hu] at hr
      cases hr with
      | emp => simp
      | sl _ _ _ hcap => exact hcap
    obtain ⟨m, hb, hm1, hm2, hm3, hm4⟩ := run_bounds (P := C.P) (isS := true) (cap := cap) (mx := mx) hc hlo hhi hlh (by
      rcases hmx with rfl | ⟨m, x, rfl, h1, h2, h3, h4⟩
      · exact .inl ⟨rfl, by omega⟩
      · exact .inr ⟨m, x, rfl, h1, h2, h3, by omega⟩)
    refine ⟨.slice (if m = l then ad else ad.map (·.add (l * te.size))) (h - l) (m - l), ?_, .im ?_⟩
    · simp [execOp, ho, Instr.sliceAt, h1, Instr.slice, hu, hb, run_sizeOf hte]
    · rw [hu] at hr
      cases ad with
      | none =>
        cases hr with
        | emp =>
          have : h - l = 0 := by simp at hh; omega
          rw [this]
          simp only [List.take_nil, List.drop_nil]; exact .emp _ _ _
      | some ad =>
        by_cases hml : m = l
        · have : h = l := by omega
          rw [if_pos hml, this, Nat.sub_self]
          have hnil : (es.take l).drop l = [] := by apply List.eq_nil_of_length_eq_zero; simp
          rw [hnil]; exact .emp _ _ _
        · rw [if_neg hml]
          by_cases he : es = []
          · subst he
            have : h - l = 0 := by simp at hh; omega
            rw [this]; simp only [List.take_nil, List.drop_nil]; first | exact .emp _ _ _ | skip
          · obtain ⟨b, off, cap', hu', _⟩ := hr.slice he
            simp only [Value.slice.injEq, Option.some.injEq] at hu'
            obtain ⟨rfl, _, rfl⟩ := hu'
            simp only [Option.map_some, add_mk]
            exact sl_sub hr hlh hh (by omega)

/-- one's own slice, not empty: where it lies -/
theorem Conc.owned {G : Globs} {N : Nat} {β : List Gh} {M : Nat → Prop} {a : Act} {W : World} (h : Conc G N T L β M a W) {i s : Nat} {es : List (List IV)} {t : TypeId} (hL : L[i]? = some (.app s es t)) (hne : es ≠ []) :
    ∃ (b off cap : Nat) (arr : Array Value), β[i]? = some (.slc (some ⟨b, off, none⟩) es.length cap) ∧ M b ∧ W.heap[b]? = some (.cells arr t (0, 0)) ∧ 0 < cap ∧ es.length ≤ cap ∧ off + cap * s ≤ arr.size ∧ (∀ e, e ∈ es → e.length = s) ∧
      ∀ (i : Nat) (e : List IV) (j : Nat) (c : IV), es[i]? = some e → e[j]? = some c → ∃ u : Value, arr[off + (i * s + j)]? = some u ∧ RI M W c u := by
  have hi : i < L.length := (List.getElem?_eq_some_iff.1 hL).1
  obtain ⟨g, hg⟩ : ∃ g, β[i]? = some g := ⟨β[i]'(by rw [h.sat.len]; exact hi), List.getElem?_eq_getElem _⟩
  have hB := h.sat.ok i g _ hg hL
  cases g with
  | blk b => exact hB.elim
  | slc ad n cap =>
    obtain ⟨rfl, ⟨h1, _⟩ | ⟨b, off, arr, rfl, hM, hh, hc0, hc1, hc2, hc3, hc4⟩⟩ := hB
    · exact absurd h1 hne
    · exact ⟨b, off, cap, arr, hg, hM, hh, hc0, hc1, hc2, hc3, hc4⟩

/-- 'x[l:h]', x one's own -/
theorem OpTo.sliceA {o : Oper} {t e : TypeId} {x : Operand} {lo hi : Option Operand} {ti te : TI} {es : List (List IV)} {i l h : Nat} (ho : o.op = .slice t x lo hi none) (hd : dstOk C.N o.dst = true)
    (hti : tinfo C.P t = some ti) (hk : ti.kind = .slice e) (hte : tinfo C.P e = some te) (hx : aev C.G T x = some (.app i)) (hL : L[i]? = some (.app te.size es e)) (hlo : bnd C.G T 0 lo = some l) (hhi : bnd C.G T es.length hi = some h) (hlh : l ≤ h)
    (hh : h ≤ es.length) (hll : l < es.length) : OpTo C o T L (fun T' L' => T' = put T o.dst (.sub i te.size l h 0) ∧ L' = L) :=
  OpTo.pure (fun c => by rw [ho]; exact fun e => by cases e) (dstOk_spec hd) fun β M a W hc => by
    obtain ⟨d, h1, h2, h3, h4⟩ := run_underlying (W := W) hti
    have hd' : d = .slice e := by rw [hk] at h3; cases d <;> simp [kindOf] at h3; subst h3; rfl
    subst hd'
    obtain ⟨b, off, cap, arr, hg, hM, hh', hc0, hc1, hc2, hc3, hc4⟩ := hc.owned hL (fun h => by subst h; simp at hll)
    have hu : a.eval x = .slice (some ⟨b, off, none⟩) es.length cap := by
      have := hc.ev hx
      generalize a.eval x = u at this
      cases this with | app h => rw [hg] at h; cases h; rfl
    obtain ⟨m, hb, hm1, hm2, hm3, hm4⟩ := run_bounds (P := C.P) (isS := true) (cap := cap) (mx := none) hc hlo hhi hlh (.inl ⟨rfl, by omega⟩)
    have hm := hm3 rfl
    refine ⟨.slice (some ⟨b, off + l * te.size, none⟩) (h - l) (m - l), ?_, .sub te.size l h 0 (m - l) hg (by omega)⟩
    have hb' : (Instr.sliceBounds true es.length cap (lo.map a.eval) (hi.map a.eval) none).run C.P W = .ok (l, h, m) W := hb
    have hne : m ≠ l := by omega
    simp [execOp, ho, Instr.sliceAt, h1, Instr.slice, hu, hb', run_sizeOf hte, hne, add_mk]

/-- 'x[l:h:m]', x a part of one's own -/
theorem OpTo.sliceS {o : Oper} {t e : TypeId} {x y : Operand} {lo hi : Option Operand} {ti te : TI} {i a0 b0 m0 l h m : Nat} (ho : o.op = .slice t x lo hi (some y)) (hd : dstOk C.N o.dst = true)
    (hti : tinfo C.P t = some ti) (hk : ti.kind = .slice e) (hte : tinfo C.P e = some te) (hx : aev C.G T x = some (.sub i te.size a0 b0 m0)) (hlo : bnd C.G T 0 lo = some l) (hhi : bnd C.G T (b0 - a0) hi = some h) (hhn : hi ≠ none)
    (hm : bnd C.G T 0 (some y) = some m) (hlh : l ≤ h) (hhm : h ≤ m) (hmb : m ≤ b0 - a0) (hlm : l < m) : OpTo C o T L (fun T' L' => T' = put T o.dst (.sub i te.size (a0 + l) (a0 + h) 0) ∧ L' = L) :=
  OpTo.pure (fun c => by rw [ho]; exact fun e => by cases e) (dstOk_spec hd) fun β M a W hc => by
    obtain ⟨d, h1, h2, h3, h4⟩ := run_underlying (W := W) hti
    have hd' : d = .slice e := by rw [hk] at h3; cases d <;> simp [kindOf] at h3; subst h3; rfl
    subst hd'
    have hr := hc.ev hx
    generalize hu : a.eval x = u at hr
    cases hr with
    | @sub _ b off n c _ _ _ _ cp hg hcp =>
      obtain ⟨m', hb, hm1, hm2, hm3, hm4⟩ := run_bounds (P := C.P) (isS := true) (len := b0 - a0) (cap := cp) (mx := some y) hc hlo hhi hlh (.inr ⟨m, y, rfl, hhn, hm, hhm, by omega⟩)
      have hmm := hm4 y m rfl hm
      subst hmm
      have hb' : (Instr.sliceBounds true (b0 - a0) cp (lo.map a.eval) (hi.map a.eval) (some (a.eval y))).run C.P W = .ok (l, h, m') W := hb
      have hne : m' ≠ l := by omega
      refine ⟨.slice (some ⟨b, off + (a0 + l) * te.size, none⟩) (a0 + h - (a0 + l)) (m' - l), ?_, .sub te.size (a0 + l) (a0 + h) 0 (m' - l) hg (by omega)⟩
      have e1 : a0 + h - (a0 + l) = h - l := by omega
      have e2 : off + (a0 + l) * te.size = off + a0 * te.size + l * te.size := by rw [Nat.add_mul]; omega
      rw [e1, e2]
      simp [execOp, ho, Instr.sliceAt, h1, Instr.slice, hu, hb', run_sizeOf hte, hne, add_mk]

/-- the address of an element of one's own slice, or of a part of it -/
theorem OpTo.idxS {o : Oper} {t e : TypeId} {x y : Operand} {ti te : TI} {i a0 b0 m0 n : Nat} {k : IntKind} (ho : o.op = .indexAddr t x y) (hd : dstOk C.N o.dst = true)
    (hti : tinfo C.P t = some ti) (hk : ti.kind = .slice e) (hte : tinfo C.P e = some te) (hx : aev C.G T x = some (.sub i te.size a0 b0 m0)) (hy : aev C.G T y = some (.im (.v (.int k (n : Int))))) (hn : n < b0 - a0) :
    OpTo C o T L (fun T' L' => T' = put T o.dst (.ap i ((a0 + n) * te.size)) ∧ L' = L) :=
  OpTo.pure (fun c => by rw [ho]; exact fun e => by cases e) (dstOk_spec hd) fun β M a W hc => by
    obtain ⟨d, h1, h2, h3, h4⟩ := run_underlying (W := W) hti
    have hd' : d = .slice e := by rw [hk] at h3; cases d <;> simp [kindOf] at h3; subst h3; rfl
    subst hd'
    have hr := hc.ev hx
    generalize hu : a.eval x = u at hr
    cases hr with
    | @sub _ b off n' c _ _ _ _ cp hg hcp =>
      refine ⟨.pointer (some ⟨b, off + (a0 + n) * te.size, none⟩), ?_, .ap _ hg⟩
      have e2 : off + (a0 + n) * te.size = off + a0 * te.size + n * te.size := by rw [Nat.add_mul]; omega
      rw [e2]
      simp [execOp, ho, Instr.indexAt, asIntOf, (hc.ev hy).bool, h1, hu, hn, run_sizeOf hte, add_mk]
theorem OpTo.idxA {o : Oper} {t e : TypeId} {x y : Operand} {ti te : TI} {es : List (List IV)} {i n : Nat} {k : IntKind} (ho : o.op = .indexAddr t x y) (hd : dstOk C.N o.dst = true)
    (hti : tinfo C.P t = some ti) (hk : ti.kind = .slice e) (hte : tinfo C.P e = some te) (hx : aev C.G T x = some (.app i)) (hL : L[i]? = some (.app te.size es e)) (hy : aev C.G T y = some (.im (.v (.int k (n : Int))))) (hn : n < es.length) :
    OpTo C o T L (fun T' L' => T' = put T o.dst (.ap i (n * te.size)) ∧ L' = L) :=
  OpTo.pure (fun c => by rw [ho]; exact fun e => by cases e) (dstOk_spec hd) fun β M a W hc => by
    obtain ⟨d, h1, h2, h3, h4⟩ := run_underlying (W := W) hti
    have hd' : d = .slice e := by rw [hk] at h3; cases d <;> simp [kindOf] at h3; subst h3; rfl
    subst hd'
    obtain ⟨b, off, cap, arr, hg, hM, hh', hc0, hc1, hc2, hc3, hc4⟩ := hc.owned hL (fun h => by subst h; simp at hn)
    have hu : a.eval x = .slice (some ⟨b, off, none⟩) es.length cap := by
      have := hc.ev hx
      generalize a.eval x = u at this
      cases this with | app h => rw [hg] at h; cases h; rfl
    refine ⟨.pointer (some ⟨b, off + n * te.size, none⟩), ?_, .ap _ hg⟩
    simp [execOp, ho, Instr.indexAt, asIntOf, (hc.ev hy).bool, h1, hu, hn, run_sizeOf hte, add_mk]

/-- a whole element of one's own slice is written -/
theorem OpTo.storeAp {o : Oper} {t e : TypeId} {x y : Operand} {te : TI} {es : List (List IV)} {i n : Nat} {v : SV} {cs : List SV} {ivs : List IV} (ho : o.op = .store t x y) (hd : dstOk C.N o.dst = true)
    (hte : tinfo C.P t = some te) (hx : aev C.G T x = some (.ap i (n * te.size))) (hL : L[i]? = some (.app te.size es e)) (hn : n < es.length) (hy : aev C.G T y = some v) (hcs : cellsOf v = some cs) (hiv : ims cs = some ivs)
    (hsz : ivs.length = te.size) (hoc : ∀ c, c ∈ ivs → oc (.im c) = true) :
    OpTo C o T L (fun T' L' => T' = put T o.dst (.im (.v undef)) ∧ L' = L.set i (.app te.size (es.set n ivs) e)) := by
  intro β M a W hc next Qx hk
  have := ims_spec hiv
  subst this
  obtain ⟨b, off, cap, arr, hg, hM, hh, hc0, hc1, hc2, hc3, hc4⟩ := hc.owned hL (fun h => by subst h; simp at hn)
  have hpe : a.eval x = .pointer (some ⟨b, off + n * te.size, none⟩) := by
    have := hc.ev hx
    generalize a.eval x = u at this
    cases this with | ap k h => rw [hg] at h; cases h; rfl
  obtain ⟨hcs1, hcr⟩ := cells_R (hc.ev hy) hcs
  have hcs' : (a.eval y).cells.toList.length = te.size := by simp at hcs1; simp; omega
  have h7 : (a.eval y).cells.size = te.size := by simpa using hcs'
  have hall : ∀ v, v ∈ (a.eval y).cells.toList → v.oneCell' = true := by
    intro v hv
    obtain ⟨k, hk', hkv⟩ := List.getElem_of_mem hv
    have hk'' : k < ivs.length := by omega
    obtain ⟨v', hv', hr'⟩ := hcr k (.im ivs[k]) (by simp [hk''])
    have : v' = v := by
      have h1 : (a.eval y).cells.toList[k]? = some v := by rw [List.getElem?_eq_getElem hk', hkv]
      rw [Array.getElem?_toList] at h1
      rw [hv'] at h1; cases h1; rfl
    subst this
    exact oc_R hr' (hoc _ (List.getElem_mem hk''))
  have hle : (n + 1) * te.size ≤ cap * te.size := Nat.mul_le_mul_right _ (by omega)
  rw [Nat.succ_mul] at hle
  obtain ⟨arr', hrun, harr'⟩ := run_storeCells_blk (P := C.P) (b := b) (t := e) (a.eval y).cells.toList W arr (off + n * te.size) 0 hh hall (by omega)
  have hrun' : (execOp a.eval o).run C.P W = .ok .skip (W.putObj b (.cells arr' e (0, 0))) := by
    simp only [execOp, ho, Instr.storeAt, hpe, Instr.sureAddr, storeVar]
    simp only [Sem.run_bind, Sem.run_pure, Result.andThen_ok, run_sizeOf hte, h7, ne_eq, not_true_eq_false, if_false, hrun]
  rw [Oper.semAt_eq _ _ _ (fun c => by rw [ho]; exact fun e => by cases e), hrun', Oper.uponIn_skip]
  have hsz' : arr'.size = arr.size := by rw [← Array.length_toList, harr', splice_length]; simp
  have hc0' : cap ≠ 0 := by omega
  have hsz2 : W.heap.size ≤ (W.putObj b (.cells arr' e (0, 0))).heap.size := by simp
  have still : ∀ c, c < W.heap.size → ¬ M c → (W.putObj b (.cells arr' e (0, 0))).heap[c]? = W.heap[c]? ∧ ¬ M c := fun c _ hM' => ⟨putObj_other (fun e => hM' (e ▸ hM)), hM'⟩
  have hget : ∀ q : Nat, arr'[q]? = if off + n * te.size ≤ q ∧ q < off + n * te.size + te.size then (a.eval y).cells.toList[q - (off + n * te.size)]? else arr[q]? := by
    intro q
    rw [← Array.getElem?_toList, harr', Nat.add_zero, splice_get _ _ _ _ (by simp only [Array.length_toList]; omega), hcs']
    simp
  obtain ⟨hc', hs'⟩ := hc.modify (K := C.K) (k' := .app te.size (es.set n ivs) e) (.cells arr' e (0, 0)) hg hL rfl rfl (by simp [own, hc0']) (fun b' hb' => by simpa [own, hc0'] using hb'.symm)
    ⟨by simp, .inr ⟨b, off, arr', rfl, hM, World.putObj_heap_same (Array.getElem?_eq_some_iff.1 hh).1, hc0, by simpa using hc1, by rw [hsz']; exact hc2, fun r hr => by
      rcases List.mem_or_eq_of_mem_set hr with h | h
      · exact hc3 r h
      · rw [h]; exact hsz, fun m r j c hm hj => by
      by_cases hmn : m = n
      · subst hmn
        rw [List.getElem?_set_self hn] at hm; simp at hm; subst hm
        have hjl : j < ivs.length := (List.getElem?_eq_some_iff.1 hj).1
        obtain ⟨v', hv', hr'⟩ := hcr j (.im c) (by simp [hj])
        refine ⟨v', ?_, ?_⟩
        · rw [hget, if_pos (by omega)]
          have : off + (m * te.size + j) - (off + m * te.size) = j := by omega
          rw [this, Array.getElem?_toList]; exact hv'
        · cases hr' with | im hr' => exact hr'.ext hsz2 still
      · rw [List.getElem?_set_ne (Ne.symm hmn)] at hm
        obtain ⟨u, hu, hr⟩ := hc4 m r j c hm hj
        have hjs : j < te.size := by rw [← hc3 r (List.mem_of_getElem? hm)]; exact (List.getElem?_eq_some_iff.1 hj).1
        refine ⟨u, ?_, hr.ext hsz2 still⟩
        rw [hget, if_neg ?_]; exact hu
        rcases Nat.lt_or_gt_of_ne hmn with h | h
        · have : (m + 1) * te.size ≤ n * te.size := Nat.mul_le_mul_right _ h
          rw [Nat.succ_mul] at this; omega
        · have : (n + 1) * te.size ≤ m * te.size := Nat.mul_le_mul_right _ h
          rw [Nat.succ_mul] at this; omega⟩⟩
  exact hk _ _ _ _ _ _ ⟨rfl, rfl⟩ (hc'.put (dstOk_spec hd) (.im (.v undef))) hs'
end
end Av
end

section
/- The engine, part 20: arrays and structs compared. -/
set_option linter.unusedSimpArgs false
namespace Av
open Go
section
variable {C : Cx} {Q : QT} {T : Tm} {L : List Blk}

/-- the values of a symbolic value's cells -/
def lits : List SV → Option (List Value)
  | [] => some []
  | .im (.v x) :: r => (lits r).map (x :: ·)
  | _ :: _ => none

theorem lits_spec : ∀ {ss : List SV} {vs : List Value}, lits ss = some vs → ss = vs.map fun x => .im (.v x)
  | [], vs, h => by simp [lits] at h; subst h; rfl
  | .im (.v x) :: r, vs, h => by
    simp only [lits, Option.map_eq_some_iff] at h
    obtain ⟨r', hr', rfl⟩ := h
    simp [lits_spec hr']
  | .im .e0 :: r, vs, h => by simp [lits] at h
  | .im (.sl _ _) :: r, vs, h => by simp [lits] at h
  | .im (.ep _ _ _) :: r, vs, h => by simp [lits] at h
  | .im (.pt _ _) :: r, vs, h => by simp [lits] at h
  | .im (.fn _ _ _) :: r, vs, h => by simp [lits] at h
  | .loc _ _ :: r, vs, h => by simp [lits] at h
  | .app _ :: r, vs, h => by simp [lits] at h
  | .sub _ _ _ _ _ :: r, vs, h => by simp [lits] at h
  | .ap _ _ :: r, vs, h => by simp [lits] at h
  | .agg _ :: r, vs, h => by simp [lits] at h
  | .tup _ :: r, vs, h => by simp [lits] at h
  | .any :: r, vs, h => by simp [lits] at h
  | .yl _ :: r, vs, h => by simp [lits] at h

theorem lits_R {β : List Gh} {M : Nat → Prop} {W : World} {x : SV} {u : Value} {cs : List SV} {vs : List Value} (h : R β M W x u) (hc : aggOf x = some cs) (hl : lits cs = some vs) : u = .agg vs.toArray := by
  obtain ⟨ws, rfl, hsz, hr⟩ := aggOf_R h hc
  have := lits_spec hl
  subst this
  congr 1
  apply Array.ext
  · simpa using hsz
  · intro i h1 h2
    have h2' : i < vs.length := by simpa using h2
    obtain ⟨v, hv, hr'⟩ := hr i (.im (.v vs[i])) (by simp [h2'])
    have e : ws[i] = v := by rw [Array.getElem?_eq_getElem h1] at hv; exact Option.some.inj hv
    have e2 := hr'.bool
    rw [e, e2]; simp

theorem OpTo.eqAgg {o : Oper} {op : BinOp} {t yt : TypeId} {x y : Operand} {sx sy : SV} {cs ds : List SV} {xs ys : List Value} {b : Bool} (ho : o.op = .binOp op t x y yt) (hop : op = .eql ∨ op = .neq) (hd : dstOk C.N o.dst = true)
    (hg : C.P.eqGuardType C.P.depth t = false) (hx : aev C.G T x = some sx) (hy : aev C.G T y = some sy) (hcx : aggOf sx = some cs) (hcy : aggOf sy = some ds) (hlx : lits cs = some xs) (hly : lits ds = some ys)
    (heq : ∀ W, (Op.equalIn 10000 t (.agg xs.toArray) (.agg ys.toArray)).run C.P W = .ok b W) : OpTo C o T L (fun T' L' => T' = put T o.dst (.im (.v (.bool (if op = .eql then b else !b)))) ∧ L' = L) :=
  OpTo.pure (fun c => by rw [ho]; exact fun e => by cases e) (dstOk_spec hd) fun β M a W hc => by
    have e1 := lits_R (hc.ev hx) hcx hlx
    have e2 := lits_R (hc.ev hy) hcy hly
    refine ⟨.bool (if op = .eql then b else !b), ?_, .im (.v _)⟩
    rcases hop with rfl | rfl
    · simp [execOp, ho, e1, e2, run_eqGuard_agg W .eql t x y xs.toArray ys.toArray hg, run_eql_struct W t xs.toArray ys.toArray, heq]
    · simp [execOp, ho, e1, e2, run_eqGuard_agg W .neq t x y xs.toArray ys.toArray hg, run_neq_struct W t xs.toArray ys.toArray, heq]

/-- the comparison of structs asks of a field's name, type and place alone -/
def eqF (d : Nat) (xs ys : Array Value) : List (String × TypeId × Nat) → Sem Bool
  | [] => pure true
  | (nm, t, off) :: fs =>
    if nm ≠ "_" then do
      let a ← Go.part t xs off
      let b ← Go.part t ys off
      let r ← Op.equalIn d t a b
      if (!r) = true then pure false else eqF d xs ys fs
    else eqF d xs ys fs
theorem eqF_eq (d : Nat) (xs ys : Array Value) : ∀ fs : List Field, Op.eqFields d xs ys fs = eqF d xs ys (fs.map fun f => (f.name, f.type, f.offset))
  | [] => rfl
  | f :: fs => by simp only [Op.eqFields, eqF, List.map_cons, eqF_eq d xs ys fs]
end
end Av
end

section
/- The engine, part 21: how long a slice that is spoken of may be. -/
namespace Av
open Go
section
variable {C : Cx} {Q : QT} {T : Tm} {L : List Blk}
theorem AWp.big {c : Code} (k : Nat) {s : Nat} {es : List (List IV)} (hk : get T k = some (.im (.sl s es))) (h : es.length ≤ bigN → AWp C c Q T L) : AWp C c Q T L := by
  intro β₀ M₀ L₀ W₀ β M a W hc hs
  obtain ⟨u, hu, hr⟩ := hc.tm k _ hk
  cases hr with
  | im hr => exact h hr.big β₀ M₀ L₀ W₀ β M a W hc hs

/-- the slots that are still asked for -/
def keepT (T : Tm) : List Nat → Tm
  | [] => []
  | k :: ks => match get T k with
    | some x => (k, x) :: keepT T ks
    | none => keepT T ks
theorem keepT_get (T : Tm) : ∀ (ks : List Nat) (k : Nat) (x : SV), get (keepT T ks) k = some x → get T k = some x
  | [], k, x, h => by simp [keepT, get] at h
  | j :: ks, k, x, h => by
    simp only [keepT] at h
    split at h
    · rename_i y hy
      simp only [get] at h
      split at h
      · rename_i e; subst e; rw [hy]; exact h
      · exact keepT_get T ks k x h
    · exact keepT_get T ks k x h
theorem AWp.keep {c : Code} (ks : List Nat) (h : AWp C c Q (keepT T ks) L) : AWp C c Q T L := AWp.tms _ (keepT_get T ks) h
theorem AWp.keepE {c : Code} (ks : List Nat) {T' : Tm} (he : keepT T ks = T') (h : AWp C c Q T' L) : AWp C c Q T L := AWp.tms _ (he ▸ keepT_get T ks) h
end
end Av
end

section
/- The engine, part 22: a slice of an array that nobody writes. -/
namespace Av
open Go
section
variable {C : Cx} {Q : QT} {T : Tm} {L : List Blk}
theorem OpTo.sliceArr {o : Oper} {t e : TypeId} {x : Operand} {ti te : TI} {cs : List IV} {off n : Nat} {es : List (List IV)} (ho : o.op = .slice t x none none none) (hd : dstOk C.N o.dst = true)
    (hti : tinfo C.P t = some ti) (hk : ti.kind = .array n e) (hte : tinfo C.P e = some te) (hx : aev C.G T x = some (.im (.pt cs off))) (hn : 0 < n) (hes : ∀ r, r ∈ es → r.length = te.size) (hl : es.length = n)
    (hfl : es.flatten = (cs.drop off).take (n * te.size)) (hbig : n ≤ bigN) : OpTo C o T L (fun T' L' => T' = put T o.dst (.im (.sl te.size es)) ∧ L' = L) :=
  OpTo.pure (fun c => by rw [ho]; exact fun e => by cases e) (dstOk_spec hd) fun β M a W hc => by
    obtain ⟨d, h1, h2, h3, h4⟩ := run_underlying (W := W) hti
    have hd' : d = .array n e := by rw [hk] at h3; cases d <;> simp [kindOf] at h3; obtain ⟨rfl, rfl⟩ := h3; rfl
    subst hd'
    have hr := hc.ev hx
    generalize hu : a.eval x = u at hr
    cases hr with
    | im hr =>
      cases hr with
      | @pt _ b _ val hb hM hcs hrs =>
        refine ⟨.slice (some ⟨b, off, none⟩) es.length n, ?_, .im ?_⟩
        · have hn0 : n ≠ 0 := by omega
          simp [execOp, ho, Instr.sliceAt, h1, hu, Instr.sureAddr, Instr.sliceBounds, run_sizeOf hte, hl, hn0, add_mk]
        · have key : ∀ (i : Nat) (r : List IV) (j : Nat) (c : IV), es[i]? = some r → r[j]? = some c → cs[off + (i * te.size + j)]? = some c := by
            intro i r j c h1 h2
            have := (flat_get hes).2 i r j c h1 h2
            rw [hfl] at this
            have hlt : i * te.size + j < n * te.size := by
              have := (List.getElem?_eq_some_iff.1 this).1
              simp at this; omega
            rw [List.getElem?_take_of_lt hlt, List.getElem?_drop] at this
            exact this
          exact RI.sl (fun q => val (off + q)) hb hM (by omega) (by omega) hes (fun i r j c h1 h2 => hcs _ c (key i r j c h1 h2)) (fun i r j c h1 h2 => hrs _ c (key i r j c h1 h2))
end
end Av
end
