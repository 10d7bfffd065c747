/- Part 2 of 22 of a proof: own engine, contracts and facts. -/
import Derived.IntWalk
import Derived.Test.YtibcgaffjaekfaaGreatDoorPAA
set_option linter.all false
section
/- The engine, part 5: stores; addresses; arithmetic. -/
namespace Av
open Go

section
variable {C : Cx} {Q : QT} {T : Tm} {L : List Blk}

theorem putObj_other {W : World} {b c : Nat} {o : Obj} (h : c ≠ b) : (W.putObj b o).heap[c]? = W.heap[c]? := World.putObj_heap_other h

theorem Conc.modify {G : Globs} {N : Nat} {β : List Gh} {M : Nat → Prop} {a : Act} {W : World} {K : Kf} (h : Conc G N T L β M a W) {i b : Nat} {g : Gh} {k k' : Blk} (o : Obj)
    (hg : β[i]? = some g) (hL : L[i]? = some k) (hk : k.isMark = false) (hk' : k'.isMark = false) (ho : own g k = some b) (ho' : ∀ b', own g k' = some b' → b' = b)
    (hB : BS β M (W.putObj b o) g k') :
    Conc G N T (L.set i k') β M a (W.putObj b o) ∧ Step K β M L W β M (L.set i k') (W.putObj b o) := by
  have hb := h.sat.owned ⟨i, g, k, hg, hL, ho⟩
  have hi : i < L.length := (List.getElem?_eq_some_iff.1 hL).1
  have hsz : W.heap.size ≤ (W.putObj b o).heap.size := by simp
  have still : ∀ c, c < W.heap.size → ¬ M c → (W.putObj b o).heap[c]? = W.heap[c]? ∧ ¬ M c := fun c _ hM => ⟨putObj_other (fun e => hM (e ▸ hb.1)), hM⟩
  have hset : ∀ (j : Nat) (kj : Blk), (L.set i k')[j]? = some kj → (j = i ∧ kj = k') ∨ (j ≠ i ∧ L[j]? = some kj) := by
    intro j kj hj
    by_cases hji : j = i
    · subst hji; rw [List.getElem?_set_self hi] at hj; simp at hj; exact .inl ⟨rfl, hj.symm⟩
    · rw [List.getElem?_set_ne (Ne.symm hji)] at hj; exact .inr ⟨hji, hj⟩
  refine ⟨⟨h.size, fun n x hx => ?_, ⟨by simpa using h.sat.len, ?_, ?_, ?_⟩, ?_⟩, ?_⟩
  · obtain ⟨u, hu, hr⟩ := h.tm n x hx
    exact ⟨u, hu, hr.ext (fun _ _ h => h) hsz still⟩
  · intro j gj kj hgj hLj
    rcases hset j kj hLj with ⟨rfl, rfl⟩ | ⟨hne, hLj'⟩
    · rw [hg] at hgj; cases hgj; exact hB
    · refine (h.sat.ok j gj kj hgj hLj').keep (fun _ _ h => h) hsz still (fun c hc => ?_)
      have hc' := h.sat.owned ⟨j, gj, kj, hgj, hLj', hc⟩
      exact ⟨putObj_other (fun e => hne (h.sat.dis j i gj g kj k b hgj hLj' hg hL (e ▸ hc) ho)), hc'.1⟩
  · intro j l gj gl kj kl c hgj hLj hgl hLl hoj hol
    rcases hset j kj hLj with ⟨rfl, rfl⟩ | ⟨hne, hLj'⟩ <;> rcases hset l kl hLl with ⟨rfl, rfl⟩ | ⟨hne', hLl'⟩
    · rfl
    · rw [hg] at hgj; cases hgj
      have := ho' c hoj; subst this
      exact h.sat.dis j l g gl k kl c hg hL hgl hLl' ho hol
    · rw [hg] at hgl; cases hgl
      have := ho' c hol; subst this
      exact h.sat.dis j l gj g kj k c hgj hLj' hg hL hoj ho
    · exact h.sat.dis j l gj gl kj kl c hgj hLj' hgl hLl' hoj hol
  · intro g' cs hg'
    exact (h.sat.glob g' cs hg').ext hsz still
  · rw [h.dfr]
    have := marks_set β L i g k k' hL hk hk'
    have hβ : β.set i g = β := by
      apply List.ext_getElem?
      intro j
      by_cases hj : j = i
      · subst hj; rw [List.getElem?_set_self (by rw [h.sat.len]; exact hi), hg]
      · rw [List.getElem?_set_ne (Ne.symm hj)]
    rw [hβ] at this
    rw [this]
  · refine ⟨fun _ _ _ h => h, fun _ g _ h => ⟨g, h, g.kin_refl⟩, rfl, rfl, rfl, hsz, fun c hc ho'' => putObj_other (fun e => ho'' (e ▸ ⟨i, g, k, hg, hL, ho⟩)), fun _ _ _ => Iff.rfl, ?_⟩
    rintro c hc ⟨j, gj, kj, hgj, hLj, hoj⟩
    rcases hset j kj hLj with ⟨rfl, rfl⟩ | ⟨hne, hLj'⟩
    · rw [hg] at hgj; cases hgj
      have := ho' c hoj; subst this
      exact ⟨j, g, k, hg, hL, ho⟩
    · exact ⟨j, gj, kj, hgj, hLj', hoj⟩

/-- what may lie in one cell -/
def oc : SV → Bool
  | .im (.v x) => x.oneCell'
  | .agg _ | .tup _ | .any => false
  | _ => true

theorem oc_R {β : List Gh} {M : Nat → Prop} {W : World} {x : SV} {u : Value} (h : R β M W x u) (hx : oc x = true) : u.oneCell' = true := by
  cases h with
  | im hi => cases hi <;> first | exact hx | rfl
  | agg => simp [oc] at hx
  | tup => simp [oc] at hx
  | any => simp [oc] at hx
  | _ => rfl

/-- a store through a pointer to a local variable -/
def wr (L : List Blk) (n : Nat) (p y : SV) : Option (List Blk) :=
  match p, cellsOf y with
  | .loc i o, some xs => match L[i]? with
    | some (.vars cs t) => if xs.length = n ∧ o + n ≤ cs.length ∧ xs.all oc then some (L.set i (.vars (splice cs o xs) t)) else none
    | _ => none
  | _, _ => none

theorem OpTo.store {o : Oper} {t : TypeId} {x y : Operand} {ti : TI} {p s : SV} {L' : List Blk} (ho : o.op = .store t x y) (hd : ∀ d, o.dst = some d → d < C.N) (h : tinfo C.P t = some ti)
    (hp : aev C.G T x = some p) (hs : aev C.G T y = some s) (hw : wr L ti.size p s = some L') :
    OpTo C o T L (fun T' L'' => T' = put T o.dst (.im (.v undef)) ∧ L'' = L') := by
  intro β M a W hc next Qx hk
  unfold wr at hw
  split at hw
  · rename_i i off xs hxs
    split at hw
    · rename_i cs bt hL
      split at hw
      · rename_i hcond
        obtain ⟨hn, hle, hoc⟩ := hcond
        simp only [Option.some.injEq] at hw; subst hw
        obtain ⟨b, arr, hg, hpe, hM, hh, hsz, hr⟩ := hc.vars (hc.ev hp) hL
        obtain ⟨hcs, hcr⟩ := cells_R (hc.ev hs) hxs
        have hcs' : (a.eval y).cells.toList.length = xs.length := by simpa using hcs
        have hall : ∀ v, v ∈ (a.eval y).cells.toList → v.oneCell' = true := by
          intro v hv
          obtain ⟨k, hk', hkv⟩ := List.getElem_of_mem hv
          have hk'' : k < xs.length := by omega
          obtain ⟨v', hv', hr'⟩ := hcr k xs[k] (List.getElem?_eq_getElem hk'')
          have : v' = v := by
            have h1 : (a.eval y).cells.toList[k]? = some v := by rw [List.getElem?_eq_getElem hk', hkv]
            rw [Array.getElem?_toList] at h1
            rw [hv'] at h1; cases h1; rfl
          subst this
          exact oc_R hr' (List.all_eq_true.1 hoc _ (List.getElem_mem hk''))
        obtain ⟨arr', hrun, harr'⟩ := run_storeCells_blk (P := C.P) (b := b) (t := bt) (a.eval y).cells.toList W arr off 0 hh hall (by omega)
        have hrun' : (execOp a.eval o).run C.P W = .ok .skip (W.putObj b (.cells arr' bt (0, 0))) := by
          simp only [execOp, ho, Instr.storeAt, hpe, Instr.sureAddr, storeVar]
          simp only [Sem.run_bind, Sem.run_pure, Result.andThen_ok, run_sizeOf h, hcs, hn, ne_eq, not_true_eq_false, if_false, hrun]
        rw [Oper.semAt_eq _ _ _ (fun c => by rw [ho]; exact fun e => by cases e), hrun', Oper.uponIn_skip]
        have hsz' : arr'.size = arr.size := by rw [← Array.length_toList, harr', splice_length]; simp
        obtain ⟨hc', hs'⟩ := hc.modify (K := C.K) (k' := .vars (splice cs off xs) bt) (.cells arr' bt (0, 0)) hg hL rfl rfl rfl (fun b' hb' => by simpa [own] using hb'.symm)
          ⟨hM, arr', World.putObj_heap_same (Array.getElem?_eq_some_iff.1 hh).1, by rw [hsz', hsz, splice_length], fun k c hk => by
            rw [splice_get _ _ _ _ (by omega)] at hk
            have hsz2 : W.heap.size ≤ (W.putObj b (.cells arr' bt (0, 0))).heap.size := by simp
            have still : ∀ c, c < W.heap.size → ¬ M c → (W.putObj b (.cells arr' bt (0, 0))).heap[c]? = W.heap[c]? ∧ ¬ M c := fun c _ hM' => ⟨putObj_other (fun e => hM' (e ▸ hM)), hM'⟩
            have hget : arr'[k]? = if off ≤ k ∧ k < off + xs.length then (a.eval y).cells.toList[k - off]? else arr[k]? := by
              rw [← Array.getElem?_toList, harr', Nat.add_zero, splice_get _ _ _ _ (by simp only [Array.length_toList]; omega), hcs']
              simp
            split at hk
            · rename_i hin
              obtain ⟨v, hv, hvr⟩ := hcr (k - off) c hk
              exact ⟨v, by rw [hget, if_pos hin]; simpa using hv, hvr.ext (fun _ _ h => h) hsz2 still⟩
            · rename_i hout
              have hlt : k < arr.size := by rw [hsz]; exact (List.getElem?_eq_some_iff.1 hk).1
              exact ⟨arr.getD k undef, by rw [hget, if_neg hout]; simp [Array.getD, hlt], (hr k c hk).ext (fun _ _ h => h) hsz2 still⟩⟩
        exact hk _ _ _ _ _ _ ⟨rfl, rfl⟩ (hc'.put hd (.im (.v undef))) hs'
      · cases hw
    · cases hw
  · cases hw

/-! ### Addresses -/
def addOff : SV → Nat → Option SV
  | .loc i o, n => some (.loc i (o + n))
  | .im (.pt cs o), n => some (.im (.pt cs (o + n)))
  | .im (.ep s es k), n => some (.im (.ep s es (k + n)))
  | .ap i k, n => some (.ap i (k + n))
  | _, _ => none

theorem addOff_R {β : List Gh} {M : Nat → Prop} {W : World} {x y : SV} {u : Value} {n : Nat} (h : R β M W x u) (hy : addOff x n = some y) :
    ∃ ad, u = .pointer (some ad) ∧ R β M W y (.pointer (some (ad.add n))) := by
  cases h with
  | loc o hg => simp only [addOff, Option.some.injEq] at hy; subst hy; exact ⟨_, rfl, by rw [add_mk]; exact .loc _ hg⟩
  | ap k hg => simp only [addOff, Option.some.injEq] at hy; subst hy; exact ⟨_, rfl, by rw [add_mk, Nat.add_assoc]; exact .ap _ hg⟩
  | im hi =>
    cases hi with
    | pt o val hb hM hc hr => simp only [addOff, Option.some.injEq] at hy; subst hy; exact ⟨_, rfl, by rw [add_mk]; exact .im (.pt _ val hb hM hc hr)⟩
    | ep k h => simp only [addOff, Option.some.injEq] at hy; subst hy; exact ⟨_, rfl, by rw [add_mk, Nat.add_assoc]; exact .im (.ep _ h)⟩
    | _ => simp [addOff] at hy
  | _ => simp [addOff] at hy

theorem OpTo.fieldAddr {o : Oper} {t : TypeId} {x : Operand} {ti : TI} {p y : SV} {f off sz : Nat} (ho : o.op = .fieldAddr t x f) (hd : ∀ d, o.dst = some d → d < C.N) (h : tinfo C.P t = some ti)
    (hk : ti.kind = .struct) (hf : ti.fields[f]? = some (off, sz + 1)) (hp : aev C.G T x = some p) (hy : addOff p off = some y) :
    OpTo C o T L (fun T' L' => T' = put T o.dst y ∧ L' = L) :=
  OpTo.pure (fun c => by rw [ho]; exact fun e => by cases e) hd fun β M a W hc => by
    obtain ⟨ad, hu, hr⟩ := addOff_R (hc.ev hp) hy
    obtain ⟨d, h1, h2, h3, h4⟩ := run_underlying (W := W) h
    have hd' : ∃ fs, d = .struct fs := by rw [hk] at h3; cases d <;> simp [kindOf] at h3; exact ⟨_, rfl⟩
    obtain ⟨fs, rfl⟩ := hd'
    have hfs : ∃ fd, fs[f]? = some fd ∧ fd.offset = off ∧ ((C.P.info? fd.type).map (·.size)).getD 0 = sz + 1 := by
      rw [← h4] at hf
      simp only [fieldsOf, List.getElem?_map, Option.map_eq_some_iff, Prod.mk.injEq] at hf
      obtain ⟨fd, hfd, h5, h6⟩ := hf
      exact ⟨fd, by simpa using hfd, h5, h6⟩
    obtain ⟨fd, hfd, rfl, h6⟩ := hfs
    have hinfo : ∃ i, C.P.info? fd.type = some i ∧ i.size = sz + 1 := by
      cases hi : C.P.info? fd.type with
      | none => simp [hi] at h6
      | some i => exact ⟨i, rfl, by simpa [hi] using h6⟩
    obtain ⟨i, hi, hsz⟩ := hinfo
    refine ⟨_, ?_, hr⟩
    simp [execOp, ho, Instr.fieldAt, h1, hfd, hu, Instr.sureAddr, fieldPlace, Go.sizeOf, typeInfo, hi, hsz]
end
end Av
end

section
/- The engine, part 6: one function for the plain operations. -/
namespace Av
open Go

def binI (op : BinOp) (k : IntKind) (a b : Int) : Option Value :=
  match op with
  | .add => some (.int k (k.wrap (a + b)))
  | .sub => some (.int k (k.wrap (a - b)))
  | .mul => some (.int k (k.wrap (a * b)))
  | .quo => if b = 0 then none else some (.int k (k.wrap (a.tdiv b)))
  | .rem => if b = 0 then none else some (.int k (a.tmod b))
  | .eql => some (.bool (decide (a = b)))
  | .neq => some (.bool (!decide (a = b)))
  | .lss => some (.bool (decide (a < b)))
  | .leq => some (.bool (decide (a ≤ b)))
  | .gtr => some (.bool (decide (b < a)))
  | .geq => some (.bool (decide (b ≤ a)))
  | .and => some (.int k (k.wrap (BitVec.ofInt k.bits a &&& BitVec.ofInt k.bits b).toNat))
  | .or => some (.int k (k.wrap (BitVec.ofInt k.bits a ||| BitVec.ofInt k.bits b).toNat))
  | .xor => some (.int k (k.wrap (BitVec.ofInt k.bits a ^^^ BitVec.ofInt k.bits b).toNat))
  | .andNot => some (.int k (k.wrap (BitVec.ofInt k.bits a &&& ~~~ BitVec.ofInt k.bits b).toNat))
  | _ => none

def shI (op : BinOp) (k : IntKind) (a b : Int) : Option Value :=
  if b < 0 then none else
    match op with
    | .shl => some (.int k (k.wrap (a * 2 ^ min b.toNat k.bits)))
    | .shr => some (.int k (a.fdiv (2 ^ min b.toNat k.bits)))
    | _ => none

/-- what a binary operation comes to -/
def binS (ti : Option TI) (op : BinOp) (x y : SV) : Option SV :=
  match x, y with
  | .im (.v (.int k a)), .im (.v (.int k' b)) =>
    match op with
    | .shl | .shr => (shI op k a b).map fun u => .im (.v u)
    | _ => if k = k' then (binI op k a b).map fun u => .im (.v u) else none
  | .im (.v (.bool a)), .im (.v (.bool b)) =>
    match ti with
    | some ⟨_, _, _, _, _, .bool⟩ => match op with
      | .eql => some (.im (.v (.bool (a == b))))
      | .neq => some (.im (.v (.bool (!(a == b)))))
      | _ => none
    | _ => none
  | _, _ => none

theorem eq_int_run {P : Program} {W : World} {t : TypeId} {k : IntKind} (a b : Int) : (binOp .eql t (.int k a) (.int k b)).run P W = .ok (.bool (decide (a = b))) W := by
  have : binOp .eql t (.int k a) (.int k b) = if k ≠ k then stuck "BinOp: operands of different kinds" else Op.intCmp .eql a b := rfl
  rw [this, if_neg (by simp)]; rfl
theorem neq_int_run {P : Program} {W : World} {t : TypeId} {k : IntKind} (a b : Int) : (binOp .neq t (.int k a) (.int k b)).run P W = .ok (.bool (!decide (a = b))) W := by
  have : binOp .neq t (.int k a) (.int k b) = if k ≠ k then stuck "BinOp: operands of different kinds" else Op.intCmp .neq a b := rfl
  rw [this, if_neg (by simp)]; rfl
theorem eq_bool_run {P : Program} {W : World} {t : TypeId} (h : (underlying t).run P W = .ok .bool W) (a b : Bool) : (Op.equal t (.bool a) (.bool b)).run P W = .ok (a == b) W := by
  show (Op.equalIn (9999 + 1) t (.bool a) (.bool b)).run P W = _
  rw [Op.equalIn, Sem.run_bind, h, Result.andThen_ok]; rfl

theorem run_binI {P : Program} {W : World} {op : BinOp} {t : TypeId} {k : IntKind} {a b : Int} {x y : Operand} {u : Value} (h : binI op k a b = some u) :
    (do eqGuard op t x y (.int k a) (.int k b); binOp op t (.int k a) (.int k b) : Sem Value).run P W = .ok u W := by
  have hg : (eqGuard op t x y (.int k a) (.int k b)).run P W = .ok () W := by
    unfold eqGuard; split <;> rfl
  rw [Sem.run_bind, hg, Result.andThen_ok]
  cases op <;> simp only [binI, Option.some.injEq] at h <;> first
    | (subst h; simp [binOp, Op.intArith, Op.intCmp, Op.intBits]; done)
    | (subst h; exact eq_int_run _ _)
    | (subst h; exact neq_int_run _ _)
    | (split at h
       · cases h
       · rename_i hb
         simp only [Option.some.injEq] at h
         subst h
         simp [binOp, Op.intDiv, hb])
    | (cases h; done)

theorem run_shI {P : Program} {W : World} {op : BinOp} {t : TypeId} {k k' : IntKind} {a b : Int} {x y : Operand} {u : Value} (h : shI op k a b = some u) :
    (do eqGuard op t x y (.int k a) (.int k' b); binOp op t (.int k a) (.int k' b) : Sem Value).run P W = .ok u W := by
  have hg : (eqGuard op t x y (.int k a) (.int k' b)).run P W = .ok () W := by
    unfold eqGuard; split <;> rfl
  rw [Sem.run_bind, hg, Result.andThen_ok]
  unfold shI at h
  split at h
  · cases h
  · rename_i hb
    cases op <;> simp only [Option.some.injEq] at h <;> first
      | (subst h; simp [binOp, Op.shift, hb]; done)
      | (cases h; done)

theorem binS_run {P : Program} {t : TypeId} {op : BinOp} {β : List Gh} {M : Nat → Prop} {W : World} {x y s : SV} {u v : Value} {ox oy : Operand} (h : binS (tinfo P t) op x y = some s)
    (hx : R β M W x u) (hy : R β M W y v) : ∃ w, (do eqGuard op t ox oy u v; binOp op t u v : Sem Value).run P W = .ok w W ∧ R β M W s w := by
  unfold binS at h
  split at h
  · rename_i k a k' b
    have := hx.bool; subst this
    have := hy.bool; subst this
    split at h
    · simp only [Option.map_eq_some_iff] at h
      obtain ⟨w, hw, rfl⟩ := h
      exact ⟨w, run_shI hw, .im (.v w)⟩
    · simp only [Option.map_eq_some_iff] at h
      obtain ⟨w, hw, rfl⟩ := h
      exact ⟨w, run_shI hw, .im (.v w)⟩
    · split at h
      · rename_i hk
        subst hk
        simp only [Option.map_eq_some_iff] at h
        obtain ⟨w, hw, rfl⟩ := h
        exact ⟨w, run_binI hw, .im (.v w)⟩
      · cases h
  · rename_i a b
    have := hx.bool; subst this
    have := hy.bool; subst this
    split at h
    · rename_i hti
      obtain ⟨d, h1, h2, h3, h4⟩ := run_underlying (W := W) hti
      have hd' : d = .bool := by cases d <;> simp [kindOf] at h3; rfl
      subst hd'
      have hg : ∀ op, (eqGuard op t ox oy (.bool a) (.bool b)).run P W = .ok () W := by
        intro op; unfold eqGuard; split <;> rfl
      cases op <;> simp only [Option.some.injEq] at h <;> first
        | (subst h
           refine ⟨_, ?_, .im (.v _)⟩
           rw [Sem.run_bind, hg, Result.andThen_ok]
           simp only [binOp, Sem.run_bind, eq_bool_run h1, Result.andThen_ok, Sem.run_pure])
        | (cases h; done)
    · cases h
  · cases h

def unS (op : UnOp) (x : SV) : Option SV :=
  match op, x with
  | .not, .im (.v (.bool b)) => some (.im (.v (.bool (!b))))
  | .neg, .im (.v (.int k n)) => some (.im (.v (.int k (k.wrap (0 - n)))))
  | _, _ => none

/-- an index that is a number -/
def indexS (ti : Option TI) (esz : TypeId → Option Nat) (x i : SV) : Option SV :=
  match i with
  | .im (.v (.int _ n)) =>
    match ti with
    | some ⟨_, _, _, _, _, .array len e⟩ => if 0 ≤ n ∧ n < len then (esz e).bind fun z => addOff x (n.toNat * z) else none
    | some ⟨_, _, _, _, _, .slice e⟩ => match x with
      | .im (.sl s es) => if 0 ≤ n ∧ n < es.length then (esz e).bind fun z => if z = s then some (.im (.ep s es (n.toNat * s))) else none else none
      | _ => none
    | _ => none
  | _ => none

theorem getD_tmp {a : Act} {t : Nat} {u : Value} (h : a.tmps[t]? = some u) : a.eval (.tmp t) = u := by simp [Act.eval, h]

theorem RI.slice {M : Nat → Prop} {W : World} {s : Nat} {es : List (List IV)} {u : Value} (h : RI M W (.sl s es) u) (hne : es ≠ []) :
    ∃ b off cap, u = .slice (some ⟨b, off, none⟩) es.length cap ∧ es.length ≤ cap := by
  cases h with
  | emp => exact absurd rfl hne
  | sl val hb hM hcap hbd hlen hc hr => exact ⟨_, _, _, rfl, hcap⟩

theorem indexS_run {P : Program} {t : TypeId} {β : List Gh} {M : Nat → Prop} {W : World} {x i s : SV} {u v : Value}
    (h : indexS (tinfo P t) (fun e => (tinfo P e).map (·.size)) x i = some s) (hx : R β M W x u) (hi : R β M W i v) :
    ∃ w, (Instr.indexAt t u v).run P W = .ok w W ∧ R β M W s w := by
  unfold indexS at h
  split at h
  · rename_i k n
    have := hi.bool; subst this
    split at h
    · rename_i len e hti
      obtain ⟨d, h1, h2, h3, h4⟩ := run_underlying (W := W) hti
      have hd' : d = .array len e := by cases d <;> simp [kindOf] at h3; obtain ⟨rfl, rfl⟩ := h3; rfl
      subst hd'
      split at h
      · rename_i hn
        simp only [Option.bind_eq_some_iff, Option.map_eq_some_iff] at h
        obtain ⟨z, ⟨ti, hz, rfl⟩, hs⟩ := h
        obtain ⟨ad, rfl, hr⟩ := addOff_R hx hs
        exact ⟨_, by simp [Instr.indexAt, asIntOf, h1, Instr.sureAddr, hn, run_sizeOf hz], hr⟩
      · cases h
    · rename_i e hti
      obtain ⟨d, h1, h2, h3, h4⟩ := run_underlying (W := W) hti
      have hd' : d = .slice e := by cases d <;> simp [kindOf] at h3; subst h3; rfl
      subst hd'
      split at h
      · rename_i s' es
        split at h
        · rename_i hn
          simp only [Option.bind_eq_some_iff, Option.map_eq_some_iff] at h
          obtain ⟨z, ⟨ti, hz, rfl⟩, hs⟩ := h
          split at hs
          · rename_i hzs
            simp only [Option.some.injEq] at hs; subst hs
            have hne : es ≠ [] := by rintro rfl; simp at hn; omega
            cases hx with
            | im hx' =>
              obtain ⟨b, off, cap, rfl, hcap⟩ := hx'.slice hne
              refine ⟨.pointer (some ⟨b, off + n.toNat * s', none⟩), ?_, .im (.ep _ hx')⟩
              simp [Instr.indexAt, asIntOf, h1, hn, run_sizeOf hz, hzs, add_mk]
          · cases hs
        · cases h
      · cases h
    · cases h
  · cases h

/-- 'len' -/
def lenS (L : List Blk) (x : SV) : Option Nat :=
  match x with
  | .im (.sl _ es) => some es.length
  | .im (.v (.slice _ n _)) => some n
  | .im .e0 => some 0
  | .app i => match L[i]? with
    | some (.app _ es _) => some es.length
    | _ => none
  | .sub _ _ lo hi _ => some (hi - lo)
  | _ => none

theorem RI.len {M : Nat → Prop} {W : World} {s : Nat} {es : List (List IV)} {u : Value} (h : RI M W (.sl s es) u) : ∃ a cap, u = .slice a es.length cap := by
  cases h with
  | emp => exact ⟨_, _, rfl⟩
  | sl => exact ⟨_, _, rfl⟩

theorem RI.big {M : Nat → Prop} {W : World} {s : Nat} {es : List (List IV)} {u : Value} (h : RI M W (.sl s es) u) : es.length ≤ bigN := by
  cases h with
  | emp => simp
  | sl val hb hM hcap hbd hlen hc hr => exact hbd
end Av
end

section
/- The engine, part 7: runs of plain operations. -/
namespace Av
open Go

/-- all that are immutable -/
def ims : List SV → Option (List IV)
  | [] => some []
  | .im x :: r => (ims r).map (x :: ·)
  | _ :: _ => none

def aevs (G : Globs) (T : Tm) : List Operand → Option (List SV)
  | [] => some []
  | x :: r => (aev G T x).bind fun s => (aevs G T r).map (s :: ·)

theorem aevs_spec {G : Globs} {T : Tm} : ∀ {xs : List Operand} {ss : List SV}, aevs G T xs = some ss →
    ss.length = xs.length ∧ ∀ (j : Nat) (s : SV), ss[j]? = some s → ∃ x, xs[j]? = some x ∧ aev G T x = some s
  | [], ss, h => by simp [aevs] at h; subst h; exact ⟨rfl, fun j s hj => by simp at hj⟩
  | x :: xs, ss, h => by
    simp only [aevs, Option.bind_eq_some_iff, Option.map_eq_some_iff] at h
    obtain ⟨s, hs, r, hr, rfl⟩ := h
    obtain ⟨h1, h2⟩ := aevs_spec hr
    refine ⟨by simp [h1], fun j s' hj => ?_⟩
    cases j with
    | zero => simp at hj; subst hj; exact ⟨x, rfl, hs⟩
    | succ j => simp at hj; obtain ⟨x', hx', hs'⟩ := h2 j s' hj; exact ⟨x', by simpa using hx', hs'⟩

theorem ims_spec : ∀ {ss : List SV} {is : List IV}, ims ss = some is → ss = is.map .im
  | [], is, h => by simp [ims] at h; subst h; rfl
  | .im x :: r, is, h => by
    simp only [ims, Option.map_eq_some_iff] at h
    obtain ⟨r', hr', rfl⟩ := h
    rw [ims_spec hr']; rfl
  | .loc _ _ :: r, is, h => by simp [ims] at h
  | .app _ :: r, is, h => by simp [ims] at h
  | .sub _ _ _ _ _ :: r, is, h => by simp [ims] at h
  | .ap _ _ :: r, is, h => by simp [ims] at h
  | .agg _ :: r, is, h => by simp [ims] at h
  | .tup _ :: r, is, h => by simp [ims] at h
  | .any :: r, is, h => by simp [ims] at h
  | .yl _ :: r, is, h => by simp [ims] at h

/-- 'build' -/
def buildS (place : Nat → Option (Nat × Nat)) (z : List SV) : List (Nat × SV) → Option (List SV)
  | [] => some z
  | (i, s) :: r => match place i, cellsOf s with
    | some (off, sz), some cs => if cs.length = sz ∧ off + sz ≤ z.length then buildS place (splice z off cs) r else none
    | _, _ => none

def dstOk (N : Nat) : Option Nat → Bool
  | some d => decide (d < N)
  | none => true

theorem dstOk_spec {N : Nat} {dst : Option Nat} (h : dstOk N dst = true) : ∀ d, dst = some d → d < N := by
  rintro d rfl; simpa [dstOk] using h

/-- the cells of a value that has more than one -/
def aggOf : SV → Option (List SV)
  | .agg cs => some cs
  | .im (.v (.agg a)) => some (a.toList.map fun x => .im (.v x))
  | _ => none

theorem aggOf_R {β : List Gh} {M : Nat → Prop} {W : World} {x : SV} {u : Value} {cs : List SV} (h : R β M W x u) (hc : aggOf x = some cs) :
    ∃ vs : Array Value, u = .agg vs ∧ vs.size = cs.length ∧ ∀ (k : Nat) (c : SV), cs[k]? = some c → ∃ v : Value, vs[k]? = some v ∧ R β M W c v := by
  cases h with
  | agg hs val hv hr =>
    simp only [aggOf, Option.some.injEq] at hc; subst hc
    exact ⟨_, rfl, hs, fun k c hk => ⟨val k, hv k c hk, hr k c hk⟩⟩
  | im hi =>
    cases hi with
    | v _ =>
      cases u with
      | agg a =>
        simp only [aggOf, Option.some.injEq] at hc; subst hc
        refine ⟨a, rfl, by simp, fun k c hk => ?_⟩
        simp only [List.getElem?_map, Option.map_eq_some_iff] at hk
        obtain ⟨v, hv, rfl⟩ := hk
        exact ⟨v, by simpa using hv, .im (.v v)⟩
      | _ => simp [aggOf] at hc
    | _ => simp [aggOf] at hc
  | _ => simp [aggOf] at hc

theorem partV_R {P : Program} {t : TypeId} {ti : TI} {β : List Gh} {M : Nat → Prop} {W : World} {cs : List SV} {vs : Array Value} {o : Nat} {x : SV} (h : tinfo P t = some ti) (hsz : vs.size = cs.length)
    (hr : ∀ (k : Nat) (c : SV), cs[k]? = some c → ∃ v : Value, vs[k]? = some v ∧ R β M W c v) (hx : Av.part ti cs o = some x) : ∃ u, (Go.part t vs o).run P W = .ok u W ∧ R β M W x u := by
  unfold Av.part at hx
  split at hx
  · rename_i ha
    split at hx
    · rename_i hn
      simp only [Option.some.injEq] at hx; subst hx
      have key : vs.extract o (o + ti.size) = ((List.range ti.size).map fun j => vs.getD (o + j) undef).toArray := by
        apply Array.ext
        · simp; omega
        · intro j h1 h2
          simp at h1 h2 ⊢
          have : o + j < vs.size := by omega
          simp [Array.getD, this]
      refine ⟨_, by simp [Go.part, run_isAgg h, ha, run_sizeOf h]; rfl, ?_⟩
      rw [key]
      refine range_R hn fun j c hj hc' => ?_
      obtain ⟨v, hv, hr'⟩ := hr _ _ hc'
      have : o + j < vs.size := (Array.getElem?_eq_some_iff.1 hv).1
      have e : vs.getD (o + j) undef = v := by rw [Array.getElem?_eq_getElem this] at hv; simp [Array.getD, this]; exact Option.some.inj hv
      rw [e]; exact hr'
    · cases hx
  · rename_i ha
    obtain ⟨v, hv, hr'⟩ := hr _ _ hx
    exact ⟨v, by simp [Go.part, run_isAgg h, ha, hv], hr'⟩

/-- the operations that neither call nor ask of slices' memory: what is handed back, and the frame's blocks behind -/
def aop (P : Program) (G : Globs) (o : Op) (T : Tm) (L : List Blk) : Option (SV × List Blk) :=
  match o with
  | .move x | .assign x => (aev G T x).map fun s => (s, L)
  | .pick c x y => match aev G T c with
    | some (.im (.v (.bool true))) => (aev G T x).map fun s => (s, L)
    | some (.im (.v (.bool false))) => (aev G T y).map fun s => (s, L)
    | _ => none
  | .alloc t => match tinfo P t with
    | some ⟨_, _, _, some z, _, _⟩ => some (.loc L.length 0, L ++ [.vars (z.map fun x => .im (.v x)) t])
    | _ => none
  | .box t x => ((aev G T x).bind cellsOf).map fun cs => (.loc L.length 0, L ++ [.vars cs t])
  | .load t x => (tinfo P t).bind fun ti => (aev G T x).bind fun p => (rd L ti p).map fun y => (y, L)
  | .store t x y => (tinfo P t).bind fun ti => (aev G T x).bind fun p => (aev G T y).bind fun s => (wr L ti.size p s).map fun L' => (.im (.v undef), L')
  | .fieldAddr t x f => match tinfo P t with
    | some ⟨_, _, _, _, fs, .struct⟩ => match fs[f]? with
      | some (off, _ + 1) => (aev G T x).bind fun p => (addOff p off).map fun y => (y, L)
      | _ => none
    | _ => none
  | .indexAddr t x i => (aev G T x).bind fun p => (aev G T i).bind fun j => (indexS (tinfo P t) (fun e => (tinfo P e).map (·.size)) p j).map fun y => (y, L)
  | .binOp op t x y _ => (aev G T x).bind fun p => (aev G T y).bind fun q => (binS (tinfo P t) op p q).map fun s => (s, L)
  | .unOp op _ x => (aev G T x).bind fun p => (unS op p).map fun s => (s, L)
  | .nilCheck x => match aev G T x with
    | some (.loc i o) => some (.loc i o, L)
    | some (.im (.pt cs o)) => some (.im (.pt cs o), L)
    | _ => none
  | .extract x i => match aev G T x with
    | some (.tup cs) => (cs[i]?).map fun s => (s, L)
    | _ => none
  | .makeFunc (.func f) fs caps => ((aevs G T fs.toList).bind ims).bind fun us => ((aevs G T caps.toList).bind ims).map fun vs => (.im (.fn f us vs), L)
  | .build t parts => match tinfo P t with
    | some ⟨_, _, _, some z, fs, .struct⟩ => if fs.all (fun f => f.2 != 0) = true then (aevs G T (parts.toList.map (·.2))).bind fun ss =>
      (buildS (fs[·]?) (z.map fun x => .im (.v x)) ((parts.toList.map (·.1)).zip ss)).map fun cs => (.agg cs, L)
      else none
    | some ⟨_, _, _, some z, _, .array _ e⟩ => match tinfo P e with
      | some ti => (aevs G T (parts.toList.map (·.2))).bind fun ss =>
        (buildS (fun i => some (i * ti.size, ti.size)) (z.map fun x => .im (.v x)) ((parts.toList.map (·.1)).zip ss)).map fun cs => (.agg cs, L)
      | none => none
    | _ => none
  | .call ⟨.builtin .len, xs, ts⟩ => match xs.toList, ts.toList with
    | [x], [t] => match tinfo P t with
      | some ⟨_, _, _, _, _, .slice _⟩ => (aev G T x).bind fun s => (lenS L s).map fun (n : Nat) => (.im (.v (.int .i64 (n : Int))), L)
      | some ⟨_, _, _, _, _, .array n _⟩ => (aev G T x).map fun _ => (.im (.v (.int .i64 n)), L)
      | _ => none
    | _, _ => none
  | .index t x i => match tinfo P t with
    | some ⟨_, _, _, _, _, .array len e⟩ => match aev G T i with
      | some (.im (.v (.int _ n))) => if 0 ≤ n ∧ n < len then (tinfo P e).bind fun te => ((aev G T x).bind aggOf).bind fun cs => (part te cs (n.toNat * te.size)).map fun y => (y, L) else none
      | _ => none
    | _ => none
  | .convert src dst x => match tinfo P src, tinfo P dst with
    | some _, some ⟨_, _, _, _, _, .int k⟩ => match aev G T x with
      | some (.im (.v (.int _ n))) => some (.im (.v (.int k (k.wrap n))), L)
      | _ => none
    | _, _ => none
  | _ => none

def astep (P : Program) (G : Globs) (N : Nat) (o : Oper) (T : Tm) (L : List Blk) : Option (Tm × List Blk) :=
  if dstOk N o.dst = true then (aop P G o.op T L).map fun r => (put T o.dst r.1, r.2) else none

theorem foldl_splice (off : Nat) : ∀ (l : List Value) (k : Nat) (cs : Array Value),
    ((l.zipIdx k).foldl (fun cs (c, j) => cs.setIfInBounds (off + j) c) cs).toList = splice cs.toList (off + k) l
  | [], k, cs => rfl
  | x :: l, k, cs => by
    rw [List.zipIdx_cons, List.foldl_cons, foldl_splice off l (k + 1)]
    simp [splice, Nat.add_assoc]

theorem splice_R {β : List Gh} {M : Nat → Prop} {W : World} {z xs : List SV} {vz vx : List Value} {off : Nat} (hz : vz.length = z.length)
    (hzr : ∀ (k : Nat) (c : SV), z[k]? = some c → ∃ v : Value, vz[k]? = some v ∧ R β M W c v) (hx : vx.length = xs.length)
    (hxr : ∀ (k : Nat) (c : SV), xs[k]? = some c → ∃ v : Value, vx[k]? = some v ∧ R β M W c v) (hle : off + xs.length ≤ z.length) :
    (splice vz off vx).length = (splice z off xs).length ∧ ∀ (k : Nat) (c : SV), (splice z off xs)[k]? = some c → ∃ v : Value, (splice vz off vx)[k]? = some v ∧ R β M W c v := by
  refine ⟨by simp [splice_length, hz], fun k c hk => ?_⟩
  rw [splice_get _ _ _ _ hle] at hk
  rw [splice_get _ _ _ _ (by omega), hx]
  split at hk
  · rename_i h; rw [if_pos h]; exact hxr _ c hk
  · rename_i h; rw [if_neg h]; exact hzr _ c hk

theorem buildS_run {β : List Gh} {M : Nat → Prop} {W : World} {place : Nat → Option (Nat × Nat)} : ∀ (ps : List (Nat × SV)) (vs : List (Nat × Value)) (z cs : List SV) (vz : Array Value),
    vz.size = z.length → (∀ (k : Nat) (c : SV), z[k]? = some c → ∃ v : Value, vz[k]? = some v ∧ R β M W c v) → ps.length = vs.length →
    (∀ (j : Nat) (i : Nat) (s : SV), ps[j]? = some (i, s) → ∃ v : Value, vs[j]? = some (i, v) ∧ R β M W s v) → buildS place z ps = some cs →
    ∃ arr : Array Value, Instr.fill place vz vs = some arr ∧ arr.size = cs.length ∧ ∀ (k : Nat) (c : SV), cs[k]? = some c → ∃ v : Value, arr[k]? = some v ∧ R β M W c v
  | [], vs, z, cs, vz, h1, h2, h3, h4, h => by
    simp only [buildS, Option.some.injEq] at h; subst h
    cases vs with
    | nil => exact ⟨vz, rfl, h1, h2⟩
    | cons v vs => simp at h3
  | (i, s) :: ps, vs, z, cs, vz, h1, h2, h3, h4, h => by
    cases vs with
    | nil => simp at h3
    | cons v vs =>
      obtain ⟨v', hv', hr⟩ := h4 0 i s rfl
      simp only [List.getElem?_cons_zero, Option.some.injEq] at hv'; subst hv'
      simp only [buildS] at h
      split at h
      · rename_i off sz xs hp hxs
        split at h
        · rename_i hc
          obtain ⟨hlen, hle⟩ := hc
          obtain ⟨c1, c2⟩ := cells_R hr hxs
          have key := splice_R (vz := vz.toList) (vx := v'.cells.toList) (z := z) (xs := xs) (off := off) (by simpa using h1) (fun k c hk => by simpa using h2 k c hk) (by simpa using c1)
            (fun k c hk => by simpa using c2 k c hk) (by omega)
          have hfold : (v'.cells.zipIdx.foldl (fun cs (c, j) => cs.setIfInBounds (off + j) c) vz).toList = splice vz.toList off v'.cells.toList := by
            rw [← Array.foldl_toList]
            have := foldl_splice off v'.cells.toList 0 vz
            simpa using this
          obtain ⟨arr, ha, hb, hc⟩ := buildS_run ps vs (splice z off xs) cs (v'.cells.zipIdx.foldl (fun cs (c, j) => cs.setIfInBounds (off + j) c) vz)
            (by rw [← Array.length_toList, hfold]; exact key.1) (fun k c hk => by rw [← Array.getElem?_toList, hfold]; exact key.2 k c hk) (by simpa using h3)
            (fun j i s hj => h4 (j + 1) i s (by simpa using hj)) h
          refine ⟨arr, ?_, hb, hc⟩
          rw [Instr.fill, hp]
          simp only []
          rw [if_neg (by simp only [Bool.or_eq_true, decide_eq_true_eq, not_or, ne_eq]; refine ⟨?_, ?_⟩ <;> omega)]
          exact ha
        · cases h
      · cases h

section
variable {C : Cx} {Q : QT} {T : Tm} {L : List Blk}

theorem len_R {G : Globs} {β : List Gh} {M : Nat → Prop} {W : World} {s : SV} {u : Value} {n : Nat} (hs : Sat G β M L W) (h : R β M W s u) (hl : lenS L s = some n) : ∃ a c, u = .slice a n c := by
  cases h with
  | im hi =>
    cases hi with
    | v x =>
      cases u <;> simp [lenS] at hl
      subst hl; exact ⟨_, _, rfl⟩
    | e0 => simp [lenS] at hl; subst hl; exact ⟨_, _, rfl⟩
    | emp => simp [lenS] at hl; subst hl; exact ⟨_, _, rfl⟩
    | sl => simp [lenS] at hl; subst hl; exact ⟨_, _, rfl⟩
    | _ => simp [lenS] at hl
  | app hg =>
    simp only [lenS] at hl
    split at hl
    · rename_i hL
      simp only [Option.some.injEq] at hl; subst hl
      have := hs.ok _ _ _ hg hL
      exact ⟨_, _, by rw [this.1]⟩
    · cases hl
  | sub s lo hi m cp hg hcp => simp only [lenS, Option.some.injEq] at hl; subst hl; exact ⟨_, _, rfl⟩
  | _ => simp [lenS] at hl

theorem mapR {β : List Gh} {M : Nat → Prop} {a : Act} {W : World} (hc : Conc C.G C.N T L β M a W) {xs : List Operand} {ss : List SV} (h : aevs C.G T xs = some ss) :
    ss.length = xs.length ∧ ∀ (j : Nat) (s : SV), ss[j]? = some s → ∃ v : Value, (xs.map a.eval)[j]? = some v ∧ R β M W s v := by
  obtain ⟨h1, h2⟩ := aevs_spec h
  refine ⟨h1, fun j s hj => ?_⟩
  obtain ⟨x, hx, hs⟩ := h2 j s hj
  exact ⟨a.eval x, by simp [hx], hc.ev hs⟩

theorem ims_R {β : List Gh} {M : Nat → Prop} {a : Act} {W : World} (hc : Conc C.G C.N T L β M a W) {xs : List Operand} {is : List IV} (h : (aevs C.G T xs).bind ims = some is) :
    is.length = xs.length ∧ ∀ (j : Nat) (s : IV), is[j]? = some s → ∃ v : Value, (xs.map a.eval)[j]? = some v ∧ RI M W s v := by
  simp only [Option.bind_eq_some_iff] at h
  obtain ⟨ss, hss, his⟩ := h
  have := ims_spec his; subst this
  obtain ⟨h1, h2⟩ := mapR hc hss
  refine ⟨by simpa using h1, fun j s hj => ?_⟩
  obtain ⟨v, hv, hr⟩ := h2 j (.im s) (by simp [hj])
  cases hr with | im hr => exact ⟨v, hv, hr⟩

theorem run_places {P : Program} {W : World} : ∀ (l : List Field), (∀ f, f ∈ l → ((P.info? f.type).map (·.size)).getD 0 ≠ 0) →
    (l.mapM (fun f => do pure (f.offset, ← Go.sizeOf f.type) : Field → Sem (Nat × Nat))).run P W = .ok (l.map fun f => (f.offset, ((P.info? f.type).map (·.size)).getD 0)) W
  | [], _ => rfl
  | f :: l, h => by
    have hf := h f List.mem_cons_self
    have ih := run_places (P := P) (W := W) l (fun g hg => h g (List.mem_cons_of_mem _ hg))
    cases hi : P.info? f.type with
    | none => simp [hi] at hf
    | some i =>
      rw [List.mapM_cons, Sem.run_bind, Sem.run_bind]
      simp only [Go.sizeOf, typeInfo, Sem.run_bind, run_program, Result.andThen_ok, hi, Sem.run_pure, Option.map_some, Option.getD_some, List.map_cons]
      simp only [Go.sizeOf, typeInfo] at ih
      rw [ih]; rfl

theorem zip_get {ks : List Nat} {ss : List SV} {j i : Nat} {s : SV} (h : (ks.zip ss)[j]? = some (i, s)) : ks[j]? = some i ∧ ss[j]? = some s := by
  rw [List.getElem?_zip_eq_some] at h; exact h

theorem build_args {β : List Gh} {M : Nat → Prop} {a : Act} {W : World} (hc : Conc C.G C.N T L β M a W) {parts : Array (Nat × Operand)} {ss : List SV}
    (h : aevs C.G T (parts.toList.map (·.2)) = some ss) :
    ((parts.toList.map (·.1)).zip ss).length = (parts.map fun (i, x) => (i, a.eval x)).toList.length ∧
    ∀ (j : Nat) (i : Nat) (s : SV), ((parts.toList.map (·.1)).zip ss)[j]? = some (i, s) → ∃ v : Value, (parts.map fun (i, x) => (i, a.eval x)).toList[j]? = some (i, v) ∧ R β M W s v := by
  obtain ⟨h1, h2⟩ := mapR hc h
  refine ⟨by simp at h1 ⊢; omega, fun j i s hj => ?_⟩
  obtain ⟨hi, hs⟩ := zip_get hj
  obtain ⟨v, hv, hr⟩ := h2 j s hs
  simp only [List.getElem?_map, Option.map_eq_some_iff] at hi hv
  obtain ⟨p, hp, rfl⟩ := hi
  obtain ⟨x, ⟨p', hp', rfl⟩, rfl⟩ := hv
  rw [hp] at hp'; cases hp'
  exact ⟨a.eval p.2, by simp only [Array.toList_map, List.getElem?_map, hp, Option.map_some], hr⟩

set_option linter.unusedSimpArgs false in
theorem OpTo.aop {o : Oper} {y : SV} {L' : List Blk} (hd' : dstOk C.N o.dst = true) (h : Av.aop C.P C.G o.op T L = some (y, L')) : OpTo C o T L (fun T'' L'' => T'' = put T o.dst y ∧ L'' = L') := by
  have hd := dstOk_spec hd'
  generalize hoo : o.op = oo at h
  unfold Av.aop at h
  have nd : ∀ {op : Op}, o.op = op → (∀ c, op ≠ .defer c) → ∀ c, o.op ≠ .defer c := fun e h c => by rw [e]; exact h c
  split at h
  · rename_i x
    have ho := hoo
    simp only [Option.map_eq_some_iff, Prod.mk.injEq] at h
    obtain ⟨s, hs, rfl, rfl⟩ := h
    exact OpTo.pure (nd ho (fun _ e => by cases e)) hd fun β M a W hc => ⟨a.eval x, by simp [execOp, ho], hc.ev hs⟩
  · rename_i x
    have ho := hoo
    simp only [Option.map_eq_some_iff, Prod.mk.injEq] at h
    obtain ⟨s, hs, rfl, rfl⟩ := h
    exact OpTo.pure (nd ho (fun _ e => by cases e)) hd fun β M a W hc => ⟨a.eval x, by simp [execOp, ho], hc.ev hs⟩
  · rename_i c x y
    have ho := hoo
    split at h
    · rename_i hcv
      simp only [Option.map_eq_some_iff, Prod.mk.injEq] at h
      obtain ⟨s, hs, rfl, rfl⟩ := h
      exact OpTo.pure (nd ho (fun _ e => by cases e)) hd fun β M a W hc => ⟨a.eval x, by simp [execOp, ho, asBool, (hc.ev hcv).bool], hc.ev hs⟩
    · rename_i hcv
      simp only [Option.map_eq_some_iff, Prod.mk.injEq] at h
      obtain ⟨s, hs, rfl, rfl⟩ := h
      exact OpTo.pure (nd ho (fun _ e => by cases e)) hd fun β M a W hc => ⟨a.eval y, by simp [execOp, ho, asBool, (hc.ev hcv).bool], hc.ev hs⟩
    · cases h
  · rename_i t
    have ho := hoo
    split at h
    · rename_i hti
      simp only [Option.some.injEq, Prod.mk.injEq] at h
      obtain ⟨rfl, rfl⟩ := h
      exact OpTo.alloc ho hd hti rfl
    · cases h
  · rename_i t x
    have ho := hoo
    simp only [Option.map_eq_some_iff, Option.bind_eq_some_iff, Prod.mk.injEq] at h
    obtain ⟨cs, ⟨s, hs, hcs⟩, rfl, rfl⟩ := h
    exact OpTo.box ho hd hs hcs
  · rename_i t x
    have ho := hoo
    simp only [Option.map_eq_some_iff, Option.bind_eq_some_iff, Prod.mk.injEq] at h
    obtain ⟨ti, hti, p, hp, y, hy, rfl, rfl⟩ := h
    exact OpTo.load ho hd hti hp hy
  · rename_i t x y
    have ho := hoo
    simp only [Option.map_eq_some_iff, Option.bind_eq_some_iff, Prod.mk.injEq] at h
    obtain ⟨ti, hti, p, hp, s, hs, L1, hw, rfl, rfl⟩ := h
    exact OpTo.store ho hd hti hp hs hw
  · rename_i t x f
    have ho := hoo
    split at h
    · rename_i hti
      split at h
      · rename_i hf
        simp only [Option.map_eq_some_iff, Option.bind_eq_some_iff, Prod.mk.injEq] at h
        obtain ⟨p, hp, y, hy, rfl, rfl⟩ := h
        exact OpTo.fieldAddr ho hd hti rfl hf hp hy
      · cases h
    · cases h
  · rename_i t x i
    have ho := hoo
    simp only [Option.map_eq_some_iff, Option.bind_eq_some_iff, Prod.mk.injEq] at h
    obtain ⟨p, hp, j, hj, y, hy, rfl, rfl⟩ := h
    exact OpTo.pure (nd ho (fun _ e => by cases e)) hd fun β M a W hc => by
      obtain ⟨w, hw, hr⟩ := indexS_run hy (hc.ev hp) (hc.ev hj)
      exact ⟨w, by simp [execOp, ho, hw], hr⟩
  · rename_i op t x y yt
    have ho := hoo
    simp only [Option.map_eq_some_iff, Option.bind_eq_some_iff, Prod.mk.injEq] at h
    obtain ⟨p, hp, q, hq, s, hs, rfl, rfl⟩ := h
    exact OpTo.pure (nd ho (fun _ e => by cases e)) hd fun β M a W hc => by
      obtain ⟨w, hw, hr⟩ := binS_run (ox := x) (oy := y) hs (hc.ev hp) (hc.ev hq)
      refine ⟨w, ?_, hr⟩
      simp only [execOp, ho]
      rw [Sem.run_bind, hw]; rfl
  · rename_i op t x
    have ho := hoo
    simp only [Option.map_eq_some_iff, Option.bind_eq_some_iff, Prod.mk.injEq] at h
    obtain ⟨p, hp, s, hs, rfl, rfl⟩ := h
    exact OpTo.pure (nd ho (fun _ e => by cases e)) hd fun β M a W hc => by
      unfold unS at hs
      split at hs
      · simp only [Option.some.injEq] at hs; subst hs
        exact ⟨_, by simp [execOp, ho, (hc.ev hp).bool, Op.unary], .im (.v _)⟩
      · simp only [Option.some.injEq] at hs; subst hs
        exact ⟨_, by simp [execOp, ho, (hc.ev hp).bool, Op.unary, Op.intArith], .im (.v _)⟩
      · cases hs
  · rename_i x
    have ho := hoo
    split at h
    · rename_i i off hx
      simp only [Option.some.injEq, Prod.mk.injEq] at h
      obtain ⟨rfl, rfl⟩ := h
      exact OpTo.pure (nd ho (fun _ e => by cases e)) hd fun β M a W hc => by
        have hr := hc.ev hx
        generalize hu : a.eval x = u at hr
        cases hr with | loc _ hg => exact ⟨_, by simp [execOp, ho, hu], .loc off hg⟩
    · rename_i cs off hx
      simp only [Option.some.injEq, Prod.mk.injEq] at h
      obtain ⟨rfl, rfl⟩ := h
      exact OpTo.pure (nd ho (fun _ e => by cases e)) hd fun β M a W hc => by
        have hr := hc.ev hx
        obtain ⟨b, val, hu, _⟩ := hr.pt
        exact ⟨a.eval x, by simp [execOp, ho, hu], hr⟩
    · cases h
  · rename_i x i
    have ho := hoo
    split at h
    · rename_i cs hx
      simp only [Option.map_eq_some_iff, Prod.mk.injEq] at h
      obtain ⟨s, hs, rfl, rfl⟩ := h
      exact OpTo.pure (nd ho (fun _ e => by cases e)) hd fun β M a W hc => by
        have hr := hc.ev hx
        generalize hu : a.eval x = u at hr
        cases hr with
        | tup hsz val hv hr => exact ⟨val i, by simp [execOp, ho, hu, Instr.extract, hv i s hs], hr i s hs⟩
    · cases h
  · rename_i f fs caps
    have ho := hoo
    simp only [Option.map_eq_some_iff, Option.bind_eq_some_iff (x := (aevs C.G T fs.toList).bind ims), Prod.mk.injEq] at h
    obtain ⟨us, hus, vs, hvs, rfl, rfl⟩ := h
    exact OpTo.pure (nd ho (fun _ e => by cases e)) hd fun β M a W hc => by
      obtain ⟨h1, h2⟩ := ims_R hc hus
      obtain ⟨h3, h4⟩ := ims_R hc hvs
      refine ⟨.func (.func f) (fs.map a.eval) (caps.map a.eval), by simp [execOp, ho, Instr.makeFunc], .im (.fn (by simpa using h1.symm) (by simpa using h3.symm)
        (fun j => (fs.map a.eval).getD j undef) (fun j => (caps.map a.eval).getD j undef) (fun j c hj => ?_) (fun j c hj => ?_) (fun j c hj => ?_) (fun j c hj => ?_))⟩
      · obtain ⟨v, hv, hr⟩ := h2 j c hj
        have : (fs.map a.eval)[j]? = some v := by rw [← Array.getElem?_toList, Array.toList_map]; exact hv
        rw [Array.getD_eq_getD_getElem?, this]; rfl
      · obtain ⟨v, hv, hr⟩ := h2 j c hj
        have : (fs.map a.eval)[j]? = some v := by rw [← Array.getElem?_toList, Array.toList_map]; exact hv
        rw [Array.getD_eq_getD_getElem?, this]; exact hr
      · obtain ⟨v, hv, hr⟩ := h4 j c hj
        have : (caps.map a.eval)[j]? = some v := by rw [← Array.getElem?_toList, Array.toList_map]; exact hv
        rw [Array.getD_eq_getD_getElem?, this]; rfl
      · obtain ⟨v, hv, hr⟩ := h4 j c hj
        have : (caps.map a.eval)[j]? = some v := by rw [← Array.getElem?_toList, Array.toList_map]; exact hv
        rw [Array.getD_eq_getD_getElem?, this]; exact hr
  · rename_i t parts
    have ho := hoo
    split at h
    · rename_i z fs hti
      split at h
      case isFalse => cases h
      rename_i hfs
      simp only [Option.map_eq_some_iff, Option.bind_eq_some_iff, Prod.mk.injEq] at h
      obtain ⟨ss, hss, cs, hcs, rfl, rfl⟩ := h
      exact OpTo.pure (nd ho (fun _ e => by cases e)) hd fun β M a W hc => by
        obtain ⟨b1, b2⟩ := build_args hc hss
        obtain ⟨u, hu, hcl⟩ := run_zeroValue (W := W) hti rfl
        obtain ⟨d, h1, h2, h3, h4⟩ := run_underlying (W := W) hti
        have hd' : ∃ fs, d = .struct fs := by cases d <;> simp [kindOf] at h3; exact ⟨_, rfl⟩
        obtain ⟨fds, rfl⟩ := hd'
        obtain ⟨arr, ha, hb, hcr⟩ := buildS_run (β := β) (M := M) (W := W) _ _ _ cs z.toArray (by simp) (fun k c hk => by
          simp only [List.getElem?_map, Option.map_eq_some_iff] at hk
          obtain ⟨v, hv, rfl⟩ := hk
          exact ⟨v, by simpa using hv, .im (.v v)⟩) b1 b2 hcs
        refine ⟨.agg arr, ?_, .agg hb (fun j => arr.getD j undef) (fun j c hj => ?_) (fun j c hj => ?_)⟩
        · have hpl := run_places (P := C.P) (W := W) fds.toList (fun f hf => by
            have := List.all_eq_true.1 hfs
            have h5 := this (f.offset, ((C.P.info? f.type).map (·.size)).getD 0) (by have h4' : fieldsOf C.P (.struct fds) = fs := h4; rw [← h4']; exact List.mem_map.2 ⟨f, hf, rfl⟩)
            simpa using h5)
          simp only [execOp, ho, Instr.build, Sem.run_bind, hu, Result.andThen_ok, h1, Array.mapM_eq_mapM_toList, Sem.run_map]
          rw [hpl]
          simp only [Result.andThen_ok, hcl]
          have hpe : (fun (x : Nat) => (List.map (fun f => (f.offset, (Option.map (fun x => x.size) (C.P.info? f.type)).getD 0)) fds.toList).toArray[x]?) = (fun (x : Nat) => fs[x]?) := by
            funext x
            have h4' : fieldsOf C.P (.struct fds) = fs := h4
            rw [← h4']; simp only [fieldsOf, List.getElem?_toArray]
          rw [hpe, ha]
          rfl
        · obtain ⟨v, hv, hr⟩ := hcr j c hj; simp [Array.getD_eq_getD_getElem?, hv]
        · obtain ⟨v, hv, hr⟩ := hcr j c hj; simpa [Array.getD_eq_getD_getElem?, hv] using hr
    · rename_i z fs n e hti
      split at h
      · rename_i ti hte
        simp only [Option.map_eq_some_iff, Option.bind_eq_some_iff, Prod.mk.injEq] at h
        obtain ⟨ss, hss, cs, hcs, rfl, rfl⟩ := h
        exact OpTo.pure (nd ho (fun _ e => by cases e)) hd fun β M a W hc => by
          obtain ⟨b1, b2⟩ := build_args hc hss
          obtain ⟨u, hu, hcl⟩ := run_zeroValue (W := W) hti rfl
          obtain ⟨d, h1, h2, h3, h4⟩ := run_underlying (W := W) hti
          have hd' : ∃ n', d = .array n' e := by cases d <;> simp [kindOf] at h3; obtain ⟨_, rfl⟩ := h3; exact ⟨_, rfl⟩
          obtain ⟨n', rfl⟩ := hd'
          obtain ⟨arr, ha, hb, hcr⟩ := buildS_run (β := β) (M := M) (W := W) _ _ _ cs z.toArray (by simp) (fun k c hk => by
            simp only [List.getElem?_map, Option.map_eq_some_iff] at hk
            obtain ⟨v, hv, rfl⟩ := hk
            exact ⟨v, by simpa using hv, .im (.v v)⟩) b1 b2 hcs
          refine ⟨.agg arr, ?_, .agg hb (fun j => arr.getD j undef) (fun j c hj => ?_) (fun j c hj => ?_)⟩
          · simp only [execOp, ho, Instr.build, Sem.run_bind, hu, Result.andThen_ok, h1, run_sizeOf hte, hcl, ha]
            rfl
          · obtain ⟨v, hv, hr⟩ := hcr j c hj; simp [Array.getD_eq_getD_getElem?, hv]
          · obtain ⟨v, hv, hr⟩ := hcr j c hj; simpa [Array.getD_eq_getD_getElem?, hv] using hr
      · cases h
    · cases h
  · rename_i xs ts
    have ho := hoo
    split at h
    · rename_i x t hxs hts
      have hxs' : xs = #[x] := by rw [← Array.toArray_toList (xs := xs), hxs]
      have hts' : ts = #[t] := by rw [← Array.toArray_toList (xs := ts), hts]
      subst hxs' hts'
      split at h
      · rename_i e hti
        simp only [Option.map_eq_some_iff, Option.bind_eq_some_iff, Prod.mk.injEq] at h
        obtain ⟨s, hs, n, hn, rfl, rfl⟩ := h
        exact OpTo.pure (nd ho (fun _ e => by cases e)) hd fun β M a W hc => by
          obtain ⟨ad, c, hu⟩ := len_R hc.sat (hc.ev hs) hn
          obtain ⟨d, h1, h2, h3, h4⟩ := run_underlying (W := W) hti
          have hd' : d = .slice e := by cases d <;> simp [kindOf] at h3; subst h3; rfl
          subst hd'
          exact ⟨.int .i64 n, by simp [execOp, ho, resolve, invoke, builtin, Builtin.len_, h1, hu, goInt], .im (.v _)⟩
      · rename_i n e hti
        simp only [Option.map_eq_some_iff, Prod.mk.injEq] at h
        obtain ⟨s, hs, rfl, rfl⟩ := h
        exact OpTo.pure (nd ho (fun _ e => by cases e)) hd fun β M a W hc => by
          obtain ⟨d, h1, h2, h3, h4⟩ := run_underlying (W := W) hti
          have hd' : d = .array n e := by cases d <;> simp [kindOf] at h3; obtain ⟨rfl, rfl⟩ := h3; rfl
          subst hd'
          exact ⟨.int .i64 n, by simp [execOp, ho, resolve, invoke, builtin, Builtin.len_, h1, goInt], .im (.v _)⟩
      · cases h
    · cases h
  · rename_i t x i
    have ho := hoo
    split at h
    · rename_i len e hti
      split at h
      · rename_i k n hn
        split at h
        · rename_i hb
          simp only [Option.map_eq_some_iff, Option.bind_eq_some_iff, Prod.mk.injEq] at h
          obtain ⟨te, hte, cs, ⟨s, hs, hcs⟩, y, hy, rfl, rfl⟩ := h
          exact OpTo.pure (nd ho (fun _ e => by cases e)) hd fun β M a W hc => by
            obtain ⟨vs, hu, hsz, hr⟩ := aggOf_R (hc.ev hs) hcs
            obtain ⟨u, hu', hr'⟩ := partV_R hte hsz hr hy
            obtain ⟨d, h1, h2, h3, h4⟩ := run_underlying (W := W) hti
            have hd' : d = .array len e := by cases d <;> simp [kindOf] at h3; obtain ⟨rfl, rfl⟩ := h3; rfl
            subst hd'
            exact ⟨u, by simp [execOp, ho, Instr.index, (hc.ev hn).bool, asIntOf, h1, hu, hb, run_sizeOf hte, hu'], hr'⟩
        · cases h
      · cases h
    · cases h
  · rename_i t dst x
    have ho := hoo
    split at h
    · rename_i tis k hts hti
      split at h
      · rename_i k' n hn
        simp only [Option.some.injEq, Prod.mk.injEq] at h
        obtain ⟨rfl, rfl⟩ := h
        exact OpTo.pure (nd ho (fun _ e => by cases e)) hd fun β M a W hc => by
          obtain ⟨d, h1, h2, h3, h4⟩ := run_underlying (W := W) hti
          have hd' : d = .int k := by cases d <;> simp [kindOf] at h3; subst h3; rfl
          subst hd'
          obtain ⟨d', g1, g2, g3, g4⟩ := run_underlying (W := W) hts
          have hu := (hc.ev hn).bool
          refine ⟨.int k (k.wrap n), ?_, .im (.v _)⟩
          have : (convert t dst (a.eval x)).run C.P W = .ok (.int k (k.wrap n)) W := by
            rw [hu]
            unfold convert
            rw [Sem.run_bind, g1, Result.andThen_ok, Sem.run_bind, h1, Result.andThen_ok]
            rfl
          simp [execOp, ho, this]
      · cases h
    · cases h
  · cases h

theorem OpTo.astep {o : Oper} {T' : Tm} {L' : List Blk} (h : Av.astep C.P C.G C.N o T L = some (T', L')) : OpTo C o T L (fun T'' L'' => T'' = T' ∧ L'' = L') := by
  unfold Av.astep at h
  split at h
  · rename_i hd
    simp only [Option.map_eq_some_iff, Prod.mk.injEq] at h
    obtain ⟨⟨y, L1⟩, hy, rfl, rfl⟩ := h
    exact OpTo.aop hd hy
  · cases h

/-- an operation asks of its operands alone -/
theorem aop_agree {P : Program} {G : Globs} {o : Op} {T T' : Tm} {L : List Blk} (h : ∀ x, x ∈ o.operands.toList → aev G T x = aev G T' x) : Av.aop P G o T L = Av.aop P G o T' L := by
  have hs : ∀ (l : List Operand), (∀ x, x ∈ l → aev G T x = aev G T' x) → aevs G T l = aevs G T' l := by
    intro l
    induction l with
    | nil => intro _; rfl
    | cons x l ih => intro hl; simp only [aevs]; rw [hl x List.mem_cons_self, ih fun y hy => hl y (List.mem_cons_of_mem _ hy)]
  have mem : ∀ {ops : Array Operand} {l : List Operand}, ops.toList = l → (∀ x, x ∈ ops.toList → aev G T x = aev G T' x) → aevs G T l = aevs G T' l := by
    rintro ops l rfl h; exact hs _ h
  cases o with
  | move x => simp only [Av.aop]; rw [h x (by simp [Op.operands])]
  | assign x => simp only [Av.aop]; rw [h x (by simp [Op.operands])]
  | pick c x y => simp only [Av.aop]; rw [h c (by simp [Op.operands]), h x (by simp [Op.operands]), h y (by simp [Op.operands])]
  | box t x => simp only [Av.aop]; rw [h x (by simp [Op.operands])]
  | load t x => simp only [Av.aop]; rw [h x (by simp [Op.operands])]
  | store t x y => simp only [Av.aop]; rw [h x (by simp [Op.operands]), h y (by simp [Op.operands])]
  | fieldAddr t x f => simp only [Av.aop]; rw [h x (by simp [Op.operands])]
  | indexAddr t x i => simp only [Av.aop]; rw [h x (by simp [Op.operands]), h i (by simp [Op.operands])]
  | index t x i => simp only [Av.aop]; rw [h x (by simp [Op.operands]), h i (by simp [Op.operands])]
  | convert s t x => simp only [Av.aop]; rw [h x (by simp [Op.operands])]
  | binOp op t x y yt => simp only [Av.aop]; rw [h x (by simp [Op.operands]), h y (by simp [Op.operands])]
  | unOp op t x => simp only [Av.aop]; rw [h x (by simp [Op.operands])]
  | nilCheck x => simp only [Av.aop]; rw [h x (by simp [Op.operands])]
  | extract x i => simp only [Av.aop]; rw [h x (by simp [Op.operands])]
  | makeFunc fn fs caps =>
    cases fn with
    | func f =>
      simp only [Av.aop]
      rw [hs fs.toList (fun x hx => h x (by simp only [Op.operands, Array.toList_append, List.mem_append]; exact .inl hx)),
        hs caps.toList (fun x hx => h x (by simp only [Op.operands, Array.toList_append, List.mem_append]; exact .inr hx))]
    | _ => simp only [Av.aop]
  | build t parts =>
    simp only [Av.aop]
    rw [hs (parts.toList.map (·.2)) (fun x hx => h x (by simpa [Op.operands] using hx))]
  | call c =>
    obtain ⟨callee, args, ts⟩ := c
    cases callee with
    | builtin b =>
      cases b with
      | len =>
        simp only [Av.aop]
        split
        · rename_i x t hx ht
          rw [h x (by simp only [Op.operands, Call.operands, Array.toList_append, List.mem_append]; right; rw [hx]; simp)]
        · rfl
      | _ => simp only [Av.aop]
    | _ => simp only [Av.aop]
  | _ => simp only [Av.aop]
end
end Av
end
