/- Regions in any order. -/
import Derived.Test.YthcoldfgpigdhaaGreatDoorZE
namespace Go.Zd


/-! ## traces -/

variable {P : Program} {F : Nat → Option DFn} {rec : Rec} {base : Nat}

/-- what a function's body knows of its frame: its size, the calls put off, which slots it may write, what the others hold -/
structure Env where
  n : Nat
  ds : List Deferred
  W : Nat → Bool
  T : Nat → Value

structure Ctx where
  PR : List Nat
  ops : Array Oper
  ins : List DIns
  draw : Bool
  must : Nat → Nat → Bool
  tr : Nat → RSt
  M : Nat
  w0 : World
  g0 : Gh
  O0 : Nat → Loc
  env : Env

def Ctx.E (C : Ctx) (p : Nat) : Bool := match C.ins[p]? with
  | some i => isE i.op
  | none => false
def Ctx.wr (C : Ctx) (p t : Nat) : Prop := ∃ i, C.ins[p]? = some i ∧ i.dst = some t
def Ctx.before (C : Ctx) (p r : Nat) : Prop := ∃ i j, C.ins[p]? = some i ∧ C.ins[r]? = some j ∧ C.must i.ix j.ix = true

structure Ctx.Ok (C : Ctx) (P : Program) (F : Nat → Option DFn) (rec : Rec) (base : Nat) : Prop where
  hM : C.M ≤ C.ins.length
  htr : ∀ p, p < C.M → ∃ i, C.ins[p]? = some i ∧ stepIns F rec C.PR C.draw i (C.tr p) = some (none, C.tr (p + 1))
  hpair : ∀ (p r : Nat) i j, p < r → C.ins[p]? = some i → C.ins[r]? = some j → pairOk C.must i j = true
  hdst : ∀ (p : Nat) i t, C.ins[p]? = some i → i.dst = some t → t < C.env.n
  hW : ∀ (p : Nat) i t, C.ins[p]? = some i → i.dst = some t → C.env.W t = true
  hrec : RecKeeps rec
  hseq : C.draw = false → ∀ (p r : Nat) i j, C.ins[p]? = some i → C.ins[r]? = some j → p < r → C.must i.ix j.ix = true
  hn : C.g0.n = (C.tr 0).st.H.length

section
variable {C : Ctx}

theorem Ctx.Ok.quiet (ok : C.Ok P F rec base) {p : Nat} (hp : p < C.M) (hE : C.E p = false) : ∃ v i, C.ins[p]? = some i ∧ isOwn v = false ∧ C.tr (p + 1) = putV (C.tr p) i.dst v := by
  obtain ⟨i, hi, hs⟩ := ok.htr p hp
  have hq : isE i.op = false := by simpa [Ctx.E, hi] using hE
  obtain ⟨_, v, hv, he⟩ := stepIns_quiet hq hs
  exact ⟨v, i, hi, hv, he⟩

theorem Ctx.Ok.slot_same (ok : C.Ok P F rec base) {p t : Nat} (hp : p < C.M) (hw : ¬ C.wr p t) : (look (C.tr (p + 1)).st.tm t).clean = (look (C.tr p).st.tm t).clean := by
  obtain ⟨i, hi, hs⟩ := ok.htr p hp
  exact stepIns_slots hs fun h => hw ⟨i, hi, h⟩

theorem Ctx.Ok.L_sub (ok : C.Ok P F rec base) {p : Nat} (hp : p < C.M) : ∀ e ∈ (C.tr (p + 1)).L, e ∈ (C.tr p).L := by
  obtain ⟨i, hi, hs⟩ := ok.htr p hp
  exact (stepIns_keeps ok.hrec hs).2

theorem Ctx.Ok.L_anti [LowPred] (ok : C.Ok P F rec base) {p r : Nat} (h : p ≤ r) (hr : r ≤ C.M) : ∀ e ∈ (C.tr r).L, e ∈ (C.tr p).L := by
  induction r with
  | zero => obtain rfl : p = 0 := by omega
            exact fun _ h => h
  | succ r ih =>
    rcases Nat.lt_or_ge p (r + 1) with h1 | h1
    · exact fun e he => ih (by omega) (by omega) e (ok.L_sub (by omega) e he)
    · obtain rfl : p = r + 1 := by omega
      exact fun _ h => h

theorem Ctx.Ok.len_mono (ok : C.Ok P F rec base) {p r : Nat} (h : p ≤ r) (hr : r ≤ C.M) : (C.tr p).st.H.length ≤ (C.tr r).st.H.length := by
  induction r with
  | zero => obtain rfl : p = 0 := by omega
            exact Nat.le_refl _
  | succ r ih =>
    rcases Nat.lt_or_ge p (r + 1) with h1 | h1
    · obtain ⟨i, hi, hs⟩ := ok.htr r (by omega)
      exact Nat.le_trans (ih (by omega) (by omega)) (stepIns_keeps ok.hrec hs).1.1
    · obtain rfl : p = r + 1 := by omega
      exact Nat.le_refl _

/-- a protected block holds what it held -/
theorem Ctx.Ok.block_same [LowPred] (ok : C.Ok P F rec base) {p r b : Nat} (h : p ≤ r) (hr : r ≤ C.M) (hb : b < (C.tr p).st.H.length) (hL : ∀ k, p ≤ k → k < r → C.E k = true → ∃ e ∈ (C.tr (k + 1)).L, e.2 = b) :
    cl (C.tr r).st.H[b]? = cl (C.tr p).st.H[b]? := by
  induction r with
  | zero => obtain rfl : p = 0 := by omega
            rfl
  | succ r ih =>
    rcases Nat.lt_or_ge p (r + 1) with h1 | h1
    · have h0 := ih (by omega) (by omega) (fun k a c => hL k a (by omega))
      rw [← h0]
      cases hE : C.E r with
      | true =>
        obtain ⟨e, he, heb⟩ := hL r (by omega) (by omega) hE
        obtain ⟨i, hi, hs⟩ := ok.htr r (by omega)
        have hk := (stepIns_keeps ok.hrec hs).1
        refine hk.2 b (List.mem_append_right _ (List.mem_map.2 ⟨e, he, heb⟩)) ?_
        exact Nat.lt_of_lt_of_le hb (ok.len_mono (by omega) (by omega))
      | false =>
        obtain ⟨v, i, hi, _, e⟩ := ok.quiet (by omega) hE
        rw [e]
        simp only [putV, setDst_H]
    · obtain rfl : p = r + 1 := by omega
      rfl

/-- where nothing writes, heap and protection stay, and what owns was there -/
theorem Ctx.Ok.still [LowPred] (ok : C.Ok P F rec base) {p r : Nat} (h : p ≤ r) (hr : r ≤ C.M) (hE : ∀ k, p ≤ k → k < r → C.E k = false) :
    (C.tr r).st.H = (C.tr p).st.H ∧ (C.tr r).L = (C.tr p).L ∧
    ∀ t, isOwn (look (C.tr r).st.tm t) = true → look (C.tr p).st.tm t = look (C.tr r).st.tm t ∧ ∀ k, p ≤ k → k < r → ¬ C.wr k t := by
  induction r with
  | zero => obtain rfl : p = 0 := by omega
            exact ⟨rfl, rfl, fun t _ => ⟨rfl, fun k _ h => absurd h (Nat.not_lt_zero k)⟩⟩
  | succ r ih =>
    rcases Nat.lt_or_ge p (r + 1) with h1 | h1
    · obtain ⟨a1, a2, a3⟩ := ih (by omega) (by omega) (fun k a c => hE k a (by omega))
      obtain ⟨v, i, hi, hv, e⟩ := ok.quiet (p := r) (by omega) (hE r (by omega) (by omega))
      rw [e]
      refine ⟨by simp only [putV, setDst_H]; exact a1, a2, ?_⟩
      intro t ht
      simp only [putV] at ht ⊢
      by_cases hd : i.dst = some t
      · rw [hd, look_setDst_self, hv] at ht; cases ht
      · rw [look_setDst hd] at ht ⊢
        obtain ⟨b1, b2⟩ := a3 t ht
        refine ⟨b1, fun k hk1 hk2 hw => ?_⟩
        rcases Nat.lt_or_ge k r with h2 | h2
        · exact b2 k hk1 h2 hw
        · obtain rfl : k = r := by omega
          obtain ⟨j, hj, hjd⟩ := hw
          rw [hi] at hj; cases hj
          exact hd hjd
    · obtain rfl : p = r + 1 := by omega
      exact ⟨rfl, rfl, fun t _ => ⟨rfl, fun k h1 h2 => by omega⟩⟩

end

/-- the next operation that writes or calls -/
theorem Ctx.next (C : Ctx) (p : Nat) (hp : p ≤ C.M) : ∃ q, p ≤ q ∧ q ≤ C.M ∧ (∀ k, p ≤ k → k < q → C.E k = false) ∧ (q = C.M ∨ C.E q = true) := by
  have : ∀ d p, C.M - p = d → p ≤ C.M → ∃ q, p ≤ q ∧ q ≤ C.M ∧ (∀ k, p ≤ k → k < q → C.E k = false) ∧ (q = C.M ∨ C.E q = true) := by
    intro d
    induction d with
    | zero => intro p hd hp; exact ⟨p, Nat.le_refl _, hp, fun k a b => by omega, .inl (by omega)⟩
    | succ d ih =>
      intro p hd hp
      cases hE : C.E p with
      | true => exact ⟨p, Nat.le_refl _, hp, fun k a b => by omega, .inr hE⟩
      | false =>
        obtain ⟨q, a, b, c, e⟩ := ih (p + 1) (by omega) (by omega)
        refine ⟨q, by omega, b, fun k h1 h2 => ?_, e⟩
        rcases Nat.lt_or_ge p k with h | h
        · exact c k h h2
        · obtain rfl : k = p := by omega
          exact hE
  exact this _ p rfl hp

/-- the value of a slot when some operations have run -/
def Ctx.cur (C : Ctx) (S : Nat → Bool) : Nat → Nat → DV
  | 0, t => look (C.tr 0).st.tm t
  | p + 1, t => match C.ins[p]? with
    | some i => if S p = true ∧ i.dst = some t then look (C.tr (p + 1)).st.tm t else C.cur S p t
    | none => C.cur S p t

theorem Ctx.cur_skip (C : Ctx) {S : Nat → Bool} {p t : Nat} (h : S p = true → ¬ C.wr p t) : C.cur S (p + 1) t = C.cur S p t := by
  simp only [Ctx.cur]
  split
  · rename_i i hi
    split
    · rename_i hc; exact absurd ⟨i, hi, hc.2⟩ (h hc.1)
    · rfl
  · rfl

theorem Ctx.cur_hit (C : Ctx) {S : Nat → Bool} {p t : Nat} (h : S p = true) (hw : C.wr p t) : C.cur S (p + 1) t = look (C.tr (p + 1)).st.tm t := by
  obtain ⟨i, hi, hd⟩ := hw
  simp only [Ctx.cur, hi]
  rw [if_pos ⟨h, hd⟩]

theorem Ctx.cur_stop [LowPred] (C : Ctx) {S : Nat → Bool} {p r t : Nat} (h : p ≤ r) (hs : ∀ k, p ≤ k → k < r → S k = true → ¬ C.wr k t) : C.cur S r t = C.cur S p t := by
  induction r with
  | zero => obtain rfl : p = 0 := by omega
            rfl
  | succ r ih =>
    rcases Nat.lt_or_ge p (r + 1) with h1 | h1
    · rw [C.cur_skip (hs r (by omega) (by omega)), ih (by omega) (fun k a b => hs k a (by omega))]
    · obtain rfl : p = r + 1 := by omega
      rfl

theorem Ctx.cur_congr (C : Ctx) {S S' : Nat → Bool} {t : Nat} : ∀ {p : Nat}, (∀ k, k < p → C.wr k t → S k = S' k) → C.cur S p t = C.cur S' p t
  | 0, _ => rfl
  | p + 1, h => by
    simp only [Ctx.cur]
    split
    · rename_i i hi
      rw [Ctx.cur_congr C (S' := S') fun k hk => h k (by omega)]
      by_cases hd : i.dst = some t
      · rw [h p (by omega) ⟨i, hi, hd⟩]
      · rw [if_neg (fun c => hd c.2), if_neg (fun c => hd c.2)]
    · exact Ctx.cur_congr C fun k hk => h k (by omega)

theorem Ctx.Ok.cur_at [LowPred] {C : Ctx} (ok : C.Ok P F rec base) {S : Nat → Bool} {p t : Nat} (hp : p ≤ C.M) (hlt : ∀ k, k < p → C.wr k t → S k = true) (hge : ∀ k, p ≤ k → k < C.M → C.wr k t → S k = false) :
    (C.cur S C.M t).clean = (look (C.tr p).st.tm t).clean := by
  rw [C.cur_stop hp (fun k a b hs hw => by rw [hge k a b hw] at hs; cases hs)]
  clear hge
  induction p with
  | zero => rfl
  | succ p ih =>
    by_cases hw : C.wr p t
    · rw [C.cur_hit (hlt p (by omega) hw) hw]
    · rw [C.cur_skip (fun _ => hw), ih (by omega) (fun k hk => hlt k (by omega)), ok.slot_same (by omega) hw]

end Go.Zd
namespace Go.Zd

variable {P : Program} {F : Nat → Option DFn} {rec : Rec} {base : Nat}

structure RR [LowPred] (C : Ctx) (base : Nat) (S : Nat → Bool) (q : Nat) (a : Act) (w : World) (g : Gh) (O : Nat → Loc) : Prop where
  hist : Hist C.w0 C.g0 C.O0 base C.PR w g O
  inv : Inv w g O (C.tr q).st.H base
  qM : q ≤ C.M
  qE : q = C.M ∨ C.E q = true
  lo : ∀ k, k < q → C.E k = true → S k = true
  hi : ∀ k, q ≤ k → C.E k = true → S k = false
  down : ∀ k r, C.before k r → S r = true → S k = true
  size : C.env.n ≤ a.tmps.size
  frame : ∀ t, C.env.W t = false → a.tmps.getD t undef = C.env.T t
  slots : ∀ t, VR g (a.tmps.getD t undef) (C.cur S C.M t).clean
  own : ∀ t, isOwn (look (C.tr q).st.tm t) = true → (∀ k, q ≤ k → S k = true → ¬ C.wr k t) → OwnAt g O base (a.tmps.getD t undef) (.slot t)
  prot : ∀ e ∈ (C.tr q).L, w.heap[g.V e.2]? = C.w0.heap[C.g0.V e.2]?
  copies : ∀ r i x b, S r = true → C.ins[r]? = some i → i.op = .move (.t x) → i.guard = none → i.dst = some b → (∀ k, k ≠ r → ¬ C.wr k b) → (∀ k, S k = true → k ≠ r → ¬ C.wr k x) →
    a.tmps.getD b undef = a.tmps.getD x undef
  loads : ∀ r i x root b, S r = true → C.ins[r]? = some i → i.op = .load false 1 (.t x) root → i.guard = none → i.dst = some b → (∀ k, k ≠ r → ¬ C.wr k b) →
    ∀ blk off, (look (C.tr r).st.tm x).clean = .ptr blk off → (∃ e ∈ (C.tr r).L, e.2 = blk) →
      ∃ cs E fr, C.w0.heap[C.g0.V blk]? = some (.cells cs E fr) ∧ cs.toList[off]? = some (a.tmps.getD b undef)

/-- what the compiler has looked at -/
structure Ctx.Fit (C : Ctx) (P : Program) : Prop where
  op : ∀ (p : Nat) i, C.ins[p]? = some i → ∃ o, C.ops[i.ix]? = some o ∧ compOp P C.ops.toList i.ix o = some i.op ∧ i.dst = o.dst ∧ simple i.op = true ∧
    (match o.guard with
      | none => i.guard = none
      | some (j, b) => ∃ t oj, C.ops[j]? = some oj ∧ oj.dst = some t ∧ i.guard = some (t, b))
  L0 : ∀ e ∈ (C.tr 0).L, e.2 < C.g0.n
  app : appOk C.ins = true

section
variable {C : Ctx}

theorem wr_names (_ok : C.Ok P F rec base) {p t : Nat} {i : DIns} (hi : C.ins[p]? = some i) (hw : C.wr p t) : t ∈ names i := by
  obtain ⟨j, hj, hd⟩ := hw
  rw [hi] at hj; cases hj
  simp [names, hd]

theorem reads_names (_ok : C.Ok P F rec base) {t : Nat} {i : DIns} (h : t ∈ reads i) : t ∈ names i := List.mem_append_right _ h

theorem writes_of {p t : Nat} {i : DIns} (hi : C.ins[p]? = some i) (hw : C.wr p t) {l : List Nat} (ht : t ∈ l) : writes i l = true := by
  obtain ⟨j, hj, hd⟩ := hw
  rw [hi] at hj; cases hj
  simp [writes, hd, ht]

theorem pair_w [LowPred] (ok : C.Ok P F rec base) {k p t : Nat} {i : DIns} (hkp : k < p) (hw : C.wr k t) (hi : C.ins[p]? = some i) (ht : t ∈ names i) : C.before k p := by
  obtain ⟨j, hj, hd⟩ := hw
  have := ok.hpair k p j i hkp hj hi
  refine ⟨j, i, hj, hi, ?_⟩
  have hwr := writes_of hj ⟨j, hj, hd⟩ ht
  simpa [pairOk, hwr] using this

theorem pair_w' [LowPred] (ok : C.Ok P F rec base) {k p t : Nat} {i : DIns} (hkp : k < p) (hw : C.wr p t) (hi : C.ins[k]? = some i) (ht : t ∈ names i) : C.before k p := by
  obtain ⟨j, hj, hd⟩ := hw
  have := ok.hpair k p i j hkp hi hj
  refine ⟨i, j, hi, hj, ?_⟩
  have hwr := writes_of hj ⟨j, hj, hd⟩ ht
  simpa [pairOk, hwr] using this

theorem pair_E (ok : C.Ok P F rec base) {k p : Nat} (hkp : k < p) (hk : C.E k = true) (hp : C.E p = true) : C.before k p := by
  unfold Ctx.E at hk hp
  split at hk
  · rename_i i hi
    split at hp
    · rename_i j hj
      have := ok.hpair k p i j hkp hi hj
      refine ⟨i, j, hi, hj, ?_⟩
      simpa [pairOk, hk, hp] using this
    · cases hp
  · cases hk

theorem before_lt_ins {k p : Nat} (h : C.before k p) : k < C.ins.length := by
  obtain ⟨i, _, hi, _⟩ := h
  exact (List.getElem?_eq_some_iff.1 hi).1

end

/-- with p executed too -/
def add (S : Nat → Bool) (p : Nat) : Nat → Bool := fun k => Nat.beq k p || S k

theorem add_self (S : Nat → Bool) (p : Nat) : add S p p = true := by simp [add]
theorem add_ne {S : Nat → Bool} {p k : Nat} (h : k ≠ p) : add S p k = S k := by
  have : Nat.beq k p = false := by
    cases hb : Nat.beq k p
    · rfl
    · exact absurd (Nat.eq_of_beq_eq_true hb) h
  simp [add, this]
theorem add_of {S : Nat → Bool} {p k : Nat} (h : S k = true) : add S p k = true := by simp [add, h]

theorem put_size (a : Act) (d : Option Nat) (y : Value) : (a.put d y).tmps.size = a.tmps.size := by
  cases d <;> simp [Act.put]
theorem put_self {a : Act} {t : Nat} {y : Value} (h : t < a.tmps.size) : (a.put (some t) y).tmps.getD t undef = y := by
  simp [Act.put, h]
theorem put_ne {a : Act} {d : Option Nat} {t : Nat} {y : Value} (h : d ≠ some t) : (a.put d y).tmps.getD t undef = a.tmps.getD t undef := by
  cases d with
  | none => rfl
  | some u =>
    have : u ≠ t := fun e => h (by rw [e])
    simp [Act.put, Array.getElem?_setIfInBounds_ne this]

section
variable {C : Ctx} {S : Nat → Bool} {q p : Nat} {a : Act} {w : World} {g : Gh} {O : Nat → Loc}

/-- later writers of what p reads or writes have not run -/
theorem later_not [LowPred] (ok : C.Ok P F rec base) (hR : RR C base S q a w g O) {i : DIns} (hi : C.ins[p]? = some i) (hS : S p = false) {k t : Nat} (hk : p < k) (hw : C.wr k t) (ht : t ∈ names i) : S k = false := by
  cases h : S k with
  | false => rfl
  | true =>
    have := hR.down p k (pair_w' ok hk hw hi ht) h
    rw [hS] at this; cases this

/-- what p reads is what it reads here -/
theorem read_at [LowPred] (ok : C.Ok P F rec base) (hR : RR C base S q a w g O) {i : DIns} (hi : C.ins[p]? = some i) (hp : p ≤ C.M) (hS : S p = false) (hen : ∀ k, C.before k p → S k = true) {t : Nat} (ht : t ∈ reads i) :
    (C.cur S C.M t).clean = (look (C.tr p).st.tm t).clean := by
  refine ok.cur_at hp ?_ ?_
  · intro k hk hw
    exact hen k (pair_w ok hk hw hi (reads_names ok ht))
  · intro k hk hkM hw
    rcases Nat.lt_or_ge p k with h | h
    · exact later_not ok hR hi hS h hw (reads_names ok ht)
    · obtain rfl : k = p := by omega
      exact hS

theorem slots_step [LowPred] (ok : C.Ok P F rec base) (hR : RR C base S q a w g O) {i : DIns} (hi : C.ins[p]? = some i) (hp : p < C.M) (hS : S p = false) (hen : ∀ k, C.before k p → S k = true) {y : Value} {g' : Gh} (hg : g.Le g')
    (hy : ∀ t, i.dst = some t → VR g' y (look (C.tr (p + 1)).st.tm t).clean) (t : Nat) : VR g' ((a.put i.dst y).tmps.getD t undef) (C.cur (add S p) C.M t).clean := by
  by_cases hd : i.dst = some t
  · have hw : C.wr p t := ⟨i, hi, hd⟩
    have htn := wr_names ok hi hw
    have hlt : t < a.tmps.size := Nat.lt_of_lt_of_le (ok.hdst p i t hi hd) hR.size
    rw [hd, put_self hlt]
    have : (C.cur (add S p) C.M t).clean = (look (C.tr (p + 1)).st.tm t).clean := by
      refine ok.cur_at hp ?_ ?_
      · intro k hk hwk
        by_cases hkp : k = p
        · subst hkp; exact add_self _ _
        · exact add_of (hen k (pair_w ok (by omega) hwk hi htn))
      · intro k hk _ hwk
        rw [add_ne (by omega)]
        exact later_not ok hR hi hS (by omega) hwk htn
    rw [this]
    exact hy t hd
  · rw [put_ne hd]
    have : C.cur (add S p) C.M t = C.cur S C.M t := by
      refine C.cur_congr fun k _ hw => add_ne ?_
      rintro rfl
      obtain ⟨j, hj, hjd⟩ := hw
      rw [hi] at hj; cases hj
      exact hd hjd
    rw [this]
    exact (hR.slots t).mono hg

theorem copies_step [LowPred] (ok : C.Ok P F rec base) (hR : RR C base S q a w g O) {i : DIns} (hi : C.ins[p]? = some i) {y : Value}
    (hy : ∀ x, i.op = .move (.t x) → i.guard = none → y = a.tmps.getD x undef) :
    ∀ r j x b, add S p r = true → C.ins[r]? = some j → j.op = .move (.t x) → j.guard = none → j.dst = some b → (∀ k, k ≠ r → ¬ C.wr k b) → (∀ k, add S p k = true → k ≠ r → ¬ C.wr k x) →
      (a.put i.dst y).tmps.getD b undef = (a.put i.dst y).tmps.getD x undef := by
  intro r j x b hr hj hop hgd hdst h1 h2
  by_cases hrp : r = p
  · subst hrp
    rw [hi] at hj; cases hj
    have hlt : b < a.tmps.size := Nat.lt_of_lt_of_le (ok.hdst r i b hi hdst) hR.size
    by_cases hbx : b = x
    · rw [hbx]
    · have : i.dst ≠ some x := by rw [hdst]; intro e; cases e; exact hbx rfl
      rw [put_ne this, hdst, put_self hlt]
      exact hy x hop hgd
  · rw [add_ne hrp] at hr
    have hnb : i.dst ≠ some b := fun e => h1 p (Ne.symm hrp) ⟨i, hi, e⟩
    have hnx : i.dst ≠ some x := fun e => h2 p (add_self _ _) (Ne.symm hrp) ⟨i, hi, e⟩
    rw [put_ne hnb, put_ne hnx]
    exact hR.copies r j x b hr hj hop hgd hdst h1 (fun k hk hkr => h2 k (add_of hk) hkr)

theorem loads_step [LowPred] (ok : C.Ok P F rec base) (hR : RR C base S q a w g O) {i : DIns} (hi : C.ins[p]? = some i) {y : Value}
    (hy : ∀ x root, i.op = .load false 1 (.t x) root → i.guard = none → ∀ blk off, (look (C.tr p).st.tm x).clean = .ptr blk off → (∃ e ∈ (C.tr p).L, e.2 = blk) →
      ∃ cs E fr, C.w0.heap[C.g0.V blk]? = some (.cells cs E fr) ∧ cs.toList[off]? = some y) :
    ∀ r j x root b, add S p r = true → C.ins[r]? = some j → j.op = .load false 1 (.t x) root → j.guard = none → j.dst = some b → (∀ k, k ≠ r → ¬ C.wr k b) →
      ∀ blk off, (look (C.tr r).st.tm x).clean = .ptr blk off → (∃ e ∈ (C.tr r).L, e.2 = blk) →
        ∃ cs E fr, C.w0.heap[C.g0.V blk]? = some (.cells cs E fr) ∧ cs.toList[off]? = some ((a.put i.dst y).tmps.getD b undef) := by
  intro r j x root b hr hj hop hgd hdst h1 blk off hx hL
  by_cases hrp : r = p
  · subst hrp
    rw [hi] at hj; cases hj
    have hlt : b < a.tmps.size := Nat.lt_of_lt_of_le (ok.hdst r i b hi hdst) hR.size
    rw [hdst, put_self hlt]
    exact hy x root hop hgd blk off hx hL
  · rw [add_ne hrp] at hr
    have hnb : i.dst ≠ some b := fun e => h1 p (Ne.symm hrp) ⟨i, hi, e⟩
    rw [put_ne hnb]
    exact hR.loads r j x root b hr hj hop hgd hdst h1 blk off hx hL

theorem frame_step [LowPred] (ok : C.Ok P F rec base) (hR : RR C base S q a w g O) {i : DIns} (hi : C.ins[p]? = some i) (y : Value) : ∀ t, C.env.W t = false → (a.put i.dst y).tmps.getD t undef = C.env.T t := by
  intro t ht
  have hd : i.dst ≠ some t := by
    intro hd
    rw [ok.hW p i t hi hd] at ht; cases ht
  rw [put_ne hd]
  exact hR.frame t ht

theorem down_step [LowPred] (_ok : C.Ok P F rec base) (hR : RR C base S q a w g O) (hen : ∀ k, C.before k p → S k = true) : ∀ k r, C.before k r → add S p r = true → add S p k = true := by
  intro k r hb hr
  by_cases hrp : r = p
  · subst hrp; exact add_of (hen k hb)
  · rw [add_ne hrp] at hr
    exact add_of (hR.down k r hb hr)

/-- an operation that writes or calls is the next one of its kind -/
theorem E_at [LowPred] (ok : C.Ok P F rec base) (hR : RR C base S q a w g O) (hp : p ≤ C.M) (hE : C.E p = true) (hS : S p = false) (hen : ∀ k, C.before k p → S k = true) : q = p := by
  rcases Nat.lt_trichotomy q p with h | h | h
  · have hEq : C.E q = true := hR.qE.resolve_left (by omega)
    have h1 := hen q (pair_E ok h hEq hE)
    rw [hR.hi q (Nat.le_refl _) hEq] at h1; cases h1
  · exact h
  · rw [hR.lo p h hE] at hS; cases hS

/-- what holds after an operation that writes or calls -/
theorem step_E [LowPred] (ok : C.Ok P F rec base) (fit : C.Fit P) (hR : RR C base S q a w g O) {i : DIns} (hi : C.ins[p]? = some i) (hp : p < C.M) (hE : C.E p = true) (hS : S p = false) (hen : ∀ k, C.before k p → S k = true)
    {y : Value} {w' : World} {g' : Gh} {O' : Nat → Loc} (he : EffR C.PR base (C.tr (p + 1)) i.dst w g O y w' g' O') : ∃ q', RR C base (add S p) q' (a.put i.dst y) w' g' O' := by
  obtain rfl := E_at ok hR (Nat.le_of_lt hp) hE hS hen
  obtain ⟨q', h1, h2, h3, h4⟩ := C.next (q + 1) hp
  obtain ⟨s1, s2, s3⟩ := ok.still h1 h2 h3
  have hn : ∀ e ∈ (C.tr q).L, e.2 < g.n := by
    intro e he'
    have := fit.L0 e (ok.L_anti (Nat.zero_le _) (Nat.le_of_lt hp) e he')
    exact Nat.lt_of_lt_of_le this hR.hist.ext.num
  refine ⟨q', hR.hist.trans (he.hist.mono fun b hb => List.mem_append_left _ hb), by rw [s1]; exact he.inv, h2, h4, ?_, ?_, down_step ok hR hen, by rw [put_size]; exact hR.size, frame_step ok hR hi _,
    slots_step ok hR hi hp hS hen he.hist.ext (fun t ht => (he.val t ht).1), ?_, ?_, ?_, ?_⟩
  · intro k hk hEk
    rcases Nat.lt_trichotomy k q with h | h | h
    · exact add_of (hR.lo k h hEk)
    · subst h; exact add_self _ _
    · rw [h3 k h hk] at hEk; cases hEk
  · intro k hk hEk
    rw [add_ne (by omega)]
    exact hR.hi k (by omega) hEk
  · intro t ht hk
    obtain ⟨b1, b2⟩ := s3 t ht
    rw [← b1] at ht
    by_cases hd : i.dst = some t
    · have hlt : t < a.tmps.size := Nat.lt_of_lt_of_le (ok.hdst q i t hi hd) hR.size
      have := (he.val t hd).2 ht
      rw [hd, put_self hlt]
      exact this
    · rw [put_ne hd]
      obtain ⟨j, hj, hs⟩ := ok.htr q hp
      rw [hi] at hj; cases hj
      have hsame := stepIns_own hs hd ht
      have hown := hR.own t (by rw [hsame]; exact ht) (by
        intro k hk1 hk2 hw
        by_cases hkq : k = q
        · subst hkq; rw [hS] at hk2; cases hk2
        · rcases Nat.lt_or_ge k q' with h | h
          · exact b2 k (by omega) h hw
          · exact hk k h (add_of hk2) hw)
      obtain ⟨c, i1, len, cap, ga, e1, e2, e3, e4, e5⟩ := hown
      obtain ⟨k1, k2⟩ := he.keep c t e5 hd ht
      exact ⟨c, i1, len, cap, ga, e1, by rw [k2]; exact e2, e3, e4, k1⟩
  · intro e hel
    rw [s2] at hel
    have hel' := ok.L_sub hp e hel
    have hlt := hn e hel'
    rw [he.hist.ext.var _ hlt, he.hist.prot _ (List.mem_append_right _ (List.mem_map.2 ⟨e, hel, rfl⟩)) hlt]
    exact hR.prot e hel'
  · refine copies_step ok hR hi ?_
    intro x hop
    simp [Ctx.E, hi, hop, isE] at hE
  · refine loads_step ok hR hi ?_
    intro x root hop
    simp [Ctx.E, hi, hop, isE] at hE

end

end Go.Zd
namespace Go.Zd

variable {P : Program} {F : Nat → Option DFn} {rec : Rec} {base : Nat}

theorem look_map {f : Nat → DV} : ∀ (l : List Nat) (t : Nat), (t ∈ l → look (l.map fun t => (t, f t)) t = f t) ∧ (t ∉ l → look (l.map fun t => (t, f t)) t = .undef)
  | [], t => ⟨fun h => by simp at h, fun _ => rfl⟩
  | u :: l, t => by
    obtain ⟨h1, h2⟩ := look_map (f := f) l t
    simp only [List.map_cons]
    by_cases hu : u = t
    · subst hu
      exact ⟨fun _ => look_set_self _ _ _, fun h => absurd (List.mem_cons_self ..) h⟩
    · rw [look_set_ne _ _ hu]
      refine ⟨fun h => h1 ((List.mem_cons.1 h).resolve_left (fun e => hu e.symm)), fun h => h2 fun h' => h (List.mem_cons_of_mem _ h')⟩

def tmAt (i : DIns) (s : RSt) : List (Nat × DV) := (reads i).map fun t => (t, (look s.st.tm t).clean)

theorem dx_reads {i : DIns} {t : Nat} (h : DX.t t ∈ dxs i.op) : t ∈ reads i :=
  List.mem_append_left _ (List.mem_filterMap.2 ⟨.t t, h, rfl⟩)

theorem tmAt_agree [LowPred] (i : DIns) (s : RSt) : ∀ x ∈ dxs i.op, rdc (tmAt i s) x = rdc s.st.tm x := by
  intro x hx
  cases x with
  | k v => rfl
  | t n =>
    have := (look_map (f := fun t => (look s.st.tm t).clean) (reads i) n).1 (dx_reads hx)
    simp only [rdc, tmAt, this]
    exact clean1_clean1 _

section
variable {C : Ctx} {S : Nat → Bool} {q p : Nat} {a : Act} {w : World} {g : Gh} {O : Nat → Loc}

theorem opr_at [LowPred] (ok : C.Ok P F rec base) (hR : RR C base S q a w g O) {i : DIns} (hi : C.ins[p]? = some i) (hp : p ≤ C.M) (hS : S p = false) (hen : ∀ k, C.before k p → S k = true) : OpR g a.eval (tmAt i (C.tr p)) := by
  have hs : Slots g a (tmAt i (C.tr p)) := by
    intro t
    by_cases ht : t ∈ reads i
    · rw [show look (tmAt i (C.tr p)) t = _ from (look_map _ t).1 ht]
      rw [show (look (C.tr p).st.tm t).clean.clean = (look (C.tr p).st.tm t).clean from clean1_clean1 _]
      rw [← read_at ok hR hi hp hS hen ht]
      exact hR.slots t
    · rw [show look (tmAt i (C.tr p)) t = _ from (look_map _ t).2 ht]
      exact .undef _
  exact hs.opr

theorem pre_at [LowPred] (ok : C.Ok P F rec base) (hR : RR C base S q a w g O) {i : DIns} (hi : C.ins[p]? = some i) (hp : p ≤ C.M) (hE : C.E p = true) (hS : S p = false) (hen : ∀ k, C.before k p → S k = true) :
    Pre base (C.tr p) a w g O i.op (tmAt i (C.tr p)) := by
  have hq := E_at ok hR hp hE hS hen
  subst hq
  refine ⟨hR.inv, opr_at ok hR hi hp hS hen, tmAt_agree i _, ?_⟩
  intro t ht ho
  refine hR.own t ho ?_
  intro k hk hSk hw
  by_cases hkq : k = q
  · subst hkq; rw [hS] at hSk; cases hSk
  · rw [later_not ok hR hi hS (by omega) hw (reads_names ok (dx_reads ht))] at hSk; cases hSk

theorem slot_between [LowPred] (ok : C.Ok P F rec base) {r p t : Nat} (h : r ≤ p) (hp : p ≤ C.M) (hk : ∀ k, r ≤ k → k < p → ¬ C.wr k t) : (look (C.tr p).st.tm t).clean = (look (C.tr r).st.tm t).clean := by
  induction p with
  | zero => obtain rfl : r = 0 := by omega
            rfl
  | succ p ih =>
    rcases Nat.lt_or_ge r (p + 1) with h1 | h1
    · rw [ok.slot_same (by omega) (hk p (by omega) (by omega))]
      exact ih (by omega) (by omega) (fun k a b => hk k a (by omega))
    · obtain rfl : r = p + 1 := by omega
      rfl

theorem others_spec {l : List DIns} {p : Nat} {f : Nat → DIns → Bool} (h : others l p f = true) {k : Nat} {i : DIns} (hi : l[k]? = some i) (hk : k ≠ p) : f k i = true := by
  unfold others at h
  have := List.all_eq_true.1 h (i, k) (by rw [List.mem_zipIdx_iff_getElem?]; exact hi)
  simp only [Bool.or_eq_true, beq_iff_eq] at this
  exact this.resolve_left hk

theorem src_at [LowPred] (ok : C.Ok P F rec base) (fit : C.Fit P) (hR : RR C base S q a w g O) {i : DIns} (hi : C.ins[p]? = some i) (hp : p ≤ C.M) (hE : C.E p = true) (hS : S p = false) (hen : ∀ k, C.before k p → S k = true) : SrcOkR (C.tr p) a w g i.op := by
  have hq := E_at ok hR hp hE hS hen
  subst hq
  unfold SrcOkR
  split
  · rename_i src n dx dy hop
    have happ := fit.app
    unfold appOk at happ
    have := List.all_eq_true.1 happ (i, q) (by rw [List.mem_zipIdx_iff_getElem?]; exact hi)
    simp only [hop] at this
    unfold srcOk at this
    have hnb : ∀ b, dx = .t b → b ∈ names i := by
      intro b hb
      exact reads_names ok (dx_reads (by rw [hop, hb]; simp [dxs]))
    have hwr : ∀ {k : Nat} {t : Nat} {j : DIns}, C.ins[k]? = some j → writes j [t] = false → ¬ C.wr k t := by
      intro k t j hj hw hwr
      rw [writes_of hj hwr (List.mem_singleton.2 rfl)] at hw; cases hw
    constructor
    · rintro x rfl
      cases dx with
      | k v => simp at this
      | t b =>
        refine ⟨b, rfl, ?_⟩
        simp only [List.any_eq_true, Bool.and_eq_true, decide_eq_true_eq] at this
        obtain ⟨⟨j, r⟩, hm, ⟨⟨⟨hlt, hmv⟩, hdst⟩, hgd⟩, hoth⟩ := this
        have hj : C.ins[r]? = some j := by rw [List.mem_zipIdx_iff_getElem?] at hm; exact hm
        simp only at hlt hmv hdst hgd hoth
        have hop' : j.op = .move (.t x) := by
          split at hmv
          · rename_i x' hx'
            rw [hx']
            have : x' = x := by simpa using hmv
            rw [this]
          · cases hmv
        have hdst' : j.dst = some b := by simpa using hdst
        have hSr : S r = true := hen r (pair_w ok hlt ⟨j, hj, hdst'⟩ hi (hnb b rfl))
        refine (hR.copies r j x b hSr hj hop' (by simpa using hgd) hdst' ?_ ?_).symm
        · intro k hk hw
          have hw2 := hw; obtain ⟨jk, hjk, _⟩ := hw2
          have := others_spec hoth hjk hk
          simp only [Bool.and_eq_true, Bool.not_eq_true'] at this
          exact hwr hjk this.1 hw
        · intro k hSk hk hw
          have hw2 := hw; obtain ⟨jk, hjk, _⟩ := hw2
          have := others_spec hoth hjk hk
          simp only [Bool.and_eq_true, Bool.not_eq_true', Bool.or_eq_true, decide_eq_true_eq] at this
          rcases this.2 with h | h
          · exact hwr hjk h hw
          · rw [later_not ok hR hi hS h hw (reads_names ok (dx_reads (by rw [hop]; simp [dxs])))] at hSk; cases hSk
    · rintro ta rfl
      cases dx with
      | k v => simp at this
      | t b =>
        refine ⟨b, rfl, ?_⟩
        simp only [List.any_eq_true, Bool.and_eq_true, decide_eq_true_eq] at this
        obtain ⟨hbt, ⟨j, r⟩, hm, ⟨⟨⟨hlt, hmv⟩, hdst⟩, hgd⟩, hoth⟩ := this
        have hj : C.ins[r]? = some j := by rw [List.mem_zipIdx_iff_getElem?] at hm; exact hm
        simp only at hlt hmv hdst hgd hoth
        have hop' : ∃ root, j.op = .load false 1 (.t ta) root := by
          split at hmv
          · rename_i x' root hx'
            have : x' = ta := by simpa using hmv
            rw [this] at hx'
            exact ⟨root, hx'⟩
          · cases hmv
        obtain ⟨root, hop'⟩ := hop'
        have hdst' : j.dst = some b := by simpa using hdst
        have hSr : S r = true := hen r (pair_w ok hlt ⟨j, hj, hdst'⟩ hi (hnb b rfl))
        intro blk off hta ⟨e, he, heb⟩
        have hne : b ≠ ta := by simpa using hbt
        have hsame := slot_between ok (t := ta) (Nat.le_of_lt hlt) hp (by
          intro k hk1 hk2 hw
          by_cases hkr : k = r
          · subst hkr
            obtain ⟨jk, hjk, hjd⟩ := hw
            rw [hj] at hjk; cases hjk
            rw [hdst'] at hjd; cases hjd
            exact hne rfl
          · have hw2 := hw; obtain ⟨jk, hjk, _⟩ := hw2
            have := others_spec hoth hjk hkr
            simp only [Bool.and_eq_true, Bool.not_eq_true', Bool.or_eq_true, decide_eq_true_eq] at this
            rcases this.2 with h | h
            · exact hwr hjk h hw
            · omega)
        rw [hta] at hsame
        have he' := ok.L_anti (Nat.le_of_lt hlt) hp e he
        obtain ⟨cs, E, fr, k1, k2⟩ := hR.loads r j ta root b hSr hj hop' (by simpa using hgd) hdst' (by
          intro k hk hw
          have hw2 := hw; obtain ⟨jk, hjk, _⟩ := hw2
          have := others_spec hoth hjk hk
          simp only [Bool.and_eq_true, Bool.not_eq_true'] at this
          exact hwr hjk this.1 hw) blk off hsame.symm ⟨e, he', heb⟩
        refine ⟨cs, E, fr, ?_, k2⟩
        have := hR.prot e he
        rw [heb] at this
        rw [this]; exact k1
  · trivial

theorem own_writer [LowPred] (ok : C.Ok P F rec base) {t p q : Nat} (h : p ≤ q) (hq : q ≤ C.M) (ho : isOwn (look (C.tr q).st.tm t) = true) (hn : isOwn (look (C.tr p).st.tm t) = false) : ∃ r, p ≤ r ∧ r < q ∧ C.E r = true ∧ C.wr r t := by
  induction q with
  | zero => obtain rfl : p = 0 := by omega
            rw [hn] at ho; cases ho
  | succ q ih =>
    rcases Nat.lt_or_ge p (q + 1) with h1 | h1
    · obtain ⟨i, hi, hs⟩ := ok.htr q (by omega)
      by_cases hd : i.dst = some t
      · cases hE : C.E q with
        | true => exact ⟨q, by omega, by omega, hE, i, hi, hd⟩
        | false =>
          obtain ⟨v, j, hj, hv, e⟩ := ok.quiet (p := q) (by omega) hE
          rw [hi] at hj; cases hj
          rw [e] at ho
          simp only [putV] at ho
          rw [hd, look_setDst_self, hv] at ho; cases ho
      · have := stepIns_own hs hd ho
        obtain ⟨r, r1, r2, r3, r4⟩ := ih (by omega) (by omega) (by rw [this]; exact ho)
        exact ⟨r, r1, by omega, r3, r4⟩
    · obtain rfl : p = q + 1 := by omega
      rw [hn] at ho; cases ho

/-- what holds after an operation that neither writes nor calls -/
theorem step_quiet [LowPred] (ok : C.Ok P F rec base) (fit : C.Fit P) (hR : RR C base S q a w g O) {i : DIns} (hi : C.ins[p]? = some i) (hp : p < C.M) (hE : C.E p = false) (hS : S p = false) (hen : ∀ k, C.before k p → S k = true)
    {y : Value} {w' : World} {g' : Gh} (hI : Inv w' g' O (C.tr q).st.H base) (hh : Hist w g O base (C.PR ++ (C.tr q).L.map (·.2)) w' g' O) (hG : ∀ k, k < w.heap.size → g'.G k = g.G k)
    (hy : ∀ t, i.dst = some t → VR g' y (look (C.tr (p + 1)).st.tm t).clean) (hmv : ∀ x, i.op = .move (.t x) → i.guard = none → y = a.tmps.getD x undef)
    (hld : ∀ x root, i.op = .load false 1 (.t x) root → i.guard = none → ∀ blk off, (look (C.tr p).st.tm x).clean = .ptr blk off → (∃ e ∈ (C.tr p).L, e.2 = blk) →
      ∃ cs E fr, C.w0.heap[C.g0.V blk]? = some (.cells cs E fr) ∧ cs.toList[off]? = some y) :
    RR C base (add S p) q (a.put i.dst y) w' g' O := by
  have hn : ∀ e ∈ (C.tr q).L, e.2 < g.n := by
    intro e he'
    have := fit.L0 e (ok.L_anti (Nat.zero_le _) hR.qM e he')
    exact Nat.lt_of_lt_of_le this hR.hist.ext.num
  refine ⟨hR.hist.trans (hh.mono fun b hb => List.mem_append_left _ hb), hI, hR.qM, hR.qE, fun k hk hEk => add_of (hR.lo k hk hEk), ?_, down_step ok hR hen, by rw [put_size]; exact hR.size, frame_step ok hR hi _,
    slots_step ok hR hi hp hS hen hh.ext hy, ?_, ?_, copies_step ok hR hi hmv, loads_step ok hR hi hld⟩
  · intro k hk hEk
    have : k ≠ p := by rintro rfl; rw [hE] at hEk; cases hEk
    rw [add_ne this]
    exact hR.hi k hk hEk
  · intro t ht hk
    have hd : i.dst ≠ some t := by
      intro hd
      rcases Nat.lt_or_ge p q with h | h
      · obtain ⟨v, j, hj, hv, e⟩ := ok.quiet hp hE
        rw [hi] at hj; cases hj
        have hno : isOwn (look (C.tr (p + 1)).st.tm t) = false := by
          rw [e]; simp only [putV]; rw [hd, look_setDst_self]; exact hv
        obtain ⟨r, r1, r2, r3, r4⟩ := own_writer ok h hR.qM ht hno
        have := hR.lo r r2 r3
        rw [later_not ok hR hi hS (by omega) r4 (wr_names ok hi ⟨i, hi, hd⟩)] at this; cases this
      · exact hk p h (add_self _ _) ⟨i, hi, hd⟩
    rw [put_ne hd]
    obtain ⟨c, i1, len, cap, ga, e1, e2, e3, e4, e5⟩ := hR.own t ht (fun k h1 h2 => hk k h1 (add_of h2))
    have hlt := own_lt hR.inv e5 (by simp)
    exact ⟨c, i1, len, cap, ga, e1, by rw [hG c hlt]; exact e2, e3, e4, e5⟩
  · intro e hel
    have hlt := hn e hel
    rw [hh.ext.var _ hlt, hh.prot _ (List.mem_append_right _ (List.mem_map.2 ⟨e, hel, rfl⟩)) hlt]
    exact hR.prot e hel

end

end Go.Zd
namespace Go.Zd

variable {P : Program} {F : Nat → Option DFn} {rec : Rec} {base : Nat}

theorem mkCells_congr {ag : Bool} {cs cs' : List DV} {o n : Nat} (h : cs.map DV.clean1 = cs'.map DV.clean1) : mkCells ag (((cs.drop o).take n).map DV.clean1) = mkCells ag (((cs'.drop o).take n).map DV.clean1) := by
  rw [List.map_take, List.map_drop, h, ← List.map_drop, ← List.map_take]

theorem loadDV_congr [LowPred] {H H' : List (List DV)} {b : Nat} (h : cl H[b]? = cl H'[b]?) (ag : Bool) (n o : Nat) : loadDV H ag n (.ptr b o) = loadDV H' ag n (.ptr b o) := by
  simp only [loadDV]
  cases h1 : H[b]? with
  | none =>
    cases h2 : H'[b]? with
    | none => rfl
    | some cs' => rw [h1, h2] at h; cases h
  | some cs =>
    cases h2 : H'[b]? with
    | none => rw [h1, h2] at h; cases h
    | some cs' =>
      rw [h1, h2] at h
      have hm : cs.map DV.clean1 = cs'.map DV.clean1 := by simpa [cl] using h
      have hl : cs.length = cs'.length := by
        have := congrArg List.length hm
        simpa using this
      simp only [hl]
      rw [mkCells_congr hm]

theorem opDV_L {PR : List Nat} {draw : Bool} {s s' : RSt} {i : DIns} (h : opDV F rec PR draw s i = some (none, s')) {e : Nat × Nat} (he : e ∈ s.L) (hi : ∀ n a x tk, i.op ≠ .store n a x tk (some e.1)) : e ∈ s'.L := by
  unfold opDV at h
  split at h
  · cases h; exact he
  · cases h; exact he
  · split at h
    · cases h; exact he
    · cases h
  · split at h
    · cases h; exact he
    · cases h
  · rename_i n a x tk root hop
    split at h
    · cases h
      cases root with
      | none => exact he
      | some r =>
        refine List.mem_filter.2 ⟨he, ?_⟩
        have : e.1 ≠ r := fun h => hi n a x tk (by rw [hop, h])
        simp only [Bool.not_eq_true']
        cases hb : Nat.beq e.1 r
        · rfl
        · exact absurd (Nat.eq_of_beq_eq_true hb) this
    · cases h
  · split at h
    · cases h; exact he
    · cases h
    · cases h
  · split at h
    · cases h; exact he
    · cases h
  · split at h
    · cases h; exact he
    · cases h
  · cases h; exact he
  · split at h
    · cases h
    · cases h
  · split at h
    · cases h; exact he
    · cases h

theorem stepIns_L [LowPred] {PR : List Nat} {draw : Bool} {s s' : RSt} {i : DIns} (h : stepIns F rec PR draw i s = some (none, s')) {e : Nat × Nat} (he : e ∈ s.L) (hi : ∀ n a x tk, i.op ≠ .store n a x tk (some e.1)) : e ∈ s'.L := by
  unfold stepIns at h
  split at h
  · exact opDV_L h he hi
  · split at h
    · rename_i b _
      cases hb : (b == _) <;> rw [hb] at h
      · cases h; exact he
      · exact opDV_L h he hi
    · cases h; exact he
    · cases h

section
variable {C : Ctx} {S : Nat → Bool} {q p : Nat} {a : Act} {w : World} {g : Gh} {O : Nat → Loc}

theorem L_stay [LowPred] (ok : C.Ok P F rec base) {r : Nat} (h : p ≤ r) (hr : r ≤ C.M) {e : Nat × Nat} (he : e ∈ (C.tr p).L) (hst : ∀ k i, p ≤ k → k < r → C.ins[k]? = some i → ∀ n a x tk, i.op ≠ .store n a x tk (some e.1)) : e ∈ (C.tr r).L := by
  induction r with
  | zero => obtain rfl : p = 0 := by omega
            exact he
  | succ r ih =>
    rcases Nat.lt_or_ge p (r + 1) with h1 | h1
    · obtain ⟨i, hi, hs⟩ := ok.htr r (by omega)
      exact stepIns_L hs (ih (by omega) (by omega) (fun k i a b => hst k i a (by omega))) (hst r i (by omega) (by omega) hi)
    · obtain rfl : p = r + 1 := by omega
      exact he

/-- what a load reads has not been written between here and there -/
theorem block_now [LowPred] (ok : C.Ok P F rec base) (fit : C.Fit P) (hR : RR C base S q a w g O) {i : DIns} (hi : C.ins[p]? = some i) (hp : p < C.M) (hS : S p = false) (hen : ∀ k, C.before k p → S k = true)
    {ag : Bool} {n : Nat} {da : DX} {root : Option Nat} (hop : i.op = .load ag n da root) {b : Nat} (hL : C.draw = true → ∃ r, root = some r ∧ (r, b) ∈ (C.tr p).L) :
    cl (C.tr q).st.H[b]? = cl (C.tr p).st.H[b]? := by
  have hEp : C.E p = false := by simp [Ctx.E, hi, hop, isE]
  cases hdr : C.draw with
  | true =>
    obtain ⟨r, rfl, he⟩ := hL hdr
    have hb : b < (C.tr 0).st.H.length := by
      have := fit.L0 _ (ok.L_anti (Nat.zero_le _) (Nat.le_of_lt hp) _ he)
      rw [ok.hn] at this
      exact this
    rcases Nat.lt_or_ge p q with h | h
    · refine ok.block_same (Nat.le_of_lt h) hR.qM (Nat.lt_of_lt_of_le hb (ok.len_mono (Nat.zero_le _) (Nat.le_of_lt hp))) ?_
      intro k hk1 hk2 hEk
      refine ⟨(r, b), ?_, rfl⟩
      refine L_stay ok (by omega) (by have := hR.qM; omega) he ?_
      intro k' j hk1' hk2' hj n' a' x' tk' hst
      have hEk' : C.E k' = true := by simp [Ctx.E, hj, hst, isE]
      have hne : p ≠ k' := by rintro rfl; rw [hEp] at hEk'; cases hEk'
      have hSk := hR.lo k' (by omega) hEk'
      have hbf : C.before p k' := by
        have := ok.hpair p k' i j (by omega) hi hj
        refine ⟨i, j, hi, hj, ?_⟩
        simpa [pairOk, hop, hst] using this
      rw [hR.down p k' hbf hSk] at hS; cases hS
    · refine (ok.block_same h (Nat.le_of_lt hp) (Nat.lt_of_lt_of_le hb (ok.len_mono (Nat.zero_le _) hR.qM)) ?_).symm
      intro k hk1 hk2 _
      exact ⟨(r, b), ok.L_anti (by omega) (Nat.le_of_lt hp) _ he, rfl⟩
  | false =>
    have hbf : ∀ k r, k < r → r < C.ins.length → C.before k r := by
      intro k r hk hr
      have h1 := List.getElem?_eq_getElem (Nat.lt_trans hk hr)
      have h2 := List.getElem?_eq_getElem hr
      exact ⟨_, _, h1, h2, ok.hseq hdr k r _ _ h1 h2 hk⟩
    rcases Nat.lt_or_ge q p with h | h
    · have hEq : C.E q = true := hR.qE.resolve_left (by omega)
      have := hen q (hbf q p h (Nat.lt_of_lt_of_le hp ok.hM))
      rw [hR.hi q (Nat.le_refl _) hEq] at this; cases this
    · have hno : ∀ k, p ≤ k → k < q → C.E k = false := by
        intro k hk1 hk2
        cases hEk : C.E k with
        | false => rfl
        | true =>
          have hne : p ≠ k := by rintro rfl; rw [hEp] at hEk; cases hEk
          have hSk := hR.lo k hk2 hEk
          rw [hR.down p k (hbf p k (by omega) (Nat.lt_of_lt_of_le (Nat.lt_of_lt_of_le hk2 hR.qM) ok.hM)) hSk] at hS; cases hS
      rw [(ok.still h hR.qM hno).1]

theorem load_now [LowPred] (ok : C.Ok P F rec base) (fit : C.Fit P) (hR : RR C base S q a w g O) {i : DIns} (hi : C.ins[p]? = some i) (hp : p < C.M) (hS : S p = false) (hen : ∀ k, C.before k p → S k = true)
    {ag : Bool} {n : Nat} {da : DX} {root : Option Nat} (hop : i.op = .load ag n da root) {v : DV} (hl : loadOp (C.tr p) C.draw ag n da root = some v) :
    loadDV (C.tr q).st.H ag n (rdc (C.tr p).st.tm da) = some v := by
  unfold loadOp at hl
  split at hl
  · cases hl
  · rename_i hc
    generalize hd : rdc (C.tr p).st.tm da = d at hl hc
    cases d with
    | ptr b o =>
      rw [loadDV_congr (block_now ok fit hR hi hp hS hen hop (b := b) ?_) ag n o]
      · exact hl
      · intro hdr
        rw [hdr] at hc
        simp only [Bool.true_and, Bool.not_eq_true', Bool.not_eq_false] at hc
        unfold mayLoad at hc
        cases root with
        | none => simp at hc
        | some r =>
          simp only [List.any_eq_true, Bool.and_eq_true] at hc
          obtain ⟨e, he, h1, h2⟩ := hc
          refine ⟨r, rfl, ?_⟩
          have e1 := Nat.eq_of_beq_eq_true h1
          have e2 := Nat.eq_of_beq_eq_true h2
          rw [e1, e2]; exact he
    | snap cs o => exact hl
    | _ => exact hl

end

end Go.Zd
namespace Go.Zd

variable {P : Program} {F : Nat → Option DFn} {rec : Rec} {base : Nat}

theorem put_defers' (a : Act) (d : Option Nat) (y : Value) : (a.put d y).defers = a.defers := by
  cases d <;> rfl

theorem load_cell [LowPred] {w : World} {g : Gh} {O : Nat → Loc} {H : List (List DV)} (hI : Inv w g O H base) {b off : Nat} {v : DV} {x : Value} {t : TypeId} (hx : VR g x (.ptr b off)) (hl : loadDV H false 1 (.ptr b off) = some v)
    (ha : aggO P t = some false) (hn : szOf P t = some 1) : ∃ cs E fr y, w.heap[g.V b]? = some (.cells cs E fr) ∧ cs.toList[off]? = some y ∧ (Instr.loadAt t x).run P w = .ok y w := by
  simp only [loadDV] at hl
  split at hl
  · rename_i ds hb
    split at hl
    · rename_i hle
      cases hx
      obtain ⟨_, _, _, cs, E, h1, h2, _⟩ := hI.var b ds hb
      have hsz : cs.size = ds.length := by simpa using h2.length
      have hlt : off < cs.toList.length := by simp; omega
      have hr := load_run (P := P) h1 ha hn rfl (o := off) (by omega)
      have hy : cs.toList[off]? = some cs.toList[off] := List.getElem?_eq_getElem hlt
      refine ⟨cs, E, (0, 0), cs.toList[off], h1, hy, ?_⟩
      have e : ((cs.toList.drop off).take 1).headD undef = cs.toList[off] := by
        rw [List.drop_eq_getElem_cons hlt]; rfl
      rw [← e]
      simpa using hr
    · cases hl
  · cases hl

theorem opDV_pure {PR : List Nat} {draw : Bool} {s s' : RSt} {i : DIns} {y : Option DV} (hE : isE i.op = false) (hs : simple i.op = true) (hl : ∀ ag n d r, i.op ≠ .load ag n d r)
    (h : opDV F rec PR draw s i = some (y, s')) : ∃ v, pureOp s.st.tm i.op = some v ∧ y = none ∧ s' = putV s i.dst v := by
  unfold opDV at h
  split at h
  all_goals first
    | (rename_i ho; rw [ho] at hE; cases hE; done)
    | (rename_i ho; rw [ho] at hs; cases hs; done)
    | skip
  · rename_i ho; exact absurd ho (hl _ _ _ _)
  · split at h
    · rename_i v hp; cases h; exact ⟨v, hp, rfl, rfl⟩
    · cases h

section
variable {C : Ctx} {S : Nat → Bool} {q p : Nat} {a : Act} {w : World} {g : Gh} {O : Nat → Loc}

/-- the protection of a block that a load has read -/
theorem L_now [LowPred] (ok : C.Ok P F rec base) (hR : RR C base S q a w g O) {i : DIns} (hi : C.ins[p]? = some i) (hp : p < C.M) (hS : S p = false) (_hen : ∀ k, C.before k p → S k = true)
    {ag : Bool} {n : Nat} {da : DX} {root : Option Nat} (hop : i.op = .load ag n da root) {b : Nat} (hL : C.draw = true → ∃ r, root = some r ∧ (r, b) ∈ (C.tr p).L) (he0 : ∃ e ∈ (C.tr p).L, e.2 = b) :
    ∃ e ∈ (C.tr q).L, e.2 = b := by
  have hEp : C.E p = false := by simp [Ctx.E, hi, hop, isE]
  rcases Nat.lt_or_ge p q with h | h
  · cases hdr : C.draw with
    | true =>
      obtain ⟨r, rfl, he⟩ := hL hdr
      refine ⟨(r, b), L_stay ok (Nat.le_of_lt h) hR.qM he ?_, rfl⟩
      intro k' j hk1' hk2' hj n' a' x' tk' hst
      have hEk' : C.E k' = true := by simp [Ctx.E, hj, hst, isE]
      have hne : p ≠ k' := by rintro rfl; rw [hEp] at hEk'; cases hEk'
      have hSk := hR.lo k' (by omega) hEk'
      have hbf : C.before p k' := by
        have := ok.hpair p k' i j (by omega) hi hj
        refine ⟨i, j, hi, hj, ?_⟩
        simpa [pairOk, hop, hst] using this
      rw [hR.down p k' hbf hSk] at hS; cases hS
    | false =>
      have hbf : ∀ k r, k < r → r < C.ins.length → C.before k r := by
        intro k r hk hr
        have h1 := List.getElem?_eq_getElem (Nat.lt_trans hk hr)
        have h2 := List.getElem?_eq_getElem hr
        exact ⟨_, _, h1, h2, ok.hseq hdr k r _ _ h1 h2 hk⟩
      have hno : ∀ k, p ≤ k → k < q → C.E k = false := by
        intro k hk1 hk2
        cases hEk : C.E k with
        | false => rfl
        | true =>
          have hne : p ≠ k := by rintro rfl; rw [hEp] at hEk; cases hEk
          have hSk := hR.lo k hk2 hEk
          rw [hR.down p k (hbf p k (by omega) (Nat.lt_of_lt_of_le (Nat.lt_of_lt_of_le hk2 hR.qM) ok.hM)) hSk] at hS; cases hS
      rw [(ok.still (Nat.le_of_lt h) hR.qM hno).2.1]
      exact he0
  · obtain ⟨e, he, heb⟩ := he0
    exact ⟨e, ok.L_anti h (Nat.le_of_lt hp) e he, heb⟩

/-- the operation is skipped -/
theorem step_skip [LowPred] (ok : C.Ok P F rec base) (fit : C.Fit P) (hR : RR C base S q a w g O) {i : DIns} (hi : C.ins[p]? = some i) (hp : p < C.M) (hS : S p = false) (hen : ∀ k, C.before k p → S k = true) (hgd : i.guard ≠ none)
    (hst : C.tr (p + 1) = { C.tr p with st := setDst (C.tr p).st i.dst (.tuple []) }) : ∃ q', RR C base (add S p) q' (a.put i.dst undef) w g O := by
  have hv : ∀ t, i.dst = some t → VR g undef (look (C.tr (p + 1)).st.tm t).clean ∧ isOwn (look (C.tr (p + 1)).st.tm t) = false := by
    intro t ht
    rw [hst, ht]
    simp only [look_setDst_self]
    exact ⟨.tuple #[] [] .nil, rfl⟩
  cases hE : C.E p with
  | true =>
    have hq := E_at ok hR (Nat.le_of_lt hp) hE hS hen
    subst hq
    refine step_E ok fit hR hi hp hE hS hen (y := undef) (w' := w) (g' := g) (O' := O) ⟨?_, .refl _ _ _ _ _, ?_, ?_⟩
    · rw [hst]; simp only [setDst_H]; exact hR.inv
    · intro t ht
      exact ⟨(hv t ht).1, fun h => by rw [(hv t ht).2] at h; cases h⟩
    · intro c t hc _ _
      exact ⟨hc, rfl⟩
  | false =>
    refine ⟨q, step_quiet ok fit hR hi hp hE hS hen hR.inv (.refl _ _ _ _ _) (fun _ _ => rfl) (fun t ht => (hv t ht).1) ?_ ?_⟩
    · intro x _ h; exact absurd h hgd
    · intro x root _ h; exact absurd h hgd

/-- the operation runs -/
theorem step_do [LowPred] (ok : C.Ok P F rec base) (hcs : CallSim P F rec base) (fit : C.Fit P) (hR : RR C base S q a w g O) {i : DIns} (hi : C.ins[p]? = some i) (hp : p < C.M) (hS : S p = false) (hen : ∀ k, C.before k p → S k = true)
    (hop : opDV F rec C.PR C.draw (C.tr p) i = some (none, C.tr (p + 1))) {o : Oper} (ho : C.ops[i.ix]? = some o) {next : Act → World → Prop} {Q : Exit → Act → World → Prop}
    (hn : ∀ q' y w' g' O', RR C base (add S p) q' (a.put o.dst y) w' g' O' → next (a.put o.dst y) w') : o.wp P a w next Q := by
  obtain ⟨o', ho', hc, hd, hsim, _⟩ := fit.op p i hi
  rw [ho] at ho'; cases ho'
  cases hE : C.E p with
  | true =>
    have hE' : isE i.op = true := by simpa [Ctx.E, hi] using hE
    refine op_sim hcs hc hd hE' hsim (pre_at ok hR hi (Nat.le_of_lt hp) hE hS hen) (src_at ok fit hR hi (Nat.le_of_lt hp) hE hS hen) hop next Q ?_ ?_
    · intro _ y w' g' O' he
      rw [← hd] at he
      obtain ⟨q', h⟩ := step_E ok fit hR hi hp hE hS hen he
      rw [hd] at h
      exact hn _ _ _ _ _ h
    · intro v hv; cases hv
  | false =>
    have hE' : isE i.op = false := by simpa [Ctx.E, hi] using hE
    have hopr := opr_at ok hR hi (Nat.le_of_lt hp) hS hen
    have hagree := tmAt_agree i (C.tr p)
    unfold Oper.wp
    by_cases hld : ∃ ag n d r, i.op = .load ag n d r
    · obtain ⟨ag, n, da, root, hio⟩ := hld
      unfold opDV at hop
      rw [hio] at hop
      simp only at hop
      split at hop
      · rename_i v hl
        have hl0 := hl
        have hst : C.tr (p + 1) = putV (C.tr p) i.dst v := by simpa using hop.symm
        have hl' := load_now ok fit hR hi hp hS hen hio hl
        rw [hio] at hc hagree
        have hag : rdc (tmAt i (C.tr p)) da = rdc (C.tr p).st.tm da := hagree da (by simp [dxs])
        obtain ⟨t, A, hoop, hsz, hagg, hA, hcond⟩ := einv hc
        rw [← hag] at hl'
        obtain ⟨y, hr, hy⟩ := sim_load hR.inv hoop hopr hA hsz hagg hcond hl'
        rw [hr]
        refine hn q y w g O ?_
        rw [← hd]
        refine step_quiet ok fit hR hi hp hE hS hen hR.inv (.refl _ _ _ _ _) (fun _ _ => rfl) ?_ ?_ ?_
        · intro t' ht'
          rw [hst, ht']
          simp only [putV, look_setDst_self]
          exact hy.clean
        · intro x hx; rw [hio] at hx; cases hx
        · intro x root' hx hgd blk off hxp he0
          rw [hio] at hx; cases hx
          have hrd : rdc (C.tr p).st.tm (.t x) = .ptr blk off := hxp
          have hmay : C.draw = true → ∃ r, root = some r ∧ (r, blk) ∈ (C.tr p).L := by
            intro hdr
            unfold loadOp at hl0
            rw [hdr, hrd] at hl0
            split at hl0
            · cases hl0
            · rename_i hcc
              simp only [Bool.true_and, Bool.not_eq_true', Bool.not_eq_false] at hcc
              unfold mayLoad at hcc
              cases root with
              | none => simp at hcc
              | some r =>
                simp only [List.any_eq_true, Bool.and_eq_true] at hcc
                obtain ⟨e, he, h1, h2⟩ := hcc
                refine ⟨r, rfl, ?_⟩
                have e1 := Nat.eq_of_beq_eq_true h1
                have e2 := Nat.eq_of_beq_eq_true h2
                rw [e1, e2]; exact he
          obtain ⟨e, he, heb⟩ := L_now ok hR hi hp hS hen hio hmay he0
          have hxv := hopr _ _ hA
          rw [hag, hrd] at hxv
          rw [hag, hrd] at hl'
          obtain ⟨cs, E, fr, y', k1, k2, k3⟩ := load_cell (P := P) hR.inv hxv hl' hagg hsz
          have hyy : y' = y := by
            have : (execOp a.eval o).run P w = .ok (.value y') w := by simp [execOp, hoop, k3]
            rw [hr] at this
            cases this; rfl
          rw [hyy] at k2
          have := hR.prot e he
          rw [heb] at this
          exact ⟨cs, E, fr, by rw [← this]; exact k1, k2⟩
      · cases hop
    · have hld' : ∀ ag n d r, i.op ≠ .load ag n d r := fun ag n d r h => hld ⟨ag, n, d, r, h⟩
      obtain ⟨v, hv, _, hst⟩ := opDV_pure hE' hsim hld' hop
      rw [← pureOp_congr hagree] at hv
      obtain ⟨y, w', g', hr, hy, hI', hh, hG⟩ := pure_sim (PR := C.PR ++ (C.tr q).L.map (·.2)) hR.inv hc hopr hv hsim
      rw [hr]
      refine hn q y w' g' O ?_
      rw [← hd]
      refine step_quiet ok fit hR hi hp hE hS hen hI' hh hG ?_ ?_ ?_
      · intro t' ht'
        rw [hst, ht']
        simp only [putV, look_setDst_self]
        exact hy.clean
      · intro x hx hgd
        rw [hx] at hc
        obtain ⟨X, hX, hXd⟩ := einv hc
        have := opd_t hXd
        subst this
        have hr2 : (execOp a.eval o).run P w = .ok (.value (a.tmps.getD x undef)) w := by
          rcases hX with hX | hX <;> simp [execOp, hX, Act.eval]
        rw [hr] at hr2
        cases hr2; rfl
      · intro x root hx
        exact absurd hx (hld' _ _ _ _)

/-- the guard, here and there -/
theorem guard_at [LowPred] (ok : C.Ok P F rec base) (fit : C.Fit P) (hR : RR C base S q a w g O) {i : DIns} (hi : C.ins[p]? = some i) (hp : p ≤ C.M) (hS : S p = false) (hen : ∀ k, C.before k p → S k = true) {o : Oper} (ho : C.ops[i.ix]? = some o)
    {y : Option DV} {s' : RSt} (hs : stepIns F rec C.PR C.draw i (C.tr p) = some (y, s')) :
    (Region.wanted o (yielded C.ops a.tmps) = true ∧ opDV F rec C.PR C.draw (C.tr p) i = some (y, s')) ∨
    (Region.wanted o (yielded C.ops a.tmps) = false ∧ i.guard ≠ none ∧ y = none ∧ s' = { C.tr p with st := setDst (C.tr p).st i.dst (.tuple []) }) := by
  obtain ⟨o', ho', _, _, _, hgd⟩ := fit.op p i hi
  rw [ho] at ho'; cases ho'
  unfold Region.wanted
  cases hog : o.guard with
  | none =>
    rw [hog] at hgd
    unfold stepIns at hs
    rw [hgd] at hs
    exact .inl ⟨rfl, hs⟩
  | some jb =>
    obtain ⟨j, b⟩ := jb
    rw [hog] at hgd
    obtain ⟨t, oj, hj, hjd, hgi⟩ := hgd
    have htr : t ∈ reads i := by simp [reads, hgi]
    have hv := hR.slots t
    rw [read_at ok hR hi hp hS hen htr] at hv
    unfold stepIns at hs
    rw [hgi] at hs
    simp only at hs
    split at hs
    · rename_i b' hb'
      rw [hb'] at hv
      have hval := vr_bool hv
      have hyl : yielded C.ops a.tmps j = some b' := by
        unfold yielded
        simp only [hj, Option.bind_some, hjd]
        have : a.tmps[t]? = some (.bool b') := by
          cases ht : a.tmps[t]? with
          | none => simp [ht] at hval; cases hval
          | some v => simp [ht] at hval; rw [hval]
        rw [this]
      simp only [hyl]
      cases hbb : (b' == b) <;> rw [hbb] at hs
      · cases hs
        refine .inr ⟨?_, by rw [hgi]; simp, rfl, rfl⟩
        simpa using hbb
      · refine .inl ⟨?_, hs⟩
        simpa using hbb
    · rename_i hb'
      rw [hb'] at hv
      obtain ⟨cs, hcs, hcl⟩ := vr_tuple hv
      have hyl : yielded C.ops a.tmps j = none := by
        unfold yielded
        simp only [hj, Option.bind_some, hjd]
        cases ht : a.tmps[t]? with
        | none => rfl
        | some v =>
          simp [ht] at hcs; rw [hcs]
      cases hs
      refine .inr ⟨?_, by rw [hgi]; simp, rfl, rfl⟩
      simp only [hyl]
      rfl
    · cases hs

theorem op_step [LowPred] (ok : C.Ok P F rec base) (hcs : CallSim P F rec base) (fit : C.Fit P) (hR : RR C base S q a w g O) {i : DIns} (hi : C.ins[p]? = some i) (hp : p < C.M) (hS : S p = false) (hen : ∀ k, C.before k p → S k = true)
    {next : Act → World → Prop} {Q : Exit → Act → World → Prop}
    (hn : ∀ a' q' w' g' O', a'.defers = a.defers → RR C base (add S p) q' a' w' g' O' → next a' w') : wpOp P C.ops Q i.ix next a w := by
  obtain ⟨o, ho, hc, hd, hsim, _⟩ := fit.op p i hi
  obtain ⟨j, hj, hs⟩ := ok.htr p hp
  rw [hi] at hj; cases hj
  unfold wpOp
  rw [ho]
  simp only
  rcases guard_at ok fit hR hi (Nat.le_of_lt hp) hS hen ho hs with ⟨hw, hop⟩ | ⟨hw, hgd, _, hst⟩
  · rw [if_pos hw]
    exact .inl (step_do ok hcs fit hR hi hp hS hen hop ho fun q' y w' g' O' h => hn _ _ _ _ _ (put_defers' _ _ _) h)
  · rw [hw]
    simp only [Bool.false_eq_true, if_false]
    obtain ⟨q', h⟩ := step_skip ok fit hR hi hp hS hen hgd hst
    rw [hd] at h
    exact hn _ _ _ _ _ (put_defers' _ _ _) h

theorem op_panic [LowPred] (ok : C.Ok P F rec base) (hcs : CallSim P F rec base) (fit : C.Fit P) (hR : RR C base S q a w g O) {i : DIns} (hi : C.ins[C.M]? = some i) (hS : S C.M = false) (hen : ∀ k, C.before k C.M → S k = true)
    {v : DV} {s' : RSt} (hs : stepIns F rec C.PR C.draw i (C.tr C.M) = some (some v, s')) {next : Act → World → Prop} {Q : Exit → Act → World → Prop}
    (hQ : ∀ y w' g' O', VR g' y v → Inv w' g' O' s'.st.H base → Hist C.w0 C.g0 C.O0 base C.PR w' g' O' → Q (.panic [{ v := y, recovered := false }]) a w') : wpOp P C.ops Q i.ix next a w := by
  obtain ⟨o, ho, hc, hd, hsim, _⟩ := fit.op C.M i hi
  unfold wpOp
  rw [ho]
  simp only
  rcases guard_at ok fit hR hi (Nat.le_refl _) hS hen ho hs with ⟨hw, hop⟩ | ⟨_, _, h, _⟩
  · rw [if_pos hw]
    have hE' : isE i.op = true := by
      cases hE : isE i.op with
      | true => rfl
      | false => obtain ⟨h, _⟩ := opDV_quiet hE hop; cases h
    have hE : C.E C.M = true := by simp [Ctx.E, hi, hE']
    refine .inl (op_sim hcs hc hd hE' hsim (pre_at ok hR hi (Nat.le_refl _) hE hS hen) (src_at ok fit hR hi (Nat.le_refl _) hE hS hen) hop next Q ?_ ?_)
    · intro h; cases h
    · intro v' hv' y w' g' O' h1 h2 h3
      cases hv'
      exact hQ y w' g' O' h1 h2 (hR.hist.trans h3)
  · cases h

end

end Go.Zd
