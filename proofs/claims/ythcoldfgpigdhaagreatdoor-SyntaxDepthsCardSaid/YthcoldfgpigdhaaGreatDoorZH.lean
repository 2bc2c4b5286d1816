/- Regions in any order, to the end. -/
import Derived.Test.YthcoldfgpigdhaaGreatDoorZG
import Derived.Orders
namespace Go.Zd

theorem allPairs_spec {f : DIns → DIns → Bool} : ∀ {l : List DIns}, allPairs f l = true → ∀ {p r : Nat} {i j : DIns}, p < r → l[p]? = some i → l[r]? = some j → f i j = true
  | [], _, _, _, _, _, _, h, _ => by simp at h
  | a :: l, h, p, r, i, j, hpr, hi, hj => by
    simp only [allPairs, Bool.and_eq_true] at h
    obtain ⟨r, rfl⟩ : ∃ r', r = r' + 1 := ⟨r - 1, by omega⟩
    simp at hj
    cases p with
    | zero =>
      simp at hi; subst hi
      exact List.all_eq_true.1 h.1 j (List.mem_of_getElem? hj)
    | succ p =>
      simp at hi
      exact allPairs_spec h.2 (by omega) hi hj

/-! ## what the edges say -/

def befStep (acc : Array Nat) (o : Oper) : Array Nat := acc.push (o.after.foldl (fun s e => if Region.binds .any e then s ||| 2 ^ e.on ||| acc.getD e.on 0 else s) 0)

theorem before_eq (ops : Array Oper) : Region.before ops = ops.toList.foldl befStep #[] := by
  unfold Region.before
  rw [← Array.foldl_toList]
  rfl

theorem fold_bits (acc : Array Nat) (k : Nat) : ∀ (l : List Edge) (s : Nat), (l.foldl (fun s e => if Region.binds .any e then s ||| 2 ^ e.on ||| acc.getD e.on 0 else s) s).testBit k = true →
    s.testBit k = true ∨ ∃ e ∈ l, Region.binds .any e = true ∧ (e.on = k ∨ (acc.getD e.on 0).testBit k = true)
  | [], s, h => .inl h
  | e :: l, s, h => by
    simp only [List.foldl_cons] at h
    rcases fold_bits acc k l _ h with h1 | ⟨e', he', h2⟩
    · split at h1
      · rename_i hb
        simp only [Nat.testBit_or, Bool.or_eq_true] at h1
        rcases h1 with (h1 | h1) | h1
        · exact .inl h1
        · refine .inr ⟨e, List.mem_cons_self .., hb, .inl ?_⟩
          rw [Nat.testBit_two_pow] at h1
          simpa using h1
        · exact .inr ⟨e, List.mem_cons_self .., hb, .inr h1⟩
      · exact .inl h1
    · exact .inr ⟨e', List.mem_cons_of_mem _ he', h2⟩

theorem bef_prefix : ∀ (l : List Oper) (acc : Array Nat), acc.size ≤ (l.foldl befStep acc).size ∧ ∀ x, x < acc.size → (l.foldl befStep acc).getD x 0 = acc.getD x 0
  | [], acc => ⟨Nat.le_refl _, fun _ _ => rfl⟩
  | o :: l, acc => by
    obtain ⟨h1, h2⟩ := bef_prefix l (befStep acc o)
    have hs : (befStep acc o).size = acc.size + 1 := by simp [befStep]
    simp only [List.foldl_cons]
    refine ⟨by omega, fun x hx => ?_⟩
    rw [h2 x (by omega)]
    simp only [befStep, Array.getD_eq_getD_getElem?, Array.getElem?_push, Nat.ne_of_lt hx, if_false]

theorem bef_size : ∀ (l : List Oper) (acc : Array Nat), (l.foldl befStep acc).size = acc.size + l.length
  | [], acc => rfl
  | o :: l, acc => by
    simp only [List.foldl_cons, bef_size l, List.length_cons, befStep, Array.size_push]
    omega

theorem bef_bits [LowPred] (k : Nat) : ∀ (l : List Oper) (acc : Array Nat) (j : Nat), ((l.foldl befStep acc).getD (acc.size + j) 0).testBit k = true →
    ∃ o, l[j]? = some o ∧ ∃ e ∈ o.after.toList, Region.binds .any e = true ∧ (e.on = k ∨ ((l.foldl befStep acc).getD e.on 0).testBit k = true)
  | [], acc, j, h => by
    simp only [List.foldl_nil] at h
    have : acc.getD (acc.size + j) 0 = 0 := by simp
    rw [this] at h; simp at h
  | o :: l, acc, j, h => by
    simp only [List.foldl_cons] at h ⊢
    have hs : (befStep acc o).size = acc.size + 1 := by simp [befStep]
    cases j with
    | zero =>
      refine ⟨o, rfl, ?_⟩
      have e1 : (l.foldl befStep (befStep acc o)).getD (acc.size + 0) 0 = (befStep acc o).getD acc.size 0 := (bef_prefix l _).2 _ (by omega)
      rw [e1] at h
      have e2 : (befStep acc o).getD acc.size 0 = o.after.foldl (fun s e => if Region.binds .any e then s ||| 2 ^ e.on ||| acc.getD e.on 0 else s) 0 := by
        simp [befStep]
      rw [e2, ← Array.foldl_toList] at h
      rcases fold_bits acc k _ _ h with h1 | ⟨e, he, hb, h1⟩
      · simp at h1
      · refine ⟨e, he, hb, h1.imp id fun h1 => ?_⟩
        have hlt : e.on < acc.size := by
          rcases Nat.lt_or_ge e.on acc.size with h2 | h2
          · exact h2
          · have : acc.getD e.on 0 = 0 := by simp [Array.getElem?_eq_none h2]
            rw [this] at h1; simp at h1
        rw [(bef_prefix l _).2 _ (by omega)]
        have : (befStep acc o).getD e.on 0 = acc.getD e.on 0 := (bef_prefix [o] acc).2 _ hlt
        rw [this]; exact h1
    | succ j =>
      have := bef_bits k l (befStep acc o) j (by rw [hs]; rw [show acc.size + 1 + j = acc.size + (j + 1) by omega]; exact h)
      simpa using this

/-- an edge, or an edge to one that is ordered -/
theorem bits_edge [LowPred] {ops : Array Oper} {i j : Nat} (h : bits (Region.before ops) i j = true) :
    ∃ o, ops[j]? = some o ∧ ∃ e ∈ o.after, Region.binds .any e = true ∧ (e.on = i ∨ bits (Region.before ops) i e.on = true) := by
  unfold bits at h ⊢
  rw [before_eq] at h ⊢
  obtain ⟨o, ho, e, he, h1, h2⟩ := bef_bits i ops.toList #[] j (by simpa using h)
  exact ⟨o, by simpa using ho, e, by simpa using he, h1, h2⟩

theorem edgesOk_spec {ops : Array Oper} (h : edgesOk ops.toList = true) {j : Nat} {o : Oper} (ho : ops[j]? = some o) {e : Edge} (he : e ∈ o.after) (hb : Region.binds .any e = true) : e.on < j := by
  unfold edgesOk at h
  have := List.all_eq_true.1 h (o, j) (by rw [List.mem_zipIdx_iff_getElem?]; simpa using ho)
  have := List.all_eq_true.1 this e (by simpa using he)
  rw [hb] at this
  simp only [Bool.not_true, Bool.false_or] at this
  exact Nat.le_of_ble_eq_true this

/-! ## traces -/

variable {F : Nat → Option DFn} {rec : Rec}

def trace (F : Nat → Option DFn) (rec : Rec) (PR : List Nat) (draw : Bool) : List DIns → RSt → Nat → RSt
  | _, s, 0 => s
  | [], s, _ + 1 => s
  | i :: r, s, p + 1 => match stepIns F rec PR draw i s with
    | some (none, s1) => trace F rec PR draw r s1 p
    | _ => s

theorem trace_end {PR : List Nat} {draw : Bool} : ∀ {l : List DIns} {s s' : RSt} {x : Option DV}, runIns F rec PR draw l s = some (x, s') →
    ∃ M, M ≤ l.length ∧ (∀ p, p < M → ∃ i, l[p]? = some i ∧ stepIns F rec PR draw i (trace F rec PR draw l s p) = some (none, trace F rec PR draw l s (p + 1))) ∧
      ((x = none ∧ M = l.length ∧ trace F rec PR draw l s M = s') ∨
       (∃ v i, x = some v ∧ l[M]? = some i ∧ stepIns F rec PR draw i (trace F rec PR draw l s M) = some (some v, s')))
  | [], s, s', x, h => by
    cases h
    exact ⟨0, Nat.le_refl _, fun p hp => absurd hp (Nat.not_lt_zero p), .inl ⟨rfl, rfl, rfl⟩⟩
  | i :: r, s, s', x, h => by
    unfold runIns at h
    split at h
    · rename_i s1 hs
      obtain ⟨M, h1, h2, h3⟩ := trace_end h
      have ht : ∀ p, trace F rec PR draw (i :: r) s (p + 1) = trace F rec PR draw r s1 p := fun p => by simp only [trace, hs]
      refine ⟨M + 1, by simp; omega, ?_, ?_⟩
      · intro p hp
        cases p with
        | zero => exact ⟨i, rfl, by rw [ht]; cases r <;> exact hs⟩
        | succ p =>
          obtain ⟨j, hj, hst⟩ := h2 p (by omega)
          exact ⟨j, by simpa using hj, by rw [ht, ht]; exact hst⟩
      · rcases h3 with ⟨a, b, c⟩ | ⟨v, j, a, b, c⟩
        · exact .inl ⟨a, by simp [b], by rw [ht]; exact c⟩
        · exact .inr ⟨v, j, a, by simpa using b, by rw [ht]; exact c⟩
    · rename_i hne
      obtain ⟨x', s1⟩ : Option DV × RSt := (x, s')
      cases x with
      | none => exact absurd h (hne _)
      | some v =>
        exact ⟨0, Nat.zero_le _, fun p hp => absurd hp (Nat.not_lt_zero p), .inr ⟨v, i, rfl, rfl, h⟩⟩

theorem trace_zero (PR : List Nat) (draw : Bool) (l : List DIns) (s : RSt) : trace F rec PR draw l s 0 = s := by cases l <;> rfl

/-! ## what the compiler made -/

variable {P : Program}

theorem compIns_spec {ops : List Oper} : ∀ {order : List Nat} {ins : List DIns}, compIns P ops order = some ins → ins.length = order.length ∧
    ∀ (p : Nat) i, ins[p]? = some i → order[p]? = some i.ix ∧ ∃ o, ops[i.ix]? = some o ∧ compOp P ops i.ix o = some i.op ∧ i.dst = o.dst ∧
      (match o.guard with
        | none => i.guard = none
        | some (j, b) => ∃ t oj, ops[j]? = some oj ∧ oj.dst = some t ∧ i.guard = some (t, b))
  | [], ins, h => by cases h; exact ⟨rfl, fun p i h => by simp at h⟩
  | k :: r, ins, h => by
    unfold compIns at h
    split at h
    · cases h
    · rename_i o ho
      split at h
      · rename_i d l hd hl
        obtain ⟨h1, h2⟩ := compIns_spec hl
        have key : ∀ gd, (match o.guard with
              | none => gd = none
              | some (j, b) => ∃ t oj, ops[j]? = some oj ∧ oj.dst = some t ∧ gd = some (t, b)) → { ix := k, dst := o.dst, guard := gd, op := d } :: l = ins →
            ins.length = (k :: r).length ∧
            ∀ (p : Nat) i, ins[p]? = some i → (k :: r)[p]? = some i.ix ∧ ∃ o, ops[i.ix]? = some o ∧ compOp P ops i.ix o = some i.op ∧ i.dst = o.dst ∧
              (match o.guard with
                | none => i.guard = none
                | some (j, b) => ∃ t oj, ops[j]? = some oj ∧ oj.dst = some t ∧ i.guard = some (t, b)) := by
          intro gd hgd he
          subst he
          refine ⟨by simp [h1], ?_⟩
          intro p i hi
          cases p with
          | zero =>
            simp at hi; subst hi
            exact ⟨rfl, o, ho, hd, rfl, hgd⟩
          | succ p =>
            simp at hi
            obtain ⟨a, b⟩ := h2 p i hi
            exact ⟨by simpa using a, b⟩
        split at h
        · rename_i hg
          cases h
          exact key none (by rw [hg]) rfl
        · rename_i j b hg
          split at h
          · rename_i t ht
            cases h
            refine key (some (t, b)) ?_ rfl
            rw [hg]
            cases hj : ops[j]? with
            | none => rw [hj] at ht; cases ht
            | some oj =>
              rw [hj] at ht
              exact ⟨t, oj, hj, by simpa using ht, rfl⟩
          · cases h
      · cases h

end Go.Zd
namespace Go.Zd

variable {P : Program} {F : Nat → Option DFn} {rec : Rec} {base : Nat}

/-- a state between two regions -/
structure SR [LowPred] (base : Nat) (E : Env) (a : Act) (w : World) (g : Gh) (O : Nat → Loc) (st : St) : Prop where
  size : E.n ≤ a.tmps.size
  defers : a.defers = E.ds
  frame : ∀ t, E.W t = false → a.tmps.getD t undef = E.T t
  inv : Inv w g O st.H base
  slots : ∀ t, VR g (a.tmps.getD t undef) (look st.tm t).clean
  own : ∀ t, isOwn (look st.tm t) = true → OwnAt g O base (a.tmps.getD t undef) (.slot t)

/-- what code comes to -/
def Post [LowPred] (base : Nat) (E : Env) (PR : List Nat) (w0 : World) (g0 : Gh) (O0 : Nat → Loc) (ex : Ex) (st' : St) (e : Exit) (a : Act) (w : World) : Prop :=
  a.defers = E.ds ∧ (∀ t, E.W t = false → a.tmps.getD t undef = E.T t) ∧ ∃ g O, Hist w0 g0 O0 base PR w g O ∧
    match ex with
    | .normal => e = .normal ∧ SR base E a w g O st'
    | .exit id => e = .exit id ∧ SR base E a w g O st'
    | .ret => e = .ret ∧ SR base E a w g O st'
    | .panic v => ∃ y, e = .panic [{ v := y, recovered := false }] ∧ VR g y v ∧ Inv w g O st'.H base

theorem opDV_panic {PR : List Nat} {draw : Bool} {s s' : RSt} {i : DIns} {v : DV} (h : opDV F rec PR draw s i = some (some v, s')) : (∃ f l, i.op = .call f l) ∨ (∃ x, i.op = .panic x) := by
  unfold opDV at h
  split at h
  · cases h
  · cases h
  · split at h <;> cases h
  · split at h <;> cases h
  · split at h <;> cases h
  · rename_i f l ho; exact .inl ⟨f, l, ho⟩
  · split at h <;> cases h
  · split at h <;> cases h
  · cases h
  · rename_i x ho; exact .inr ⟨x, ho⟩
  · split at h <;> cases h

theorem stepIns_panic [LowPred] {PR : List Nat} {draw : Bool} {s s' : RSt} {i : DIns} {v : DV} (h : stepIns F rec PR draw i s = some (some v, s')) : (∃ f l, i.op = .call f l) ∨ (∃ x, i.op = .panic x) := by
  unfold stepIns at h
  split at h
  · exact opDV_panic h
  · split at h
    · rename_i b _
      cases hb : (b == _) <;> rw [hb] at h
      · cases h
      · exact opDV_panic h
    · cases h
    · cases h

section
variable {C : Ctx} {a : Act} {w : World} {g : Gh} {O : Nat → Loc}

/-- all operations have run -/
theorem all_done [LowPred] (ok : C.Ok P F rec base) {S : Nat → Bool} {q : Nat} (hR : RR C base S q a w g O) (hall : ∀ k, k < C.M → S k = true) (hM : C.M = C.ins.length) (hd : a.defers = C.env.ds) : SR base C.env a w g O (C.tr C.M).st := by
  have hq : q = C.M := by
    rcases hR.qE with h | h
    · exact h
    · have hlt : q < C.M := by
        rw [hM]
        unfold Ctx.E at h
        split at h
        · rename_i i hi; exact (List.getElem?_eq_some_iff.1 hi).1
        · cases h
      have := hR.hi q (Nat.le_refl _) h
      rw [hall q hlt] at this; cases this
  subst hq
  refine ⟨hR.size, hd, hR.frame, hR.inv, ?_, ?_⟩
  · intro t
    have := ok.cur_at (S := S) (p := C.M) (t := t) (Nat.le_refl _) (fun k hk _ => hall k hk) (fun k h1 h2 => by omega)
    rw [← this]
    exact hR.slots t
  · intro t ht
    refine hR.own t ht ?_
    intro k hk _ hw
    obtain ⟨i, hi, _⟩ := hw
    have := (List.getElem?_eq_some_iff.1 hi).1
    omega

/-- in the order of the text -/
theorem run_listed [LowPred] (ok : C.Ok P F rec base) (hcs : CallSim P F rec base) (fit : C.Fit P) (hix : ∀ (p : Nat) i, C.ins[p]? = some i → i.ix = p) (hlen : C.ins.length = C.ops.size) (_hseq : ∀ k p, k < p → p < C.ins.length → C.before k p)
    (hbf : ∀ k p, C.before k p → k < p) {Q : Exit → Act → World → Prop}
    (hend : (C.M = C.ins.length ∧ ∀ a w g O, a.defers = C.env.ds → Hist C.w0 C.g0 C.O0 base C.PR w g O → SR base C.env a w g O (C.tr C.M).st → Q .normal a w) ∨
      (∃ v i s', C.ins[C.M]? = some i ∧ stepIns F rec C.PR C.draw i (C.tr C.M) = some (some v, s') ∧
        ∀ a y w g O, a.defers = C.env.ds → (∀ t, C.env.W t = false → a.tmps.getD t undef = C.env.T t) → VR g y v → Inv w g O s'.st.H base → Hist C.w0 C.g0 C.O0 base C.PR w g O → Q (.panic [{ v := y, recovered := false }]) a w)) :
    ∀ d p q a w g O, C.M - p = d → p ≤ C.M → a.defers = C.env.ds → RR C base (fun k => decide (k < p)) q a w g O → wpOps P C.ops Q (List.range' p (C.ops.size - p)) a w := by
  intro d
  induction d with
  | zero =>
    intro p q a w g O hd hp hdf hR
    have hpM : p = C.M := by omega
    subst hpM
    rcases hend with ⟨hM, hend⟩ | ⟨v, i, s', hi, hs, hend⟩
    · rw [show C.ops.size - C.M = 0 by omega]
      simp only [List.range'_zero, wpOps]
      exact hend _ _ _ _ hdf hR.hist (all_done ok hR (fun k hk => by simpa using hk) hM hdf)
    · have hlt := (List.getElem?_eq_some_iff.1 hi).1
      rw [show C.ops.size - C.M = (C.ops.size - C.M - 1) + 1 by omega, List.range'_succ, wpOps_cons, ← hix _ _ hi]
      exact op_panic ok hcs fit hR hi (by simp) (fun k hk => by simpa using hbf k _ hk) hs (fun y w' g' O' h1 h2 h3 => hend _ _ _ _ _ hdf hR.frame h1 h2 h3)
  | succ d ih =>
    intro p q a w g O hd hp hdf hR
    have hpM : p < C.M := by omega
    have hlt : p < C.ins.length := Nat.lt_of_lt_of_le hpM ok.hM
    have hi := List.getElem?_eq_getElem hlt
    rw [show C.ops.size - p = (C.ops.size - (p + 1)) + 1 by omega, List.range'_succ, wpOps_cons]
    have hix' := hix _ _ hi
    rw [← hix']
    refine op_step ok hcs fit hR hi hpM (by simp) (fun k hk => by simpa using hbf k _ hk) ?_
    intro a' q' w' g' O' hdf' h
    rw [hix']
    refine ih (p + 1) q' a' w' g' O' (by omega) hpM (hdf'.trans hdf) ?_
    have e : add (fun k => decide (k < p)) p = fun k => decide (k < p + 1) := by
      funext k
      by_cases hk : k = p
      · subst hk; rw [add_self]; simp
      · rw [add_ne hk]
        by_cases h1 : k < p
        · simp [h1, Nat.lt_succ_of_lt h1]
        · have : ¬ k < p + 1 := by omega
          simp [h1, this]
    rw [← e]
    exact h

end

/-- unlisted operations -/
def rest (listed : Array Bool) (n : Nat) : Nat := ((List.range n).filter fun j => !listed.getD j true).length

theorem filter_drop {α : Type} [DecidableEq α] {f f' : α → Bool} : ∀ {l : List α}, (∀ x ∈ l, f' x = true → f x = true) → ∀ x ∈ l, f x = true → f' x = false → (l.filter f').length < (l.filter f).length
  | [], _, x, h, _, _ => by simp at h
  | y :: l, hle, x, h, h1, h2 => by
    have hl : (l.filter f').length ≤ (l.filter f).length := by
      have hle' : ∀ x ∈ l, f' x = true → f x = true := fun x hx => hle x (List.mem_cons_of_mem _ hx)
      clear hle h
      induction l with
      | nil => simp
      | cons z l ih =>
        have := ih (fun x hx => hle' x (List.mem_cons_of_mem _ hx))
        have hz := hle' z (List.mem_cons_self ..)
        simp only [List.filter_cons]
        cases h3 : f' z <;> cases h4 : f z <;> simp_all <;> omega
    simp only [List.filter_cons]
    rcases List.mem_cons.1 h with rfl | h
    · rw [h1, h2]; simp; omega
    · have ih := filter_drop (f := f) (f' := f') (fun x hx => hle x (List.mem_cons_of_mem _ hx)) x h h1 h2
      have hy := hle y (List.mem_cons_self ..)
      cases h3 : f' y <;> cases h4 : f y <;> simp_all <;> omega

end Go.Zd
namespace Go.Zd

variable {P : Program} {F : Nat → Option DFn} {rec : Rec} {base : Nat}

def Sof (C : Ctx) (listed : Array Bool) : Nat → Bool := fun k => match C.ins[k]? with
  | some i => listed.getD i.ix false
  | none => false

theorem Sof_at {C : Ctx} {listed : Array Bool} {k : Nat} {i : DIns} (hi : C.ins[k]? = some i) : Sof C listed k = listed.getD i.ix false := by
  simp [Sof, hi]

theorem getD_lt {l : Array Bool} {j : Nat} (h : l.getD j false = true) : j < l.size := by
  rcases Nat.lt_or_ge j l.size with h1 | h1
  · exact h1
  · simp [Array.getElem?_eq_none h1] at h

theorem getD_tf {l : Array Bool} {j : Nat} (h : j < l.size) (d d' : Bool) : l.getD j d = l.getD j d' := by
  simp [h]

section
variable {C : Ctx} {Q : Exit → Act → World → Prop}

theorem run_any [LowPred] (ok : C.Ok P F rec base) (hcs : CallSim P F rec base) (fit : C.Fit P) (hmust : C.must = bits (Region.before C.ops)) (hed : edgesOk C.ops.toList = true)
    (hcov : ∀ j, j < C.ops.size → ∃ (p : Nat) (i : DIns), C.ins[p]? = some i ∧ i.ix = j) (hix : ∀ (p : Nat) (i : DIns), C.ins[p]? = some i → i.ix < C.ops.size) (huniq : ∀ (p r : Nat) (i j : DIns), C.ins[p]? = some i → C.ins[r]? = some j → i.ix = j.ix → p = r)
    (hend : (C.M = C.ins.length ∧ ∀ a w g O, a.defers = C.env.ds → Hist C.w0 C.g0 C.O0 base C.PR w g O → SR base C.env a w g O (C.tr C.M).st → Q .normal a w) ∨
      (∃ v i s', C.ins[C.M]? = some i ∧ stepIns F rec C.PR C.draw i (C.tr C.M) = some (some v, s') ∧
        ∀ a y w g O, a.defers = C.env.ds → (∀ t, C.env.W t = false → a.tmps.getD t undef = C.env.T t) → VR g y v → Inv w g O s'.st.H base → Hist C.w0 C.g0 C.O0 base C.PR w g O → Q (.panic [{ v := y, recovered := false }]) a w)) :
    ∀ fuel listed q a w g O, rest listed C.ops.size ≤ fuel → listed.size = C.ops.size → a.defers = C.env.ds → (∀ k, Sof C listed k = true → k < C.M) → RR C base (Sof C listed) q a w g O →
      wpAny P .any C.ops Q fuel listed a w := by
  -- what has to stand before
  have hen : ∀ (listed : Array Bool) q a w g O, listed.size = C.ops.size → RR C base (Sof C listed) q a w g O → ∀ (p : Nat) (i : DIns), C.ins[p]? = some i → i.ix ∈ Region.ready .any C.ops listed →
      ∀ k, C.before k p → Sof C listed k = true := by
    intro listed q a w g O hsz hR p i hi hr k ⟨ik, ip, hik, hip, hb⟩
    rw [hi] at hip; cases hip
    rw [hmust] at hb
    obtain ⟨o, ho, e, he, hbind, h⟩ := bits_edge hb
    obtain ⟨_, o', ho', hall⟩ := mem_ready.1 hr
    rw [ho] at ho'; cases ho'
    have hle := hall e he hbind
    rcases h with h | h
    · rw [Sof_at hik, ← h]; exact hle
    · have hlt := getD_lt hle
      rw [hsz] at hlt
      obtain ⟨p', i', hi', hix'⟩ := hcov _ hlt
      refine hR.down k p' ⟨ik, i', hik, hi', ?_⟩ ?_
      · rw [hmust, hix']; exact h
      · rw [Sof_at hi', hix']; exact hle
  -- nothing is ready: all have run
  have hnone : ∀ (listed : Array Bool), listed.size = C.ops.size → Region.ready .any C.ops listed = [] → ∀ j, j < C.ops.size → listed.getD j false = true := by
    intro listed hsz hr j
    induction j using Nat.strongRecOn with
    | _ j ih =>
      intro hj
      cases hl : listed.getD j false with
      | true => rfl
      | false =>
        exfalso
        have ho := Array.getElem?_eq_getElem hj
        have : j ∈ Region.ready .any C.ops listed := by
          refine mem_ready.2 ⟨by rw [getD_tf (by omega) true false]; exact hl, _, ho, ?_⟩
          intro e he hb
          have := edgesOk_spec hed ho he hb
          exact ih e.on this (by omega)
        rw [hr] at this
        simp at this
  have hfin : ∀ (listed : Array Bool) q a w g O, listed.size = C.ops.size → a.defers = C.env.ds → (∀ k, Sof C listed k = true → k < C.M) → RR C base (Sof C listed) q a w g O → Region.ready .any C.ops listed = [] → Q .normal a w := by
    intro listed q a w g O hsz hdf hdom hR hr
    have hall := hnone listed hsz hr
    have hS : ∀ k, k < C.ins.length → Sof C listed k = true := by
      intro k hk
      have hi := List.getElem?_eq_getElem hk
      rw [Sof_at hi]
      exact hall _ (hix _ _ hi)
    rcases hend with ⟨hM, hend⟩ | ⟨v, i, s', hi, _, _⟩
    · exact hend _ _ _ _ hdf hR.hist (all_done ok hR (fun k hk => hS k (by omega)) hM hdf)
    · have hlt := (List.getElem?_eq_some_iff.1 hi).1
      exact absurd (hdom _ (hS _ hlt)) (Nat.lt_irrefl _)
  intro fuel
  induction fuel with
  | zero =>
    intro listed q a w g O hrest hsz hdf hdom hR
    have hr : Region.ready .any C.ops listed = [] := by
      cases hc : Region.ready .any C.ops listed with
      | nil => rfl
      | cons j l =>
        exfalso
        have hj : j ∈ Region.ready .any C.ops listed := by rw [hc]; exact List.mem_cons_self ..
        obtain ⟨h1, o, ho, _⟩ := mem_ready.1 hj
        have hlt := (Array.getElem?_eq_some_iff.1 ho).1
        have : j ∈ (List.range C.ops.size).filter fun j => !listed.getD j true := by
          refine List.mem_filter.2 ⟨List.mem_range.2 hlt, ?_⟩
          rw [h1]; rfl
        have := List.length_pos_of_mem this
        unfold rest at hrest
        omega
    exact ⟨hr, hfin listed q a w g O hsz hdf hdom hR hr⟩
  | succ fuel ih =>
    intro listed q a w g O hrest hsz hdf hdom hR
    refine ⟨fun hr => hfin listed q a w g O hsz hdf hdom hR hr, ?_⟩
    intro j hj
    obtain ⟨h1, o, ho, _⟩ := mem_ready.1 hj
    have hlt := (Array.getElem?_eq_some_iff.1 ho).1
    obtain ⟨p, i, hi, hij⟩ := hcov j hlt
    subst hij
    have hS : Sof C listed p = false := by rw [Sof_at hi, getD_tf (by omega) false true]; exact h1
    have hen' := hen listed q a w g O hsz hR p i hi hj
    rcases Nat.lt_trichotomy p C.M with h | h | h
    · refine op_step ok hcs fit hR hi h hS hen' ?_
      intro a' q' w' g' O' hdf' hR'
      have e : add (Sof C listed) p = Sof C (listed.setIfInBounds i.ix true) := by
        funext k
        by_cases hk : k = p
        · subst hk
          rw [add_self, Sof_at hi]
          simp [hsz, hlt]
        · rw [add_ne hk]
          unfold Sof
          cases hik : C.ins[k]? with
          | none => rfl
          | some ik =>
            simp only
            have : i.ix ≠ ik.ix := fun e => hk (huniq k p ik i hik hi e.symm)
            rw [getD_set_ne _ this]
      rw [e] at hR'
      refine ih _ q' a' w' g' O' ?_ (by simp [hsz]) (hdf'.trans hdf) ?_ hR'
      · have : rest (listed.setIfInBounds i.ix true) C.ops.size < rest listed C.ops.size := by
          unfold rest
          refine filter_drop (f := fun j => !listed.getD j true) (f' := fun j => !(listed.setIfInBounds i.ix true).getD j true) ?_ i.ix (List.mem_range.2 hlt) (by rw [h1]; rfl) ?_
          · intro x _ hx
            by_cases hxi : i.ix = x
            · subst hxi
              simp [hsz, hlt] at hx
            · rw [getD_set_ne _ hxi] at hx; exact hx
          · simp [hsz, hlt]
        omega
      · intro k hk
        rw [← e] at hk
        by_cases hkp : k = p
        · omega
        · rw [add_ne hkp] at hk; exact hdom k hk
    · subst h
      rcases hend with ⟨hM, _⟩ | ⟨v, i', s', hi', hs, hQ⟩
      · have := (List.getElem?_eq_some_iff.1 hi).1
        omega
      · rw [hi] at hi'; cases hi'
        exact op_panic ok hcs fit hR hi hS hen' hs (fun y w' g' O' h1 h2 h3 => hQ _ _ _ _ _ hdf hR.frame h1 h2 h3)
    · exfalso
      rcases hend with ⟨hM, _⟩ | ⟨v, i', s', hi', hs, hQ⟩
      · have := (List.getElem?_eq_some_iff.1 hi).1
        omega
      · have hb : C.before C.M p := by
          have := ok.hpair C.M p i' i h hi' hi
          refine ⟨i', i, hi', hi, ?_⟩
          rcases stepIns_panic hs with ⟨f, l, hop⟩ | ⟨x, hop⟩ <;> simpa [pairOk, hop] using this
        exact absurd (hdom _ (hen' _ hb)) (Nat.lt_irrefl _)

end

end Go.Zd
namespace Go.Zd

variable {P : Program} {F : Nat → Option DFn} {rec : Rec} {base : Nat}

theorem protL_spec {tm : List (Nat × DV)} : ∀ {l : List Nat} {L : List (Nat × Nat)}, protL tm l = some L → ∀ e ∈ L, ∃ t off, look tm t = .ptr e.2 off
  | [], L, h, e, he => by cases h; simp at he
  | t :: r, L, h, e, he => by
    unfold protL at h
    split at h
    · rename_i b o l h1 h2
      cases h
      rcases List.mem_cons.1 he with rfl | he
      · exact ⟨t, o, h1⟩
      · exact protL_spec h2 e he
    · rename_i h2; cases h; exact protL_spec h2 e he
    · cases h

theorem restrict_look [LowPred] (tm : List (Nat × DV)) (live : Option (List Nat)) (t : Nat) : look (restrict tm live) t = look tm t ∨ look (restrict tm live) t = .undef := by
  cases live with
  | none => exact .inl rfl
  | some l =>
    simp only [restrict]
    by_cases h : t ∈ l
    · exact .inl ((look_map _ t).1 h)
    · exact .inr ((look_map _ t).2 h)

theorem SR.restrict [LowPred] {E : Env} {a : Act} {w : World} {g : Gh} {O : Nat → Loc} {st : St} (h : SR base E a w g O st) (live : Option (List Nat)) : SR base E a w g O { st with tm := restrict st.tm live } := by
  refine ⟨h.size, h.defers, h.frame, h.inv, ?_, ?_⟩
  · intro t
    rcases restrict_look st.tm live t with h1 | h1
    · simp only [h1]; exact h.slots t
    · simp only [h1]; exact .undef _
  · intro t ht
    rcases restrict_look st.tm live t with h1 | h1
    · simp only [h1] at ht; exact h.own t ht
    · simp only [h1] at ht; cases ht

theorem hist_heap {w w1 : World} {g : Gh} {O : Nat → Loc} {PR : List Nat} (h : w1.heap = w.heap) (ho : w1.os = w.os) (hp : w1.output = w.output) (ht : w1.tape = w.tape) : Hist w g O base PR w1 g O := by
  refine ⟨.refl g, fun _ h => ⟨h, rfl⟩, fun _ _ _ => by rw [h], fun _ _ => by rw [h], by rw [h]; exact Nat.le_refl _, ho, hp, ht, ?_⟩
  intro i _ cs E fr hc
  exact ⟨cs, by rw [h]; exact hc, rfl⟩

theorem start [LowPred] {C : Ctx} (ok : C.Ok P F rec base) {a : Act} {st : St} {L : List (Nat × Nat)} (h0 : C.tr 0 = ⟨st, L⟩) (hSR : SR base C.env a C.w0 C.g0 C.O0 st) : ∃ q, RR C base (fun _ => false) q a C.w0 C.g0 C.O0 := by
  obtain ⟨q, h1, h2, h3, h4⟩ := C.next 0 (Nat.zero_le _)
  obtain ⟨s1, s2, s3⟩ := ok.still h1 h2 h3
  have hst : (C.tr 0).st = st := by rw [h0]
  refine ⟨q, .refl _ _ _ _ _, by rw [s1, hst]; exact hSR.inv, h2, h4, ?_, fun _ _ _ => rfl, fun _ _ _ h => h, hSR.size, hSR.frame, ?_, ?_, fun _ _ => rfl, ?_, ?_⟩
  · intro k hk hE
    rw [h3 k (Nat.zero_le _) hk] at hE; cases hE
  · intro t
    rw [C.cur_stop (Nat.zero_le _) (fun k _ _ h => by cases h)]
    simp only [Ctx.cur, hst]
    exact hSR.slots t
  · intro t ht _
    obtain ⟨b1, _⟩ := s3 t ht
    rw [← b1, hst] at ht
    exact hSR.own t ht
  · intro r i x b h; cases h
  · intro r i x root b h; cases h

theorem region_sim [LowPred] (hm : P.follows .mixedOrders = true) (hrk : RecKeeps rec) (hcs : CallSim P F rec base) {ann : Ann} {id : Nat} {E : Env} {ops : Array Oper} {draw : Bool} {d : DCode}
    (hc : compRegion P ann id ops draw = some d) (hcode : codeOk E.n d = true) (hcW : codeW E.W d = true) {PR : List Nat} {st st' : St} {ex : Ex} (hx : execB F rec PR d st = some (ex, st'))
    {a : Act} {w : World} {g : Gh} {O : Nat → Loc} (hSR : SR base E a w g O st) : (Code.region id ops draw).wp P (Post base E PR w g O ex st') a w := by
  unfold compRegion at hc
  split at hc
  · cases hc
  · rename_i ins hins
    split at hc
    · rename_i hcond
      cases hc
      simp only [Bool.and_eq_true] at hcond
      obtain ⟨hcond, happ⟩ := hcond
      simp only [codeOk] at hcode
      simp only [codeW] at hcW
      unfold execB at hx
      split at hx
      · cases hx
      · rename_i L hL
        -- the trace
        obtain ⟨hlen, hspec⟩ := compIns_spec hins
        have hrun : ∃ x s', runIns F rec PR draw ins ⟨st, L⟩ = some (x, s') := by
          split at hx
          · rename_i h; exact ⟨_, _, h⟩
          · rename_i h; exact ⟨_, _, h⟩
          · cases hx
        obtain ⟨x, s', hrun⟩ := hrun
        rw [hrun] at hx
        obtain ⟨M, hM, htr, hfin⟩ := trace_end hrun
        let must : Nat → Nat → Bool := if draw then bits (Region.before ops) else fun i j => decide (i < j)
        let C : World → Ctx := fun w1 => ⟨PR, ops, ins, draw, must, trace F rec PR draw ins ⟨st, L⟩, M, w1, g, O, E⟩
        have hix0 : draw = false → ∀ (p : Nat) i, ins[p]? = some i → i.ix = p := by
          intro hd p i hi
          have h1 := (hspec p i hi).1
          simp only [orderOf, hd, Bool.false_eq_true, if_false] at h1
          have hlt := (List.getElem?_eq_some_iff.1 hi).1
          rw [hlen] at hlt
          simp only [orderOf, hd, Bool.false_eq_true, if_false, List.length_range] at hlt
          rw [List.getElem?_range hlt] at h1
          exact (Option.some.inj h1).symm
        have hnL : ∀ e ∈ L, e.2 < g.n := by
          intro e he
          obtain ⟨t, off, ht⟩ := protL_spec hL e he
          have := hSR.slots t
          rw [ht] at this
          generalize a.tmps.getD t undef = v at this
          cases this
          assumption
        have ok : ∀ w1, (C w1).Ok P F rec base := by
          intro w1
          refine ⟨hM, htr, ?_, ?_, ?_, hrk, ?_, ?_⟩
          · intro p r i j hpr hi hj
            cases hd : draw with
            | true =>
              simp only [regionOk, hd, Bool.not_true, Bool.false_or, Bool.and_eq_true] at hcond
              have := allPairs_spec hcond.2 hpr hi hj
              have e : (C w1).must = bits (Region.before ops) := by show must = _; simp only [must, hd, if_true]
              rw [e]
              exact this
            | false =>
              have h1 := hix0 hd p i hi
              have h2 := hix0 hd r j hj
              have e : (C w1).must i.ix j.ix = true := by
                show must i.ix j.ix = true
                simp only [must, hd, h1, h2]
                simpa using hpr
              simp only [pairOk, e, Bool.true_or]
          · intro p i t hi ht
            have := List.all_eq_true.1 hcode i (List.mem_of_getElem? hi)
            rw [ht] at this
            simp only [Bool.and_eq_true] at this
            exact Nat.le_of_ble_eq_true this.2
          · intro p i t hi ht
            have := List.all_eq_true.1 hcW i (List.mem_of_getElem? hi)
            rw [ht] at this
            exact this
          · intro hd p r i j hi hj hpr
            have hd' : draw = false := hd
            have h1 := hix0 hd' p i hi
            have h2 := hix0 hd' r j hj
            show must i.ix j.ix = true
            simp only [must, hd', h1, h2]
            simpa using hpr
          · simp only [C, trace_zero]
            exact hSR.inv.num
        have fit : ∀ w1, (C w1).Fit P := by
          intro w1
          refine ⟨?_, ?_, happ⟩
          · intro p i hi
            obtain ⟨_, o, ho, hco, hd, hg⟩ := hspec p i hi
            have hs := List.all_eq_true.1 hcode i (List.mem_of_getElem? hi)
            simp only [Bool.and_eq_true] at hs
            refine ⟨o, by simpa using ho, hco, hd, hs.1, ?_⟩
            split
            · rename_i hog; rw [hog] at hg; exact hg
            · rename_i j b hog
              rw [hog] at hg
              obtain ⟨t, oj, h1, h2, h3⟩ := hg
              exact ⟨t, oj, by simpa using h1, h2, h3⟩
          · intro e he
            simp only [C, trace_zero] at he
            exact hnL e he
        have hend : ∀ w1, Hist w g O base PR w1 g O → (((C w1).M = (C w1).ins.length ∧ ∀ a w g' O', a.defers = (C w1).env.ds → Hist (C w1).w0 (C w1).g0 (C w1).O0 base (C w1).PR w g' O' → SR base (C w1).env a w g' O' ((C w1).tr (C w1).M).st → Post base E PR (C w1).w0 g O ex st' .normal a w) ∨
            (∃ v i s'', (C w1).ins[(C w1).M]? = some i ∧ stepIns F rec (C w1).PR (C w1).draw i ((C w1).tr (C w1).M) = some (some v, s'') ∧
              ∀ a y w g' O', a.defers = (C w1).env.ds → (∀ t, (C w1).env.W t = false → a.tmps.getD t undef = (C w1).env.T t) → VR g' y v → Inv w g' O' s''.st.H base → Hist (C w1).w0 (C w1).g0 (C w1).O0 base (C w1).PR w g' O' → Post base E PR (C w1).w0 g O ex st' (.panic [{ v := y, recovered := false }]) a w)) := by
          intro w1 hh1
          rcases hfin with ⟨hx0, hMl, htM⟩ | ⟨v, i, hx0, hi, hst⟩
          · subst hx0
            cases hx
            refine .inl ⟨hMl, ?_⟩
            intro a w' g' O' hdf hh hS
            refine ⟨hdf, hS.frame, g', O', hh, rfl, ?_⟩
            have : ((C w1).tr (C w1).M).st = s'.st := by simp only [C]; rw [htM]
            rw [this] at hS
            exact hS.restrict _
          · subst hx0
            cases hx
            refine .inr ⟨v, i, s', hi, hst, ?_⟩
            intro a y w' g' O' hdf hfr hv hI hh
            exact ⟨hdf, hfr, g', O', hh, y, rfl, hv, hI⟩
        cases hd : draw with
        | true =>
          simp only [regionOk, hd, Bool.not_true, Bool.false_or, Bool.and_eq_true] at hcond
          obtain ⟨⟨⟨⟨hol, hcv⟩, hed⟩, hnd⟩, _⟩ := hcond
          have hh1 : Hist w g O base PR { w with drawn := w.drawn + 1 } g O := hist_heap rfl rfl rfl rfl
          have hI1 : Inv { w with drawn := w.drawn + 1 } g O st.H base := hSR.inv.of_heap rfl
          obtain ⟨q, hR⟩ := start (ok { w with drawn := w.drawn + 1 }) (st := st) (L := L) (a := a) (trace_zero _ _ _ _) ⟨hSR.size, hSR.defers, hSR.frame, hI1, hSR.slots, hSR.own⟩
          refine wp_region_any hm ?_
          have hsof : Sof (C { w with drawn := w.drawn + 1 }) (Array.replicate ops.size false) = fun _ => false := by
            funext k
            unfold Sof
            split
            · simp only [Array.getD_eq_getD_getElem?, Array.getElem?_replicate]
              split <;> rfl
            · rfl
          have hcov : ∀ j, j < ops.size → ∃ (p : Nat) (i : DIns), ins[p]? = some i ∧ i.ix = j := by
            intro j hj
            have := List.all_eq_true.1 hcv j (List.mem_range.2 (by simpa using hj))
            obtain ⟨p, hp, hpj⟩ := List.getElem_of_mem (List.contains_iff_mem.1 this)
            have hp' : p < ins.length := by rw [hlen, hd]; exact hp
            have hi := List.getElem?_eq_getElem hp'
            refine ⟨p, _, hi, ?_⟩
            have h1 := (hspec p _ hi).1
            rw [hd, List.getElem?_eq_getElem hp, hpj] at h1
            exact (Option.some.inj h1).symm
          refine run_any (ok _) hcs (fit _) (by simp [C, must, hd]) hed hcov ?_ ?_ ?_ _ _ q _ _ _ _ ?_ (by simp [C]) hSR.defers ?_ (by rw [hsof]; exact hR)
          · intro p i hi
            obtain ⟨_, o, ho, _⟩ := hspec p i hi
            have := (List.getElem?_eq_some_iff.1 ho).1
            simpa using this
          · intro p r i j hi hj hij
            rcases Nat.lt_trichotomy p r with h | h | h
            · have := allPairs_spec hnd h hi hj
              simp [hij] at this
            · exact h
            · have := allPairs_spec hnd h hj hi
              simp [hij] at this
          · rcases hend _ hh1 with ⟨h1, h2⟩ | ⟨v, i, s'', h1, h2, h3⟩
            · refine .inl ⟨h1, fun a' w' g' O' hdf hh hS => ?_⟩
              obtain ⟨k1, k0, g2, O2, k2, k3⟩ := h2 a' w' g' O' hdf hh hS
              exact ⟨k1, k0, g2, O2, hh1.trans k2, k3⟩
            · refine .inr ⟨v, i, s'', h1, h2, fun a' y w' g' O' hdf hfr hv hI hh => ?_⟩
              obtain ⟨k1, k0, g2, O2, k2, k3⟩ := h3 a' y w' g' O' hdf hfr hv hI hh
              exact ⟨k1, k0, g2, O2, hh1.trans k2, k3⟩
          · unfold rest
            refine Nat.le_trans (List.length_filter_le _ _) ?_
            simp [C]
          · intro k hk
            rw [hsof] at hk; cases hk
        | false =>
          obtain ⟨q, hR⟩ := start (ok w) (st := st) (L := L) (a := a) (trace_zero _ _ _ _) hSR
          refine wp_region ?_
          have hix := hix0 hd
          have hbf : ∀ k p, (C w).before k p → k < p := by
            intro k p ⟨i, j, hi, hj, hb⟩
            simpa [C, must, hd, hix k i hi, hix p j hj] using hb
          have hll : ins.length = ops.size := by rw [hlen]; simp [orderOf, hd]
          have hsq : ∀ k p, k < p → p < (C w).ins.length → (C w).before k p := by
            intro k p hk hp
            have h1 := List.getElem?_eq_getElem (Nat.lt_trans hk hp)
            have h2 := List.getElem?_eq_getElem hp
            refine ⟨_, _, h1, h2, ?_⟩
            simp [C, must, hd, hix k _ h1, hix p _ h2, hk]
          have h0 : (fun _ : Nat => false) = fun k => decide (k < 0) := by funext k; simp
          rw [h0] at hR
          have := run_listed (ok w) hcs (fit w) hix hll hsq hbf (hend w (.refl _ _ _ _ _)) _ 0 q a w g O rfl (Nat.zero_le _) hSR.defers hR
          rw [List.range_eq_range']
          simpa [C] using this
    · cases hc

end Go.Zd
