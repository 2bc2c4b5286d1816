/- Steps of the abstract run, forward alone: what comes behind is kept as data. -/
import Derived.Test.YthcoldfgpigdhaaGreatDoorZA
import Derived.Test.YthcoldfgpigdhaaGreatDoorZSLeaf
namespace Go.Zd

section
variable (F : Nat → Option DFn) (rec : Rec) (PR : List Nat)

def bindE (o : Option (Ex × St)) (b : DCode) : Option (Ex × St) := match o with
  | some (.normal, st) => execB F rec PR b st
  | x => x
def condE (v : DV) (a b : DCode) (st : St) : Option (Ex × St) := match v with
  | .bool true => execB F rec PR a st
  | .bool false => execB F rec PR b st
  | _ => none
def blockE (o : Option (Ex × St)) (id : Nat) : Option (Ex × St) := match o with
  | some (.exit i, st) => cond (Nat.beq i id) (some (.normal, st)) (some (.exit i, st))
  | x => x
def loopE (o : Option (Ex × St)) (a : DCode) : Option (Ex × St) := match o with
  | some (.normal, st) => rec PR (.loop a) st
  | x => x
def regF (o : Option (Option DV × RSt)) (live : Option (List Nat)) : Option (Ex × St) := match o with
  | some (none, s) => some (.normal, { s.st with tm := restrict s.st.tm live })
  | some (some v, s) => some (.panic v, s.st)
  | none => none
def regE (o : Option (List (Nat × Nat))) (ins : List DIns) (live : Option (List Nat)) (draw : Bool) (st : St) : Option (Ex × St) := match o with
  | none => none
  | some L => regF (runIns F rec PR draw ins ⟨st, L⟩) live
def bindI (draw : Bool) (o : Option (Option DV × RSt)) (r : List DIns) : Option (Option DV × RSt) := match o with
  | some (none, s) => runIns F rec PR draw r s
  | x => x
def guardE (draw : Bool) (v : DV) (want : Bool) (i : DIns) (s : RSt) : Option (Option DV × RSt) := match v with
  | .bool b => cond (b == want) (opDV F rec PR draw s i) (some (none, { s with st := setDst s.st i.dst (.tuple []) }))
  | .tuple [] => some (none, { s with st := setDst s.st i.dst (.tuple []) })
  | _ => none
def finF (o : Option (Ex × St)) (res : List DRes) (keep : Bool) (n : Nat) : Option (Out × List (List DV)) := match o with
  | some (.panic v, st) => outOf keep n st.H v .panic
  | some (.exit _, _) => none
  | some (_, st) => (match resOf st res with
    | some v => outOf keep n st.H v .ret
    | none => none)
  | none => none

variable {F : Nat → Option DFn} {rec : Rec} {PR : List Nat} {st : St} {a b : DCode}

theorem exec_succ {k : Nat} {c : DCode} : exec F (k + 1) PR c st = execB F (exec F k) PR c st := rfl
theorem execB_skip : execB F rec PR .skip st = some (.normal, st) := rfl
theorem execB_seq : execB F rec PR (.seq a b) st = bindE F rec PR (execB F rec PR a st) b := by
  conv => lhs; unfold execB
  unfold bindE
  rcases execB F rec PR a st with _ | ⟨ex, s⟩
  · rfl
  · cases ex <;> rfl
theorem bindE_normal : bindE F rec PR (some (.normal, st)) b = execB F rec PR b st := rfl
theorem bindE_exit {i : Nat} : bindE F rec PR (some (.exit i, st)) b = some (.exit i, st) := rfl
theorem bindE_ret : bindE F rec PR (some (.ret, st)) b = some (.ret, st) := rfl
theorem bindE_panic {v : DV} : bindE F rec PR (some (.panic v, st)) b = some (.panic v, st) := rfl
theorem execB_cond {x : DX} : execB F rec PR (.cond x a b) st = condE F rec PR (rdc st.tm x) a b st := by
  conv => lhs; unfold execB
  unfold condE
  cases rdc st.tm x <;> rfl
theorem condE_true : condE F rec PR (.bool true) a b st = execB F rec PR a st := rfl
theorem condE_false : condE F rec PR (.bool false) a b st = execB F rec PR b st := rfl
theorem execB_block {id : Nat} : execB F rec PR (.block id a) st = blockE (execB F rec PR a st) id := by
  conv => lhs; unfold execB
  unfold blockE
  rcases execB F rec PR a st with _ | ⟨ex, s⟩
  · rfl
  · cases ex <;> rfl
theorem blockE_normal {id : Nat} : blockE (some (.normal, st)) id = some (.normal, st) := rfl
theorem blockE_exit {id i : Nat} : blockE (some (.exit i, st)) id = cond (Nat.beq i id) (some (.normal, st)) (some (.exit i, st)) := rfl
theorem blockE_ret {id : Nat} : blockE (some (.ret, st)) id = some (.ret, st) := rfl
theorem blockE_panic {id : Nat} {v : DV} : blockE (some (.panic v, st)) id = some (.panic v, st) := rfl
theorem execB_loop : execB F rec PR (.loop a) st = loopE rec PR (execB F rec PR a st) a := by
  conv => lhs; unfold execB
  unfold loopE
  rcases execB F rec PR a st with _ | ⟨ex, s⟩
  · rfl
  · cases ex <;> rfl
theorem loopE_normal : loopE rec PR (some (.normal, st)) a = rec PR (.loop a) st := rfl
theorem loopE_exit {i : Nat} : loopE rec PR (some (.exit i, st)) a = some (.exit i, st) := rfl
theorem loopE_ret : loopE rec PR (some (.ret, st)) a = some (.ret, st) := rfl
theorem loopE_panic {v : DV} : loopE rec PR (some (.panic v, st)) a = some (.panic v, st) := rfl
theorem execB_exit {id : Nat} : execB F rec PR (.exit id) st = some (.exit id, st) := rfl
theorem execB_ret : execB F rec PR .ret st = some (.ret, st) := rfl
theorem execB_region {ins : List DIns} {live : Option (List Nat)} {prot : List Nat} {draw : Bool} : execB F rec PR (.region ins live prot draw) st = regE F rec PR (protL st.tm prot) ins live draw st := by
  conv => lhs; unfold execB
  unfold regE
  simp only []
  cases protL st.tm prot with
  | none => rfl
  | some L =>
    simp only [regF]
    rcases runIns F rec PR draw ins ⟨st, L⟩ with _ | ⟨x, s⟩
    · rfl
    · cases x <;> rfl
theorem regE_some {L : List (Nat × Nat)} {ins : List DIns} {live : Option (List Nat)} {draw : Bool} : regE F rec PR (some L) ins live draw st = regF (runIns F rec PR draw ins ⟨st, L⟩) live := rfl
theorem regF_none {s : RSt} {live : Option (List Nat)} : regF (some (none, s)) live = some (.normal, { s.st with tm := restrict s.st.tm live }) := rfl
theorem regF_some {s : RSt} {live : Option (List Nat)} {v : DV} : regF (some (some v, s)) live = some (.panic v, s.st) := rfl
theorem runIns_nil {draw : Bool} {s : RSt} : runIns F rec PR draw [] s = some (none, s) := rfl
theorem runIns_cons {draw : Bool} {i : DIns} {r : List DIns} {s : RSt} : runIns F rec PR draw (i :: r) s = bindI F rec PR draw (stepIns F rec PR draw i s) r := by
  conv => lhs; unfold runIns
  unfold bindI
  rcases stepIns F rec PR draw i s with _ | ⟨x, s⟩
  · rfl
  · cases x <;> rfl
theorem bindI_none {draw : Bool} {r : List DIns} {s : RSt} : bindI F rec PR draw (some (none, s)) r = runIns F rec PR draw r s := rfl
theorem bindI_some {draw : Bool} {r : List DIns} {s : RSt} {v : DV} : bindI F rec PR draw (some (some v, s)) r = some (some v, s) := rfl
theorem stepIns_none {draw : Bool} {s : RSt} {ix : Nat} {d : Option Nat} {op : DOp} : stepIns F rec PR draw ⟨ix, d, none, op⟩ s = opDV F rec PR draw s ⟨ix, d, none, op⟩ := rfl
theorem stepIns_some {draw : Bool} {s : RSt} {ix : Nat} {d : Option Nat} {op : DOp} {g : Nat} {w : Bool} : stepIns F rec PR draw ⟨ix, d, some (g, w), op⟩ s = guardE F rec PR draw (look s.st.tm g) w ⟨ix, d, some (g, w), op⟩ s := by
  unfold stepIns guardE
  simp only []
  cases look s.st.tm g <;> rfl
theorem guardE_bool {draw : Bool} {s : RSt} {i : DIns} {c w : Bool} : guardE F rec PR draw (.bool c) w i s = cond (c == w) (opDV F rec PR draw s i) (some (none, { s with st := setDst s.st i.dst (.tuple []) })) := rfl
theorem guardE_tt {draw : Bool} {s : RSt} {i : DIns} : guardE F rec PR draw (.bool true) true i s = opDV F rec PR draw s i := rfl
theorem guardE_ff {draw : Bool} {s : RSt} {i : DIns} : guardE F rec PR draw (.bool false) false i s = opDV F rec PR draw s i := rfl
theorem guardE_tf {draw : Bool} {s : RSt} {i : DIns} : guardE F rec PR draw (.bool true) false i s = some (none, { s with st := setDst s.st i.dst (.tuple []) }) := rfl
theorem guardE_ft {draw : Bool} {s : RSt} {i : DIns} : guardE F rec PR draw (.bool false) true i s = some (none, { s with st := setDst s.st i.dst (.tuple []) }) := rfl
theorem guardE_tuple {draw : Bool} {s : RSt} {i : DIns} {w : Bool} : guardE F rec PR draw (.tuple []) w i s = some (none, { s with st := setDst s.st i.dst (.tuple []) }) := rfl

theorem callF_code {f : Nat} {args : List DV} {H : List (List DV)} {body : DCode} {res : List DRes} {keep : Bool} (hF : F f = some (.code body res keep)) :
    callF F rec PR f args H = finF (rec PR body ⟨enterTm args, H⟩) res keep H.length := by
  unfold callF finF
  simp only [hF]
  rcases rec PR body ⟨enterTm args, H⟩ with _ | ⟨ex, s⟩
  · rfl
  · cases ex <;> first | rfl | (simp only []; cases resOf s res <;> rfl)
theorem finF_panic {v : DV} {res : List DRes} {keep : Bool} {n : Nat} : finF (some (.panic v, st)) res keep n = outOf keep n st.H v .panic := rfl
def finV (o : Option DV) (keep : Bool) (n : Nat) (H : List (List DV)) : Option (Out × List (List DV)) := match o with
  | some v => outOf keep n H v .ret
  | none => none
theorem finF_ret {res : List DRes} {keep : Bool} {n : Nat} : finF (some (.ret, st)) res keep n = finV (resOf st res) keep n st.H := by
  unfold finF finV
  simp only []
theorem finF_normal {res : List DRes} {keep : Bool} {n : Nat} : finF (some (.normal, st)) res keep n = finV (resOf st res) keep n st.H := by
  unfold finF finV
  simp only []
theorem finV_some {keep : Bool} {n : Nat} {H : List (List DV)} {v : DV} : finV (some v) keep n H = outOf keep n H v .ret := rfl
end

end Go.Zd
namespace Go.Zd
open Go.Zd Fast
set_option maxRecDepth 100000

/-- eleven cells that may lie anywhere -/
structure Ex11 (cs : List DV) : Prop where
  len : cs.length = 11
  plain : cs.all DV.plain1 = true

theorem plain_clean {v : DV} (h : v.plain1 = true) : v.clean1 = v := by
  cases v <;> try rfl
  rename_i fl _ _
  cases fl <;> first | rfl | cases h
theorem plain_cell {v : DV} (h : v.plain1 = true) (b : Nat) : v.cellOk b = true := by
  cases v <;> first | rfl | cases h
theorem plain_ptrs {v : DV} (h : v.plain1 = true) (n : Nat) : v.ptrsLt n = true := by
  cases v <;> first | rfl | cases h
theorem Ex11.clean {cs : List DV} (h : Ex11 cs) : cs.map DV.clean1 = cs := by
  have : ∀ l : List DV, l.all DV.plain1 = true → l.map DV.clean1 = l := by
    intro l
    induction l with
    | nil => intro _; rfl
    | cons v r ih =>
      intro hv
      simp only [List.all_cons, Bool.and_eq_true] at hv
      rw [List.map_cons, plain_clean hv.1, ih hv.2]
  exact this cs h.plain
theorem Ex11.cell {cs : List DV} (h : Ex11 cs) (b : Nat) : (∀ x ∈ cs, x.cellOk b = true) :=
  fun x hx => plain_cell (List.all_eq_true.1 h.plain x hx) b
theorem Ex11.ptrs {cs : List DV} (h : Ex11 cs) (n : Nat) : DV.ptrsLtL n cs = true := by
  have : ∀ l : List DV, l.all DV.plain1 = true → DV.ptrsLtL n l = true := by
    intro l
    induction l with
    | nil => intro _; rfl
    | cons v r ih =>
      intro hv
      simp only [List.all_cons, Bool.and_eq_true] at hv
      simp only [DV.ptrsLtL, plain_ptrs hv.1, ih hv.2, Bool.and_self]
  exact this cs h.plain
theorem Ex11.take {cs : List DV} (h : Ex11 cs) : cs.take 11 = cs := List.take_of_length_le (Nat.le_of_eq h.len)
theorem Ex11.cellT {cs : List DV} (h : Ex11 cs) (b : Nat) : (∀ x, x ∈ cs → DV.cellOk b x = true) = True := eq_true (h.cell b)
theorem pl_bool {c : Bool} : DV.plain1 (.bool c) = true := rfl
theorem pl_int {k : IntKind} {n : Int} : DV.plain1 (.int k n) = true := rfl
theorem pl_str {s : List UInt8} : DV.plain1 (.str s) = true := rfl
theorem pl_nilptr : DV.plain1 .nilptr = true := rfl
theorem pl_nilfunc : DV.plain1 .nilfunc = true := rfl
theorem pl_niliface : DV.plain1 .niliface = true := rfl
theorem pl_nilslice : DV.plain1 .nilslice = true := rfl
theorem pl_sh {w : Nat} {es : List DV} : DV.plain1 (.slice .sh w es) = true := rfl
theorem pl_ti {w : Nat} {es : List DV} : DV.plain1 (.slice .ti w es) = true := rfl
theorem ck_bool {b : Nat} {c : Bool} : DV.cellOk b (.bool c) = true := rfl
theorem ck_int {b : Nat} {k : IntKind} {n : Int} : DV.cellOk b (.int k n) = true := rfl
theorem ck_str {b : Nat} {s : List UInt8} : DV.cellOk b (.str s) = true := rfl
theorem ck_nilptr {b : Nat} : DV.cellOk b .nilptr = true := rfl
theorem ck_nilfunc {b : Nat} : DV.cellOk b .nilfunc = true := rfl
theorem ck_niliface {b : Nat} : DV.cellOk b .niliface = true := rfl
theorem ck_nilslice {b : Nat} : DV.cellOk b .nilslice = true := rfl
theorem ck_slice {b : Nat} {fl : Fl} {w : Nat} {es : List DV} : DV.cellOk b (.slice fl w es) = true := rfl

def Pr.to (p : Pr) (a : Nat) : Pr := { p with at' := a }

/-- nothing that is protected is the parser, or is new -/
def PrFree (PR : List Nat) (b : Nat) (H : HP) : Prop := ∀ x ∈ PR, x ≠ b ∧ x < H.length

theorem PrFree.prot {PR : List Nat} {b : Nat} {H : HP} (h : PrFree PR b H) {c : Nat} (hc : c = b ∨ H.length ≤ c) : protects PR [] c = false := by
  unfold protects
  simp only [List.any_nil, Bool.or_false, List.any_eq_false]
  intro x hx
  obtain ⟨h1, h2⟩ := h x hx
  rw [Fast.nat_beq]
  simp only [decide_eq_true_eq]
  omega
theorem PrFree.mono {PR : List Nat} {b : Nat} {H H' : HP} (h : PrFree PR b H) (hl : H.length ≤ H'.length) : PrFree PR b H' := fun x hx => ⟨(h x hx).1, Nat.lt_of_lt_of_le (h x hx).2 hl⟩
theorem PrFree.ok {PR : List Nat} {b : Nat} {H : HP} (h : PrFree PR b H) : prOk PR b H = true := by
  unfold prOk
  rw [allF_eq, List.all_eq_true]
  intro x hx
  obtain ⟨h1, h2⟩ := h x hx
  rw [lenF_eq, notF_eq, Fast.nat_beq, Fast.nat_beq]
  have e1 : decide (b = x) = false := by simpa using fun e => h1 e.symm
  have e2 : decide (H.length = x) = false := by simp; omega
  rw [e1, e2]
  rfl

/-- a function that parses an expression -/
def OkE (f : Nat) (g : Pr → Option (List DV × Nat)) (K : Nat) : Prop :=
  ∀ k, K ≤ k → ∀ PR b H p cs a, PrFree PR b H → H[b]? = some p.cells → g p = some (cs, a) →
    Ex11 cs ∧ callF FC (exec FC k) PR f [.ptr b 0] H = some (.ret (.agg cs), H.set b (p.to a).cells)

theorem prAt_eq {H : HP} {b : Nat} {p : Pr} (h : H[b]? = some p.cells) : prAt H b = some p := by
  unfold prAt
  rw [nthF_eq, h]
  rfl

/-- sign finds nothing -/
noncomputable def noSign (p : Pr) (ss : List UInt8) : Option Bool := match peekD p 0 with
  | some t => if t.2.1 = [] then some true else if t.1 = 3 then (match hasSign ss t.2.1 with
      | some c => some (!c)
      | none => none) else some true
  | none => none
theorem noSign_run {PR : List Nat} {b : Nat} {H : HP} {p : Pr} {ss : List UInt8} (hf : PrFree PR b H) (hb : H[b]? = some p.cells) (h : noSign p ss = some true) (rec : Rec) :
    callF FC rec PR 75 [.ptr b 0, .str ss] H = some (.ret (.str []), H) := by
  show signR PR [.ptr b 0, .str ss] H = _
  unfold noSign at h
  unfold signR
  simp only [hf.ok, prAt_eq hb]
  cases ht : peekD p 0 with
  | none => rw [ht] at h; cases h
  | some t =>
    rw [ht] at h
    simp only [] at h ⊢
    split at h
    · rename_i he
      rw [he]; rfl
    · rename_i he
      have he' : emptyF t.2.1 = false := by cases hx : t.2.1 with | nil => exact absurd hx he | cons _ _ => rfl
      rw [he']
      simp only []
      split at h
      · rename_i h3
        rw [eqF_eq, h3]
        cases hs : hasSign ss t.2.1 with
        | none => rw [hs] at h; cases h
        | some c =>
          rw [hs] at h
          cases c
          · rfl
          · cases h
      · rename_i h3
        rw [eqF_eq, show (t.1 == 3) = false by simpa using h3]

/-- compare -/
noncomputable def compareG (sum : Pr → Option (List DV × Nat)) (p : Pr) : Option (List DV × Nat) := match sum p with
  | some (cs, a) => match noSign (p.to a) [u 32, u 61, u 61, u 32, u 60, u 32] with
    | some true => some (cs, a)
    | _ => none
  | none => none

theorem compare_ok {sum : Pr → Option (List DV × Nat)} {K : Nat} (h74 : OkE 74 sum K) : OkE 33 (compareG sum) (K + 1) := by
  intro k hk PR b H p cs a hf hb hg
  obtain ⟨k, rfl⟩ : ∃ j, k = j + 1 := ⟨k - 1, by omega⟩
  unfold compareG at hg
  cases hs : sum p with
  | none => rw [hs] at hg; cases hg
  | some q =>
    obtain ⟨cs', a'⟩ := q
    rw [hs] at hg
    simp only [] at hg
    split at hg
    · rename_i hno
      cases hg
      obtain ⟨hbl, hb2⟩ := List.getElem?_eq_some_iff.1 hb
      have hE := (h74 k (by omega) PR b H p cs a hf hb hs).1
      refine ⟨hE, ?_⟩
      have c74 : ∀ z, callF FC (exec FC k) PR 74 [.ptr b 0] (H ++ [z]) = some (.ret (.agg cs), H.set b (p.to a).cells ++ [z]) := by
        intro z
        have := (h74 k (by omega) PR b (H ++ [z]) p cs a (hf.mono (by simp)) (by rw [List.getElem?_append_left hbl]; exact hb) hs).2
        rwa [List.set_append_left _ _ hbl] at this
      have c75 : ∀ z, callF FC (exec FC k) PR 75 [.ptr b 0, .str [u 32, u 61, u 61, u 32, u 60, u 32]] (H.set b (p.to a).cells ++ z) = some (.ret (.str []), H.set b (p.to a).cells ++ z) := by
        intro z
        exact noSign_run (hf.mono (by simp)) (by rw [List.getElem?_append_left (by simpa using hbl)]; simp [hbl]) hno _
      have hp1 := hf.prot (c := H.length) (.inr (Nat.le_refl _))
      have hp2 := hf.prot (c := H.length + 1) (.inr (Nat.le_succ _))
      rw [callF_code (f := 33) rfl, exec_succ]
      simp [execB_skip, execB_seq, bindE_normal, execB_cond, condE_false, execB_ret, execB_region, regE_some, regF_none, runIns_nil, runIns_cons, bindI_none, stepIns_none, finF_ret, finV_some, opDV, pureOp, protL, look, enterTm, rdc, rd, restrict, setDst, putV, callOp, loadOp, mayLoad, loadDV, storeTo, storeDV, mkCells, DV.clean1, lift, binDV, strOp, resOf, resVals, resVal, outOf, trunc, putAt, DV.cells, DV.ptrsLt, unown, Fast.nat_beq, c74, c75, hE.len, hE.clean, hE.take, hE.cellT, hE.ptrs, hp1, hp2]
    · cases hg


/-! ## the token in front -/

theorem takeNo {PR : List Nat} {b : Nat} {H : HP} {p : Pr} {t : Int × List UInt8 × Int} {w : List UInt8} (hf : PrFree PR b H) (hb : H[b]? = some p.cells) (ht : peekD p 0 = some t) (hw : strEqF t.2.1 w = false) (rec : Rec) :
    callF FC rec PR 30 [.ptr b 0, .str w] H = some (.ret (.bool false), H) := by
  show takeR PR [.ptr b 0, .str w] H = _
  simp only [takeR, hf.ok, prAt_eq hb, ht, hw]
theorem takeYes {PR : List Nat} {b : Nat} {H : HP} {p : Pr} {t : Int × List UInt8 × Int} {w : List UInt8} (hf : PrFree PR b H) (hb : H[b]? = some p.cells) (ht : peekD p 0 = some t) (hw : strEqF t.2.1 w = true) (ha : p.at' + 1 < 9223372036854775808) (rec : Rec) :
    callF FC rec PR 30 [.ptr b 0, .str w] H = some (.ret (.bool true), H.set b (p.to (p.at' + 1)).cells) := by
  show takeR PR [.ptr b 0, .str w] H = _
  simp only [takeR, hf.ok, prAt_eq hb, ht, hw, Pr.step]
  rw [show Nat.blt (p.at' + 1) 9223372036854775808 = true from Nat.ble_eq_true_of_le ha, setF_eq]
  rfl
theorem isIt {PR : List Nat} {b : Nat} {H : HP} {p : Pr} {t : Int × List UInt8 × Int} {w : List UInt8} (hf : PrFree PR b H) (hb : H[b]? = some p.cells) (ht : peekD p 0 = some t) (rec : Rec) :
    callF FC rec PR 72 [.ptr b 0, .str w] H = some (.ret (.bool (strEqF t.2.1 w)), H) := by
  show isR PR [.ptr b 0, .str w] H = _
  simp only [isR, hf.ok, prAt_eq hb, ht]
theorem peekIt {PR : List Nat} {b : Nat} {H : HP} {p : Pr} {t : Int × List UInt8 × Int} (hf : PrFree PR b H) (hb : H[b]? = some p.cells) (ht : peekD p 0 = some t) (rec : Rec) :
    callF FC rec PR 47 [.ptr b 0, .int .i64 0] H = some (.ret (.agg [.int .i64 t.1, .str t.2.1, .int .i64 t.2.2]), H) := by
  show peekR PR [.ptr b 0, .int .i64 ((0 : Nat) : Int)] H = _
  exact peekR_eq hf.ok (prAt_eq hb) ht
theorem posIt {PR : List Nat} {b : Nat} {H : HP} {p : Pr} {t : Int × List UInt8 × Int} (hf : PrFree PR b H) (hb : H[b]? = some p.cells) (ht : peekD p 0 = some t) (rec : Rec) :
    callF FC rec PR 29 [.ptr b 0] H = some (.ret (.int .i64 t.2.2), H) := by
  show posR PR [.ptr b 0] H = _
  simp only [posR, hf.ok, prAt_eq hb, ht]

/-- expect finds what it wants -/
noncomputable def isText (p : Pr) (w : List UInt8) : Option Bool := match peekD p 0 with
  | some t => cond (Nat.blt (p.at' + 1) 9223372036854775808) (some (strEqF t.2.1 w)) none
  | none => none
theorem isText_some {p : Pr} {w : List UInt8} {c : Bool} (h : isText p w = some c) : ∃ t, peekD p 0 = some t ∧ strEqF t.2.1 w = c ∧ p.at' + 1 < 9223372036854775808 := by
  unfold isText at h
  cases ht : peekD p 0 with
  | none => rw [ht] at h; cases h
  | some t =>
    rw [ht] at h
    simp only [] at h
    cases hb : Nat.blt (p.at' + 1) 9223372036854775808
    · rw [hb] at h; cases h
    · rw [hb] at h
      cases h
      exact ⟨t, rfl, rfl, Nat.le_of_ble_eq_true hb⟩

theorem expect_ok {PR : List Nat} {b : Nat} {H : HP} {p : Pr} {w : List UInt8} (hf : PrFree PR b H) (hb : H[b]? = some p.cells) (h : isText p w = some true) (k : Nat) :
    callF FC (exec FC (k + 1)) PR 32 [.ptr b 0, .str w] H = some (.ret (.tuple []), H.set b (p.to (p.at' + 1)).cells) := by
  obtain ⟨t, ht, hw, ha⟩ := isText_some h
  have c30 := takeYes hf hb ht hw ha (exec FC k)
  have htk : List.take H.length (H.set b (p.to (p.at' + 1)).cells) = H.set b (p.to (p.at' + 1)).cells := List.take_of_length_le (by simp)
  rw [callF_code (f := 32) rfl, exec_succ]
  simp [execB_skip, execB_seq, bindE_normal, execB_cond, condE_false, execB_region, regE_some, regF_none, runIns_nil, runIns_cons, bindI_none, stepIns_none, finF_normal, finV_some, opDV, pureOp, protL, look, enterTm, rdc, restrict, setDst, putV, callOp, DV.clean1, unDV, resOf, resVals, outOf, trunc, DV.ptrsLt, DV.ptrsLtL, Fast.nat_beq, c30, htk]

/-! ## numbers -/

noncomputable def numberG (p : Pr) : Option Int := match peekD p 0 with
  | some t => if t.1 = 2 then (cond (Nat.blt (p.at' + 1) 9223372036854775808) (match primDV .parseUint [.str t.2.1, .int .i64 10, .int .i64 64] with
    | some (.tuple [.int .u64 n, .niliface]) => if n ≤ 9223372036854775807 then some n else none
    | _ => none) none) else none
  | none => none
theorem numberG_some {p : Pr} {n : Int} (h : numberG p = some n) : ∃ t, peekD p 0 = some t ∧ t.1 = 2 ∧ p.at' + 1 < 9223372036854775808 ∧ primDV .parseUint [.str t.2.1, .int .i64 10, .int .i64 64] = some (.tuple [.int .u64 n, .niliface]) ∧ n ≤ 9223372036854775807 := by
  unfold numberG at h
  cases ht : peekD p 0 with
  | none => rw [ht] at h; cases h
  | some t =>
    rw [ht] at h
    simp only [] at h
    split at h
    · rename_i h2
      cases hb : Nat.blt (p.at' + 1) 9223372036854775808
      · rw [hb] at h; cases h
      · rw [hb] at h
        simp only [cond] at h
        split at h
        · rename_i n' hn
          split at h
          · rename_i hle
            cases h
            exact ⟨t, rfl, h2, Nat.le_of_ble_eq_true hb, hn, hle⟩
          · cases h
        · cases h
    · cases h

theorem prim173 {rec : Rec} {PR : List Nat} {args : List DV} {H : HP} {v : DV} (h : primDV .parseUint args = some v) : callF FC rec PR 173 args H = some (.ret v, H) := by
  show (match primDV .parseUint args with | some v => some (Out.ret v, H) | none => none) = _
  rw [h]

theorem number_ok {PR : List Nat} {b : Nat} {H : HP} {p : Pr} {n : Int} (hf : PrFree PR b H) (hb : H[b]? = some p.cells) (h : numberG p = some n) (k : Nat) :
    callF FC (exec FC (k + 1)) PR 135 [.ptr b 0] H = some (.ret (.int .u64 n), H.set b (p.to (p.at' + 1)).cells) := by
  obtain ⟨t, ht, h2, ha, hp, _⟩ := numberG_some h
  obtain ⟨hbl, hb2⟩ := List.getElem?_eq_some_iff.1 hb
  obtain ⟨t1, t2, t3⟩ := t
  simp only [] at h2 hp
  subst h2
  have c47 : ∀ z, callF FC (exec FC k) PR 47 [.ptr b 0, .int .i64 0] (H ++ z) = some (.ret (.agg [.int .i64 2, .str t2, .int .i64 t3]), H ++ z) := fun z =>
    peekIt (hf.mono (by simp)) (by rw [List.getElem?_append_left hbl]; exact hb) ht _
  have c47' := peekIt hf hb ht (exec FC k)
  have c173 : ∀ z, callF FC (exec FC k) PR 173 [.str t2, .int .i64 10, .int .i64 64] z = some (.ret (.tuple [.int .u64 n, .niliface]), z) := fun z => prim173 hp
  have hw := wrap_nat ha
  push_cast at hw
  have hp1 := hf.prot (c := H.length) (.inr (Nat.le_refl _))
  have hp0 := hf.prot (c := b) (.inl rfl)
  have htk : ∀ v, List.take H.length (H.set b v) = H.set b v := fun v => List.take_of_length_le (by simp)
  rw [callF_code (f := 135) rfl, exec_succ]
  simp [execB_skip, execB_seq, bindE_normal, execB_cond, condE_false, execB_ret, execB_region, regE_some, regF_none, runIns_nil, runIns_cons, bindI_none, stepIns_none, finF_ret, finV_some, opDV, pureOp, protL, look, enterTm, rdc, rd, restrict, setDst, putV, callOp, loadOp, mayLoad, loadDV, storeTo, storeDV, mkCells, DV.clean1, lift, binDV, intOp, resOf, resVals, resVal, outOf, trunc, List.getElem?_append_left, putAt, DV.cells, ck_int, ck_str, DV.ptrsLt, unown, Fast.nat_beq, c47', c173, hw, hp0, hp1, hb2, hbl, Pr.cells, Pr.to]


theorem wrap_i64 {n : Int} (h0 : 0 ≤ n) (h1 : n ≤ 9223372036854775807) : IntKind.wrap .i64 n = n := by
  obtain ⟨m, rfl⟩ : ∃ m : Nat, n = m := ⟨n.toNat, by omega⟩
  exact wrap_nat (by omega)

noncomputable def integerG (p : Pr) : Option Int := match peekD p 0 with
  | some t => cond (strEqF t.2.1 [u 45]) none (match numberG p with
    | some n => if 0 ≤ n then some n else none
    | none => none)
  | none => none

theorem integer_ok {PR : List Nat} {b : Nat} {H : HP} {p : Pr} {n : Int} (hf : PrFree PR b H) (hb : H[b]? = some p.cells) (h : integerG p = some n) (k : Nat) :
    callF FC (exec FC (k + 2)) PR 213 [.ptr b 0] H = some (.ret (.int .i64 n), H.set b (p.to (p.at' + 1)).cells) := by
  unfold integerG at h
  cases ht : peekD p 0 with
  | none => rw [ht] at h; cases h
  | some t =>
    rw [ht] at h
    simp only [] at h
    cases hm : strEqF t.2.1 [u 45]
    · rw [hm] at h
      simp only [cond] at h
      cases hn : numberG p with
      | none => rw [hn] at h; cases h
      | some n' =>
        rw [hn] at h
        simp only [] at h
        split at h
        · rename_i h0
          cases h
          obtain ⟨_, _, _, _, _, hle⟩ := numberG_some hn
          have c30 := takeNo hf hb ht hm (exec FC (k + 1))
          have c29 := posIt hf hb ht (exec FC (k + 1))
          have c135 := number_ok hf hb hn k
          have hw := wrap_i64 h0 hle
          have hle' : (n ≤ 9223372036854775807) = True := eq_true hle
          have htk : ∀ v, List.take H.length (H.set b v) = H.set b v := fun v => List.take_of_length_le (by simp)
          have hgt : decide (9223372036854775807 < n) = false := by simp; omega
          rw [callF_code (f := 213) rfl, exec_succ]
          simp [execB_skip, execB_seq, bindE_normal, execB_cond, condE_false, execB_ret, execB_region, regE_some, regF_none, runIns_nil, runIns_cons, bindI_none, stepIns_none, finF_ret, finV_some, opDV, pureOp, protL, look, enterTm, rdc, restrict, setDst, putV, callOp, DV.clean1, binDV, intOp, resOf, resVals, resVal, outOf, trunc, DV.ptrsLt, unown, Fast.nat_beq, c30, c29, c135, hw, hgt, htk]
        · cases h
    · rw [hm] at h; cases h

/-! ## names -/

/-- the reserved words, as the program holds them -/
def words : List UInt8 := [u 32,u 108,u 105,u 98,u 114,u 97,u 114,u 121,u 32,u 99,u 108,u 105,u 101,u 110,u 116,u 32,u 105,u 110,u 116,u 101,u 114,u 102,u 97,u 99,u 101,u 32,u 114,u 101,u 108,u 101,u 97,u 115,u 101,u 32,u 105,u 109,u 112,u 111,u 114,u 116,u 32,u 115,u 105,u 110,u 99,u 101,u 32,u 112,u 117,u 98,u 108,u 105,u 99,u 32,u 102,u 114,u 111,u 122,u 101,u 110,u 32,u 115,u 101,u 97,u 108,u 101,u 100,u 32,u 105,u 110,u 108,u 105,u 110,u 101,u 32,u 105,u 110,u 100,u 105,u 114,u 101,u 99,u 116,u 32,u 115,u 116,u 114,u 117,u 99,u 116,u 32,u 117,u 110,u 105,u 111,u 110,u 32,u 116,u 114,u 97,u 105,u 116,u 32,u 99,u 111,u 110,u 102,u 111,u 114,u 109,u 32,u 102,u 111,u 114,u 32,u 102,u 117,u 110,u 99,u 32,u 100,u 101,u 102,u 97,u 117,u 108,u 116,u 32,u 108,u 101,u 116,u 32,u 105,u 110,u 32,u 105,u 102,u 32,u 116,u 104,u 101,u 110,u 32,u 101,u 108,u 115,u 101,u 32,u 112,u 114,u 105,u 110,u 116,u 32,u 116,u 114,u 117,u 101,u 32,u 102,u 97,u 108,u 115,u 101,u 32,u 99,u 97,u 115,u 101,u 32,u 111,u 102,u 32,u 99,u 97,u 108,u 108,u 32,u 109,u 97,u 116,u 99,u 104,u 32,u 97,u 114,u 114,u 97,u 121,u 32,u 99,u 111,u 117,u 110,u 116,u 32,u 97,u 116,u 32,u 97,u 112,u 112,u 101,u 110,u 100,u 32,u 97,u 118,u 97,u 105,u 108,u 97,u 98,u 108,u 101,u 32,u 102,u 97,u 105,u 108,u 32,u 98,u 121,u 116,u 101,u 32,u 111,u 114,u 100,u 32,u 119,u 105,u 116,u 104,u 32,u 73,u 110,u 116,u 32,u 66,u 121,u 116,u 101,u 32,u 66,u 111,u 111,u 108,u 32,u 65,u 114,u 114,u 97,u 121,u 32,u 83,u 101,u 108,u 102,u 32]

noncomputable def reservedG (s : List UInt8) : Option Bool := match s with
  | [] => none
  | c :: r => match primDV .contains [.str (c :: r), .str [u 32]] with
    | some (.bool false) => hasWord (c :: r)
    | _ => none
where hasWord (s : List UInt8) : Option Bool := match strOp .add [u 32] s with
  | some (.str x) => match strOp .add x [u 32] with
    | some (.str y) => match primDV .contains [.str words, .str y] with
      | some (.bool c) => some c
      | _ => none
    | _ => none
  | _ => none

theorem prim121 {rec : Rec} {PR : List Nat} {args : List DV} {H : HP} {v : DV} (h : primDV .contains args = some v) : callF FC rec PR 121 args H = some (.ret v, H) := by
  show (match primDV .contains args with | some v => some (Out.ret v, H) | none => none) = _
  rw [h]

theorem reserved_ok {s : List UInt8} {c : Bool} (h : reservedG s = some c) (k : Nat) (PR : List Nat) (H : HP) : callF FC (exec FC (k + 1)) PR 129 [.str s] H = some (.ret (.bool c), H) := by
  unfold reservedG at h
  split at h
  · cases h
  · rename_i b r
    split at h
    · rename_i h1
      unfold reservedG.hasWord at h
      split at h
      · rename_i x hx
        split at h
        · rename_i y hy
          split at h
          · rename_i c' hc
            cases h
            unfold words at hc
            have e1 := fun PR H => prim121 (rec := exec FC k) (PR := PR) (H := H) h1
            have e2 := fun PR H => prim121 (rec := exec FC k) (PR := PR) (H := H) hc
            have hne : strOp .neq (b :: r) [] = some (.bool true) := rfl
            rw [callF_code (f := 129) rfl, exec_succ]
            simp [execB_seq, bindE_normal, execB_ret, execB_region, regE_some, regF_none, runIns_nil, runIns_cons, bindI_none, stepIns_none, stepIns_some, guardE_bool, finF_ret, finV_some, opDV, pureOp, protL, look, enterTm, rdc, restrict, setDst, putV, callOp, DV.clean1, binDV, unDV, resOf, resVals, resVal, outOf, trunc, DV.ptrsLt, Fast.nat_beq, e1, e2, hne, hx, hy]
          · cases h
        · cases h
      · cases h
    · cases h


/-- a token that is no name of its own -/
noncomputable def unnamed (t : Int × List UInt8 × Int) : Bool := cond (eqF t.1 1) (match reservedG t.2.1 with
  | some true => true
  | _ => false) true

theorem unnamed_ok {t : Int × List UInt8 × Int} (h : unnamed t = true) (k : Nat) (PR : List Nat) (H : HP) :
    callF FC (exec FC (k + 2)) PR 73 [.agg [.int .i64 t.1, .str t.2.1, .int .i64 t.2.2]] H = some (.ret (.bool false), H) := by
  obtain ⟨t1, t2, t3⟩ := t
  unfold unnamed at h
  rw [eqF_eq] at h
  simp only [] at h
  rw [callF_code (f := 73) rfl, exec_succ]
  cases h1 : t1 == 1
  · have h1' : ¬ t1 = 1 := by simpa using h1
    simp [execB_seq, bindE_normal, execB_ret, execB_region, regE_some, regF_none, runIns_nil, runIns_cons, bindI_none, stepIns_none, stepIns_some, guardE_bool, finF_ret, finV_some, opDV, pureOp, protL, look, enterTm, rdc, rd, restrict, setDst, putV, callOp, loadOp, mayLoad, loadDV, mkCells, DV.clean1, binDV, intOp, unDV, resOf, resVals, resVal, outOf, trunc, DV.cells, ck_int, ck_str, DV.ptrsLt, Fast.nat_beq, h1]
  · have h1' : t1 = 1 := by simpa using h1
    subst h1'
    simp only [beq_self_eq_true, cond] at h
    split at h
    · rename_i hr
      have e := fun PR H => reserved_ok hr k PR H
      simp [execB_seq, bindE_normal, execB_ret, execB_region, regE_some, regF_none, runIns_nil, runIns_cons, bindI_none, stepIns_none, stepIns_some, guardE_bool, finF_ret, finV_some, opDV, pureOp, protL, look, enterTm, rdc, rd, restrict, setDst, putV, callOp, loadOp, mayLoad, loadDV, mkCells, DV.clean1, binDV, intOp, unDV, resOf, resVals, resVal, outOf, trunc, DV.cells, ck_int, ck_str, DV.ptrsLt, Fast.nat_beq, e]
    · cases h


theorem expect_at {PR : List Nat} {b : Nat} {H : HP} {p : Pr} {w : List UInt8} (hf : PrFree PR b H) (hbl : b < H.length) (h : isText p w = some true) (k : Nat) (z : HP) :
    callF FC (exec FC (k + 1)) PR 32 [.ptr b 0, .str w] (H.set b p.cells ++ z) = some (.ret (.tuple []), H.set b (p.to (p.at' + 1)).cells ++ z) := by
  have := expect_ok (hf.mono (H' := H.set b p.cells ++ z) (by simp)) (by rw [List.getElem?_append_left (by simpa using hbl)]; simp [hbl]) h k
  rw [this, List.set_append_left _ _ (by simpa using hbl), List.set_set]

theorem OkE.at {f : Nat} {g : Pr → Option (List DV × Nat)} {K : Nat} (h : OkE f g K) {k : Nat} (hk : K ≤ k) {PR : List Nat} {b : Nat} {H : HP} {p : Pr} {cs : List DV} {a : Nat} (hf : PrFree PR b H) (hbl : b < H.length) (hg : g p = some (cs, a)) (z : HP) :
    callF FC (exec FC k) PR f [.ptr b 0] (H.set b p.cells ++ z) = some (.ret (.agg cs), H.set b (p.to a).cells ++ z) := by
  have := (h k hk PR b (H.set b p.cells ++ z) p cs a (hf.mono (by simp)) (by rw [List.getElem?_append_left (by simpa using hbl)]; simp [hbl]) hg).2
  rw [this, List.set_append_left _ _ (by simpa using hbl), List.set_set]

theorem to_to (p : Pr) (a b : Nat) : (p.to a).to b = p.to b := rfl
theorem to_at (p : Pr) (a : Nat) : (p.to a).at' = a := rfl

/-- one expression in parentheses -/
noncomputable def someG (ex : Pr → Option (List DV × Nat)) (p : Pr) : Option (List DV × Nat) := match isText p [u 40] with
  | some true => match ex (p.to (p.at' + 1)) with
    | some (cs, a) => match isText (p.to a) [u 41] with
      | some true => some (cs, a + 1)
      | _ => none
    | none => none
  | _ => none
theorem someG_some {ex : Pr → Option (List DV × Nat)} {p : Pr} {cs : List DV} {a : Nat} (h : someG ex p = some (cs, a)) :
    ∃ a', isText p [u 40] = some true ∧ ex (p.to (p.at' + 1)) = some (cs, a') ∧ isText (p.to a') [u 41] = some true ∧ a = a' + 1 := by
  unfold someG at h
  split at h
  · rename_i h1
    split at h
    · rename_i cs' a' h2
      split at h
      · rename_i h3
        cases h
        exact ⟨a', h1, h2, h3, rfl⟩
      · cases h
    · cases h
  · cases h

theorem set_self {H : HP} {b : Nat} {c : List DV} (h : H[b]? = some c) : H.set b c = H := by
  obtain ⟨hl, he⟩ := List.getElem?_eq_some_iff.1 h
  rw [← he]
  exact List.set_getElem_self hl

theorem some_ok {ex : Pr → Option (List DV × Nat)} {K : Nat} (h12 : OkE 12 ex K) {k : Nat} (hk : K + 2 ≤ k) {PR : List Nat} {b : Nat} {H : HP} {p : Pr} {cs : List DV} {a : Nat} (hf : PrFree PR b H) (hbl : b < H.length) (hg : someG ex p = some (cs, a)) :
    Ex11 cs ∧ callF FC (exec FC k) PR 224 [.ptr b 0, .int .i64 1] (H.set b p.cells) = some (.ret (.slice .ti 11 [.agg cs]), H.set b (p.to a).cells) := by
  obtain ⟨k, rfl⟩ : ∃ j, k = j + 2 := ⟨k - 2, by omega⟩
  obtain ⟨a', h1, h2, h3, rfl⟩ := someG_some hg
  have hE := (h12 (k + 1) (by omega) PR b (H.set b (p.to (p.at' + 1)).cells) _ cs a' (hf.mono (by simp)) (by simp [hbl]) h2).1
  refine ⟨hE, ?_⟩
  have e1 := expect_at hf hbl h1 k []
  have e2 := h12.at (k := k + 1) (by omega) hf hbl h2 []
  have e3 := expect_at hf hbl h3 k []
  simp only [List.append_nil, to_to, to_at] at e1 e2 e3
  have hpl := List.all_eq_true.1 hE.plain
  have hpl' : (∀ x, x ∈ cs → x.plain1 = true) = True := eq_true hpl
  have htk : ∀ v, List.take H.length (H.set b v) = H.set b v := fun v => List.take_of_length_le (by simp)
  rw [callF_code (f := 224) rfl, exec_succ]
  simp [execB_seq, bindE_normal, bindE_exit, execB_cond, condE_false, execB_block, blockE_exit, execB_loop, loopE_exit, execB_exit, execB_ret, execB_region, regE_some, regF_none, runIns_nil, runIns_cons, bindI_none, stepIns_none, finF_ret, finV_some, opDV, pureOp, protL, look, enterTm, rdc, restrict, setDst, putV, callOp, DV.clean1, binDV, intOp, resOf, resVals, resVal, outOf, trunc, DV.cells, DV.ptrsLt, setElem, DV.elemOk, Fast.nat_beq, e1, e2, e3, hE.len, hpl', htk]


/-! ## byte( .. ) -/

/-- none of these words -/
noncomputable def noneOf (s : List UInt8) (ws : List (List UInt8)) : Bool := ws.all fun w => notF (strEqF s w)
theorem noneOf_mem {s : List UInt8} {ws : List (List UInt8)} (h : noneOf s ws = true) {w : List UInt8} (hw : w ∈ ws) : strEqF s w = false := by
  have := List.all_eq_true.1 h w hw
  rw [notF_eq] at this
  simpa using this

theorem take_no {PR : List Nat} {b : Nat} {H : HP} {p : Pr} {t : Int × List UInt8 × Int} (hf : PrFree PR b H) (hbl : b < H.length) (ht : peekD p 0 = some t) (rec : Rec) (z : HP) {w : List UInt8} (hw : strEqF t.2.1 w = false) :
    callF FC rec PR 30 [.ptr b 0, .str w] (H.set b p.cells ++ z) = some (.ret (.bool false), H.set b p.cells ++ z) :=
  takeNo (hf.mono (by simp)) (by rw [List.getElem?_append_left (by simpa using hbl)]; simp [hbl]) ht hw rec
theorem take_yes {PR : List Nat} {b : Nat} {H : HP} {p : Pr} {t : Int × List UInt8 × Int} (hf : PrFree PR b H) (hbl : b < H.length) (ht : peekD p 0 = some t) (ha : p.at' + 1 < 9223372036854775808) (rec : Rec) (z : HP) {w : List UInt8} (hw : strEqF t.2.1 w = true) :
    callF FC rec PR 30 [.ptr b 0, .str w] (H.set b p.cells ++ z) = some (.ret (.bool true), H.set b (p.to (p.at' + 1)).cells ++ z) := by
  have := takeYes (H := H.set b p.cells ++ z) (hf.mono (by simp)) (by rw [List.getElem?_append_left (by simpa using hbl)]; simp [hbl]) ht hw ha rec
  rw [this, List.set_append_left _ _ (by simpa using hbl), List.set_set]

def formWords : List (List UInt8) := [[u 99, u 97, u 115, u 101], [u 99, u 97, u 108, u 108], [u 97, u 114, u 114, u 97, u 121], [u 102, u 97, u 105, u 108], [u 99, u 111, u 117, u 110, u 116]]

/-- what byte( .. ) makes of an expression's cells -/
def byteCells (es cs : List DV) : List DV := (es.set 0 (.int .i64 23)).set 7 (.slice .ti 11 [.agg cs])

theorem byteShape {es cs : List DV} (h : es.length = 11) : DV.int .i64 23 :: (es.tail.take 6 ++ DV.slice .ti 11 [.agg cs] :: es.drop 8) = byteCells es cs := by
  match es, h with
  | [_, _, _, _, _, _, _, _, _, _, _], _ => rfl

noncomputable def formG (ex : Pr → Option (List DV × Nat)) (p : Pr) : Option (List DV × Nat) := match peekD p 0 with
  | some t => cond (noneOf t.2.1 formWords) (match isText p [u 98, u 121, u 116, u 101] with
    | some true => someG ex (p.to (p.at' + 1))
    | _ => none) none
  | none => none

theorem form_ok {ex : Pr → Option (List DV × Nat)} {K : Nat} (h12 : OkE 12 ex K) {k : Nat} (hk : K + 3 ≤ k) {PR : List Nat} {b e : Nat} {H : HP} {p : Pr} {cs es : List DV} {a : Nat} (hf : PrFree PR b H) (hbl : b < H.length)
    (hne : e ≠ b) (hes : H[e]? = some es) (hle : es.length = 11) (hpe : protects PR [] e = false) (hg : formG ex p = some (cs, a)) :
    Ex11 cs ∧ callF FC (exec FC k) PR 216 [.ptr b 0, .ptr e 0] (H.set b p.cells) = some (.ret (.tuple []), (H.set b (p.to a).cells).set e (byteCells es cs)) := by
  obtain ⟨k, rfl⟩ : ∃ j, k = j + 1 := ⟨k - 1, by omega⟩
  unfold formG at hg
  cases ht : peekD p 0 with
  | none => rw [ht] at hg; cases hg
  | some t =>
    rw [ht] at hg
    simp only [] at hg
    cases hn : noneOf t.2.1 formWords
    · rw [hn] at hg; cases hg
    · rw [hn] at hg
      simp only [cond] at hg
      split at hg
      · rename_i hbt
        obtain ⟨t', ht', hw, ha⟩ := isText_some hbt
        obtain rfl : t' = t := by rw [ht] at ht'; exact (Option.some.inj ht').symm
        obtain ⟨hE, e224⟩ := some_ok h12 (k := k) (by omega) hf hbl hg
        refine ⟨hE, ?_⟩
        have n1 := noneOf_mem hn (w := [u 99, u 97, u 115, u 101]) (by simp [formWords])
        have n2 := noneOf_mem hn (w := [u 99, u 97, u 108, u 108]) (by simp [formWords])
        have n3 := noneOf_mem hn (w := [u 97, u 114, u 114, u 97, u 121]) (by simp [formWords])
        have n4 := noneOf_mem hn (w := [u 102, u 97, u 105, u 108]) (by simp [formWords])
        have n5 := noneOf_mem hn (w := [u 99, u 111, u 117, u 110, u 116]) (by simp [formWords])
        have c1 := take_no hf hbl ht (exec FC k) [] n1
        have c2 := take_no hf hbl ht (exec FC k) [] n2
        have c3 := take_no hf hbl ht (exec FC k) [] n3
        have c4 := take_no hf hbl ht (exec FC k) [] n4
        have c5 := take_no hf hbl ht (exec FC k) [] n5
        have c6 := take_yes hf hbl ht ha (exec FC k) [] hw
        simp only [List.append_nil] at c1 c2 c3 c4 c5 c6
        obtain ⟨hel, hee⟩ := List.getElem?_eq_some_iff.1 hes
        have hne' : b ≠ e := fun h => hne h.symm
        have htk : ∀ v w, List.take H.length ((H.set b v).set e w) = (H.set b v).set e w := fun v w => List.take_of_length_le (by simp)
        rw [callF_code (f := 216) rfl, exec_succ]
        simp [execB_seq, bindE_normal, execB_cond, condE_true, condE_false, execB_block, blockE_normal, execB_region, regE_some, regF_none, runIns_nil, runIns_cons, bindI_none, stepIns_none, finF_normal, finV_some, opDV, pureOp, protL, look, enterTm, rdc, rd, restrict, setDst, putV, callOp, storeTo, storeDV, DV.clean1, lift, resOf, resVals, outOf, trunc, putAt, DV.cells, ck_int, ck_slice, DV.ptrsLt, DV.ptrsLtL, unown, Fast.nat_beq, c1, c2, c3, c4, c5, c6, e224, hel, hee, hne', hle, hpe, htk]
        rw [byteShape hle]
        rfl
      · cases hg


/-! ## primary expressions -/

/-- in parentheses -/
noncomputable def parenG (ex : Pr → Option (List DV × Nat)) (p : Pr) : Option (List DV × Nat) := match isText p [u 40] with
  | some true => match ex (p.to (p.at' + 1)) with
    | some (cs, a) => match isText (p.to a) [u 41] with
      | some true => some (cs, a + 1)
      | _ => none
    | none => none
  | _ => none

def intCells (n pos : Int) : List DV := [.int .i64 1, .str [], .str [], .int .i64 n, .nilslice, .nilslice, .nilslice, .nilslice, .str [], .nilslice, .int .i64 pos]
/-- a number -/
noncomputable def numG (p : Pr) : Option (List DV × Nat) := match peekD p 0 with
  | some t => cond (strEqF t.2.1 [u 40]) none (match integerG p with
    | some n => some (intCells n t.2.2, p.at' + 1)
    | none => none)
  | none => none

def posCells (pos : Int) : List DV := [.int .i64 0, .str [], .str [], .int .i64 0, .nilslice, .nilslice, .nilslice, .nilslice, .str [], .nilslice, .int .i64 pos]
def primWords : List (List UInt8) := [[u 40], [u 45], [u 116, u 114, u 117, u 101], [u 102, u 97, u 108, u 115, u 101], [u 109, u 97, u 116, u 99, u 104]]
/-- a form -/
noncomputable def wordG (ex : Pr → Option (List DV × Nat)) (p : Pr) : Option (List DV × Nat) := match peekD p 0 with
  | some t => cond (noneOf t.2.1 primWords) (cond (eqF t.1 2) none (cond (unnamed t) (match formG ex p with
    | some (cs, a) => some (byteCells (posCells t.2.2) cs, a)
    | none => none) none)) none
  | none => none

noncomputable def primaryG (ex : Pr → Option (List DV × Nat)) (p : Pr) : Option (List DV × Nat) := match parenG ex p with
  | some r => some r
  | none => match numG p with
    | some r => some r
    | none => wordG ex p

theorem paren_ok {ex : Pr → Option (List DV × Nat)} {K : Nat} (h12 : OkE 12 ex K) : OkE 198 (parenG ex) (K + 2) := by
  intro k hk PR b H p cs a hf hb hg
  obtain ⟨k, rfl⟩ : ∃ j, k = j + 2 := ⟨k - 2, by omega⟩
  unfold parenG at hg
  split at hg
  · rename_i h1
    split at hg
    · rename_i cs' a' h2
      split at hg
      · rename_i h3
        cases hg
        obtain ⟨hbl, hb2⟩ := List.getElem?_eq_some_iff.1 hb
        obtain ⟨t, ht, hw, ha⟩ := isText_some h1
        have hE := (h12 (k + 1) (by omega) PR b (H.set b (p.to (p.at' + 1)).cells) _ cs a' (hf.mono (by simp)) (by simp [hbl]) h2).1
        refine ⟨hE, ?_⟩
        have e29 : ∀ z, callF FC (exec FC (k + 1)) PR 29 [.ptr b 0] (H ++ z) = some (.ret (.int .i64 t.2.2), H ++ z) := fun z => posIt (hf.mono (by simp)) (by rw [List.getElem?_append_left hbl]; exact hb) ht _
        have e30 : ∀ z, callF FC (exec FC (k + 1)) PR 30 [.ptr b 0, .str [u 40]] (H ++ z) = some (.ret (.bool true), H.set b (p.to (p.at' + 1)).cells ++ z) := fun z => by
          have := take_yes hf hbl ht ha (exec FC (k + 1)) z hw
          rwa [set_self hb] at this
        have e12 := fun z => h12.at (k := k + 1) (by omega) hf hbl h2 z
        have e32 := fun z => expect_at hf hbl h3 k z
        simp only [to_to, to_at] at e12 e32
        have hp1 := hf.prot (c := H.length) (.inr (Nat.le_refl _))
        have hp2 := hf.prot (c := H.length + 1) (.inr (Nat.le_succ _))
        have htk : ∀ v, List.take H.length (H.set b v) = H.set b v := fun v => List.take_of_length_le (by simp)
        rw [callF_code (f := 198) rfl, exec_succ]
        simp [execB_seq, bindE_normal, bindE_ret, execB_cond, condE_true, execB_ret, execB_region, regE_some, regF_none, runIns_nil, runIns_cons, bindI_none, stepIns_none, finF_ret, finV_some, opDV, pureOp, protL, look, enterTm, rdc, rd, restrict, setDst, putV, callOp, loadOp, mayLoad, loadDV, storeTo, storeDV, mkCells, DV.clean1, lift, resOf, resVals, resVal, outOf, trunc, putAt, DV.cells, DV.ptrsLt, unown, Fast.nat_beq, e29, e30, e12, e32, hE.len, hE.clean, hE.take, hE.cellT, hE.ptrs, hp1, hp2]
      · cases hg
    · cases hg
  · cases hg

theorem num_ok : OkE 198 numG 3 := by
  intro k hk PR b H p cs a hf hb hg
  obtain ⟨k, rfl⟩ : ∃ j, k = j + 3 := ⟨k - 3, by omega⟩
  unfold numG at hg
  cases ht : peekD p 0 with
  | none => rw [ht] at hg; cases hg
  | some t =>
    rw [ht] at hg
    simp only [] at hg
    cases h40 : strEqF t.2.1 [u 40]
    · rw [h40] at hg
      simp only [cond] at hg
      split at hg
      · rename_i n hn
        cases hg
        obtain ⟨hbl, hb2⟩ := List.getElem?_eq_some_iff.1 hb
        have h2 : t.1 = 2 := by
          unfold integerG at hn
          rw [ht] at hn
          simp only [] at hn
          cases hm : strEqF t.2.1 [u 45]
          · rw [hm] at hn
            simp only [cond] at hn
            cases hnn : numberG p with
            | none => rw [hnn] at hn; cases hn
            | some n' =>
              obtain ⟨t', ht', h2, _⟩ := numberG_some hnn
              rw [ht] at ht'
              cases ht'
              exact h2
          · rw [hm] at hn; cases hn
        have h45 : strEqF t.2.1 [u 45] = false := by
          unfold integerG at hn
          rw [ht] at hn
          simp only [] at hn
          cases hm : strEqF t.2.1 [u 45]
          · rfl
          · rw [hm] at hn; cases hn
        refine ⟨⟨rfl, rfl⟩, ?_⟩
        have hH : ∀ z, (H ++ z)[b]? = some p.cells := fun z => by rw [List.getElem?_append_left hbl]; exact hb
        have e29 : ∀ z, callF FC (exec FC (k + 2)) PR 29 [.ptr b 0] (H ++ z) = some (.ret (.int .i64 t.2.2), H ++ z) := fun z => posIt (hf.mono (by simp)) (hH z) ht _
        have e30 : ∀ z, callF FC (exec FC (k + 2)) PR 30 [.ptr b 0, .str [u 40]] (H ++ z) = some (.ret (.bool false), H ++ z) := fun z => takeNo (hf.mono (by simp)) (hH z) ht h40 _
        have e72 : ∀ z, callF FC (exec FC (k + 2)) PR 72 [.ptr b 0, .str [u 45]] (H ++ z) = some (.ret (.bool false), H ++ z) := fun z => by
          have := isIt (H := H ++ z) (w := [u 45]) (hf.mono (by simp)) (hH z) ht (exec FC (k + 2))
          rwa [h45] at this
        have e47 : ∀ z, callF FC (exec FC (k + 2)) PR 47 [.ptr b 0, .int .i64 0] (H ++ z) = some (.ret (.agg [.int .i64 2, .str t.2.1, .int .i64 t.2.2]), H ++ z) := fun z => by
          have := peekIt (H := H ++ z) (hf.mono (by simp)) (hH z) ht (exec FC (k + 2))
          rwa [h2] at this
        have e213 : ∀ z, callF FC (exec FC (k + 2)) PR 213 [.ptr b 0] (H ++ z) = some (.ret (.int .i64 n), H.set b (p.to (p.at' + 1)).cells ++ z) := fun z => by
          have := integer_ok (H := H ++ z) (hf.mono (by simp)) (hH z) hn k
          rwa [List.set_append_left _ _ hbl] at this
        have hp1 := hf.prot (c := H.length) (.inr (Nat.le_refl _))
        have hp2 := hf.prot (c := H.length + 1) (.inr (Nat.le_succ _))
        have htk : ∀ v, List.take H.length (H.set b v) = H.set b v := fun v => List.take_of_length_le (by simp)
        rw [callF_code (f := 198) rfl, exec_succ]
        simp [execB_skip, execB_seq, bindE_normal, execB_cond, condE_true, condE_false, execB_block, blockE_normal, execB_ret, execB_region, regE_some, regF_none, runIns_nil, runIns_cons, bindI_none, stepIns_none, stepIns_some, guardE_bool, finF_ret, finV_some, opDV, pureOp, protL, look, enterTm, rdc, rd, restrict, setDst, putV, callOp, loadOp, mayLoad, loadDV, storeTo, storeDV, mkCells, DV.clean1, lift, binDV, intOp, resOf, resVals, resVal, outOf, trunc, buildDV, putAt, DV.cells, DV.isU, ck_int, ck_str, ck_nilslice, DV.ptrsLt, DV.ptrsLtL, unown, Fast.nat_beq, e29, e30, e72, e47, e213, hp1, hp2, intCells]
      · cases hg
    · rw [h40] at hg; cases hg


theorem byteEx {pos : Int} {cs : List DV} : Ex11 (byteCells (posCells pos) cs) := ⟨rfl, rfl⟩

theorem word_ok {ex : Pr → Option (List DV × Nat)} {K : Nat} (h12 : OkE 12 ex K) : OkE 198 (wordG ex) (K + 4) := by
  intro k hk PR b H p cs a hf hb hg
  obtain ⟨k, rfl⟩ : ∃ j, k = j + 4 := ⟨k - 4, by omega⟩
  unfold wordG at hg
  cases ht : peekD p 0 with
  | none => rw [ht] at hg; cases hg
  | some t =>
    rw [ht] at hg
    simp only [] at hg
    cases hn : noneOf t.2.1 primWords
    · rw [hn] at hg; cases hg
    · rw [hn] at hg
      simp only [cond] at hg
      cases h2 : eqF t.1 2
      · rw [h2] at hg
        simp only [] at hg
        cases hu : unnamed t
        · rw [hu] at hg; cases hg
        · rw [hu] at hg
          simp only [] at hg
          split at hg
          · rename_i cs' a' hfo
            cases hg
            obtain ⟨hbl, hb2⟩ := List.getElem?_eq_some_iff.1 hb
            refine ⟨byteEx, ?_⟩
            have n1 := noneOf_mem hn (w := [u 40]) (by simp [primWords])
            have n2 := noneOf_mem hn (w := [u 45]) (by simp [primWords])
            have n3 := noneOf_mem hn (w := [u 116, u 114, u 117, u 101]) (by simp [primWords])
            have n4 := noneOf_mem hn (w := [u 102, u 97, u 108, u 115, u 101]) (by simp [primWords])
            have n5 := noneOf_mem hn (w := [u 109, u 97, u 116, u 99, u 104]) (by simp [primWords])
            have hH : ∀ z, (H ++ z)[b]? = some p.cells := fun z => by rw [List.getElem?_append_left hbl]; exact hb
            have e29 : ∀ z, callF FC (exec FC (k + 3)) PR 29 [.ptr b 0] (H ++ z) = some (.ret (.int .i64 t.2.2), H ++ z) := fun z => posIt (hf.mono (by simp)) (hH z) ht _
            have no : ∀ z w, strEqF t.2.1 w = false → callF FC (exec FC (k + 3)) PR 30 [.ptr b 0, .str w] (H ++ z) = some (.ret (.bool false), H ++ z) := fun z w hw => takeNo (hf.mono (by simp)) (hH z) ht hw _
            have e72 : ∀ z, callF FC (exec FC (k + 3)) PR 72 [.ptr b 0, .str [u 45]] (H ++ z) = some (.ret (.bool false), H ++ z) := fun z => by
              have := isIt (H := H ++ z) (w := [u 45]) (hf.mono (by simp)) (hH z) ht (exec FC (k + 3))
              rwa [n2] at this
            have e47 : ∀ z, callF FC (exec FC (k + 3)) PR 47 [.ptr b 0, .int .i64 0] (H ++ z) = some (.ret (.agg [.int .i64 t.1, .str t.2.1, .int .i64 t.2.2]), H ++ z) := fun z => peekIt (hf.mono (by simp)) (hH z) ht _
            have e73 : ∀ z, callF FC (exec FC (k + 3)) PR 73 [.agg [.int .i64 t.1, .str t.2.1, .int .i64 t.2.2]] z = some (.ret (.bool false), z) := fun z => unnamed_ok hu (k + 1) PR z
            have h2' : (t.1 == 2) = false := by rw [← eqF_eq]; exact h2
            have hp1 := hf.prot (c := H.length) (.inr (Nat.le_refl _))
            have hp2 := hf.prot (c := H.length + 1) (.inr (Nat.le_succ _))
            have e216 : callF FC (exec FC (k + 3)) PR 216 [.ptr b 0, .ptr (H.length + 1) 0] (H ++ [[.int .i64 0, .str [], .str [], .int .i64 0, .nilslice, .nilslice, .nilslice, .nilslice, .str [], .nilslice, .int .i64 0], posCells t.2.2]) =
                some (.ret (.tuple []), H.set b (p.to a).cells ++ [[.int .i64 0, .str [], .str [], .int .i64 0, .nilslice, .nilslice, .nilslice, .nilslice, .str [], .nilslice, .int .i64 0], byteCells (posCells t.2.2) cs']) := by
              have := (form_ok h12 (k := k + 3) (by omega) (PR := PR) (b := b) (e := H.length + 1) (H := H ++ [[.int .i64 0, .str [], .str [], .int .i64 0, .nilslice, .nilslice, .nilslice, .nilslice, .str [], .nilslice, .int .i64 0], posCells t.2.2]) (p := p) (cs := cs') (es := posCells t.2.2) (a := a) (hf.mono (by simp)) (by simp; omega) (by omega) (by simp) rfl hp2 hfo).2
              rw [set_self (hH _)] at this
              rw [this, List.set_append_left _ _ hbl, List.set_append_right _ _ (by simp)]
              simp
            have htk : ∀ v, List.take H.length (H.set b v) = H.set b v := fun v => List.take_of_length_le (by simp)
            simp only [posCells, byteCells] at e216
            rw [callF_code (f := 198) rfl, exec_succ]
            simp [execB_skip, execB_seq, bindE_normal, execB_cond, condE_false, execB_block, blockE_normal, execB_ret, execB_region, regE_some, regF_none, runIns_nil, runIns_cons, bindI_none, stepIns_none, stepIns_some, guardE_bool, finF_ret, finV_some, opDV, pureOp, protL, look, enterTm, rdc, rd, restrict, setDst, putV, callOp, loadOp, mayLoad, loadDV, storeTo, storeDV, mkCells, DV.clean1, lift, binDV, intOp, resOf, resVals, resVal, outOf, trunc, buildDV, putAt, DV.cells, DV.isU, ck_int, ck_str, ck_nilslice, ck_slice, DV.ptrsLt, DV.ptrsLtL, unown, Fast.nat_beq, e29, no, n1, n3, n4, n5, e72, e47, e73, h2', e216, hp1, hp2, byteCells, posCells]
          · cases hg
      · rw [h2] at hg; cases hg

theorem primary_ok {ex : Pr → Option (List DV × Nat)} {K : Nat} (h12 : OkE 12 ex K) : OkE 198 (primaryG ex) (K + 4) := by
  intro k hk PR b H p cs a hf hb hg
  unfold primaryG at hg
  split at hg
  · rename_i h; cases hg; exact paren_ok h12 k (by omega) PR b H p cs a hf hb h
  · split at hg
    · rename_i h; cases hg; exact num_ok k (by omega) PR b H p cs a hf hb h
    · exact word_ok h12 k hk PR b H p cs a hf hb hg

/-! ## what stands behind a primary expression -/

noncomputable def noTake (p : Pr) (ws : List (List UInt8)) : Bool := match peekD p 0 with
  | some t => noneOf t.2.1 ws
  | none => false
noncomputable def postfixG (pri : Pr → Option (List DV × Nat)) (p : Pr) : Option (List DV × Nat) := match pri p with
  | some (cs, a) => cond (noTake (p.to a) [[u 46], [u 119, u 105, u 116, u 104]]) (some (cs, a)) none
  | none => none

theorem postfix_ok {pri : Pr → Option (List DV × Nat)} {K : Nat} (h : OkE 198 pri K) : OkE 171 (postfixG pri) (K + 1) := by
  intro k hk PR b H p cs a hf hb hg
  obtain ⟨k, rfl⟩ : ∃ j, k = j + 1 := ⟨k - 1, by omega⟩
  unfold postfixG at hg
  split at hg
  · rename_i cs' a' hs
    cases hno : noTake (p.to a') [[u 46], [u 119, u 105, u 116, u 104]]
    · rw [hno] at hg; cases hg
    · rw [hno] at hg
      cases hg
      unfold noTake at hno
      split at hno
      · rename_i t ht
        obtain ⟨hbl, hb2⟩ := List.getElem?_eq_some_iff.1 hb
        have hE := (h k (by omega) PR b H p cs a hf hb hs).1
        refine ⟨hE, ?_⟩
        have n1 := noneOf_mem hno (w := [u 46]) (by simp)
        have n2 := noneOf_mem hno (w := [u 119, u 105, u 116, u 104]) (by simp)
        have e198 : ∀ z, callF FC (exec FC k) PR 198 [.ptr b 0] (H ++ z) = some (.ret (.agg cs), H.set b (p.to a).cells ++ z) := fun z => by
          have := h.at (k := k) (by omega) hf hbl hs z
          rwa [set_self hb] at this
        have no : ∀ z w, strEqF t.2.1 w = false → callF FC (exec FC k) PR 30 [.ptr b 0, .str w] (H.set b (p.to a).cells ++ z) = some (.ret (.bool false), H.set b (p.to a).cells ++ z) := fun z w hw => take_no hf hbl ht _ z hw
        have hp1 := hf.prot (c := H.length) (.inr (Nat.le_refl _))
        have hp2 := hf.prot (c := H.length + 1) (.inr (Nat.le_succ _))
        have htk : ∀ v, List.take H.length (H.set b v) = H.set b v := fun v => List.take_of_length_le (by simp)
        rw [callF_code (f := 171) rfl, exec_succ]
        simp [execB_seq, bindE_normal, execB_cond, condE_false, execB_block, blockE_ret, execB_loop, loopE_ret, execB_ret, execB_region, regE_some, regF_none, runIns_nil, runIns_cons, bindI_none, stepIns_none, finF_ret, finV_some, opDV, pureOp, protL, look, enterTm, rdc, rd, restrict, setDst, putV, callOp, loadOp, mayLoad, loadDV, storeTo, storeDV, mkCells, DV.clean1, lift, resOf, resVals, resVal, outOf, trunc, putAt, DV.cells, DV.ptrsLt, unown, Fast.nat_beq, e198, no, n1, n2, hE.len, hE.clean, hE.take, hE.cellT, hE.ptrs, hp1, hp2]
      · cases hno
  · cases hg


noncomputable def termG (sub : Pr → Option (List DV × Nat)) (p : Pr) : Option (List DV × Nat) := match sub p with
  | some (cs, a) => match noSign (p.to a) [u 32, u 42, u 32, u 47, u 32, u 37, u 32] with
    | some true => some (cs, a)
    | _ => none
  | none => none

theorem term_ok {sub : Pr → Option (List DV × Nat)} {K : Nat} (h : OkE 171 sub K) : OkE 130 (termG sub) (K + 1) := by
  intro k hk PR b H p cs a hf hb hg
  obtain ⟨k, rfl⟩ : ∃ j, k = j + 1 := ⟨k - 1, by omega⟩
  unfold termG at hg
  split at hg
  · rename_i cs' a' hs
    split at hg
    · rename_i hno
      cases hg
      obtain ⟨hbl, hb2⟩ := List.getElem?_eq_some_iff.1 hb
      have hE := (h k (by omega) PR b H p cs a hf hb hs).1
      refine ⟨hE, ?_⟩
      have e1 : ∀ z, callF FC (exec FC k) PR 171 [.ptr b 0] (H ++ z) = some (.ret (.agg cs), H.set b (p.to a).cells ++ z) := fun z => by
        have := h.at (k := k) (by omega) hf hbl hs z
        rwa [set_self hb] at this
      have e2 : ∀ z, callF FC (exec FC k) PR 75 [.ptr b 0, .str [u 32, u 42, u 32, u 47, u 32, u 37, u 32]] (H.set b (p.to a).cells ++ z) = some (.ret (.str []), H.set b (p.to a).cells ++ z) := fun z =>
        noSign_run (hf.mono (by simp)) (by rw [List.getElem?_append_left (by simpa using hbl)]; simp [hbl]) hno _
      have hp1 := hf.prot (c := H.length) (.inr (Nat.le_refl _))
      have hp2 := hf.prot (c := H.length + 1) (.inr (Nat.le_succ _))
      have htk : ∀ v, List.take H.length (H.set b v) = H.set b v := fun v => List.take_of_length_le (by simp)
      rw [callF_code (f := 130) rfl, exec_succ]
      simp [execB_seq, bindE_normal, bindE_exit, execB_cond, condE_false, execB_block, blockE_exit, execB_loop, loopE_exit, execB_exit, execB_ret, execB_region, regE_some, regF_none, runIns_nil, runIns_cons, bindI_none, stepIns_none, finF_ret, finV_some, opDV, pureOp, protL, look, enterTm, rdc, rd, restrict, setDst, putV, callOp, loadOp, mayLoad, loadDV, storeTo, storeDV, mkCells, DV.clean1, lift, binDV, strOp, resOf, resVals, resVal, outOf, trunc, putAt, DV.cells, DV.ptrsLt, unown, Fast.nat_beq, e1, e2, hE.len, hE.clean, hE.take, hE.cellT, hE.ptrs, hp1, hp2]
    · cases hg
  · cases hg

noncomputable def sumG (sub : Pr → Option (List DV × Nat)) (p : Pr) : Option (List DV × Nat) := match sub p with
  | some (cs, a) => match noSign (p.to a) [u 32, u 43, u 32, u 45, u 32] with
    | some true => some (cs, a)
    | _ => none
  | none => none

theorem sum_ok {sub : Pr → Option (List DV × Nat)} {K : Nat} (h : OkE 130 sub K) : OkE 74 (sumG sub) (K + 1) := by
  intro k hk PR b H p cs a hf hb hg
  obtain ⟨k, rfl⟩ : ∃ j, k = j + 1 := ⟨k - 1, by omega⟩
  unfold sumG at hg
  split at hg
  · rename_i cs' a' hs
    split at hg
    · rename_i hno
      cases hg
      obtain ⟨hbl, hb2⟩ := List.getElem?_eq_some_iff.1 hb
      have hE := (h k (by omega) PR b H p cs a hf hb hs).1
      refine ⟨hE, ?_⟩
      have e1 : ∀ z, callF FC (exec FC k) PR 130 [.ptr b 0] (H ++ z) = some (.ret (.agg cs), H.set b (p.to a).cells ++ z) := fun z => by
        have := h.at (k := k) (by omega) hf hbl hs z
        rwa [set_self hb] at this
      have e2 : ∀ z, callF FC (exec FC k) PR 75 [.ptr b 0, .str [u 32, u 43, u 32, u 45, u 32]] (H.set b (p.to a).cells ++ z) = some (.ret (.str []), H.set b (p.to a).cells ++ z) := fun z =>
        noSign_run (hf.mono (by simp)) (by rw [List.getElem?_append_left (by simpa using hbl)]; simp [hbl]) hno _
      have hp1 := hf.prot (c := H.length) (.inr (Nat.le_refl _))
      have hp2 := hf.prot (c := H.length + 1) (.inr (Nat.le_succ _))
      have htk : ∀ v, List.take H.length (H.set b v) = H.set b v := fun v => List.take_of_length_le (by simp)
      rw [callF_code (f := 74) rfl, exec_succ]
      simp [execB_seq, bindE_normal, bindE_exit, execB_cond, condE_false, execB_block, blockE_exit, execB_loop, loopE_exit, execB_exit, execB_ret, execB_region, regE_some, regF_none, runIns_nil, runIns_cons, bindI_none, stepIns_none, finF_ret, finV_some, opDV, pureOp, protL, look, enterTm, rdc, rd, restrict, setDst, putV, callOp, loadOp, mayLoad, loadDV, storeTo, storeDV, mkCells, DV.clean1, lift, binDV, strOp, resOf, resVals, resVal, outOf, trunc, putAt, DV.cells, DV.ptrsLt, unown, Fast.nat_beq, e1, e2, hE.len, hE.clean, hE.take, hE.cellT, hE.ptrs, hp1, hp2]
    · cases hg
  · cases hg

noncomputable def exprStepG (cmp : Pr → Option (List DV × Nat)) (p : Pr) : Option (List DV × Nat) := cond (noTake p [[u 108, u 101, u 116], [u 105, u 102], [u 112, u 114, u 105, u 110, u 116]]) (cmp p) none

theorem expr_ok {cmp : Pr → Option (List DV × Nat)} {K : Nat} (h : OkE 33 cmp K) : OkE 12 (exprStepG cmp) (K + 1) := by
  intro k hk PR b H p cs a hf hb hg
  obtain ⟨k, rfl⟩ : ∃ j, k = j + 1 := ⟨k - 1, by omega⟩
  unfold exprStepG at hg
  cases hno : noTake p [[u 108, u 101, u 116], [u 105, u 102], [u 112, u 114, u 105, u 110, u 116]]
  · rw [hno] at hg; cases hg
  · rw [hno] at hg
    simp only [cond] at hg
    unfold noTake at hno
    split at hno
    · rename_i t ht
      obtain ⟨hbl, hb2⟩ := List.getElem?_eq_some_iff.1 hb
      have hE := (h k (by omega) PR b H p cs a hf hb hg).1
      refine ⟨hE, ?_⟩
      have n1 := noneOf_mem hno (w := [u 108, u 101, u 116]) (by simp)
      have n2 := noneOf_mem hno (w := [u 105, u 102]) (by simp)
      have n3 := noneOf_mem hno (w := [u 112, u 114, u 105, u 110, u 116]) (by simp)
      have hH : ∀ z, (H ++ z)[b]? = some p.cells := fun z => by rw [List.getElem?_append_left hbl]; exact hb
      have e29 : ∀ z, callF FC (exec FC k) PR 29 [.ptr b 0] (H ++ z) = some (.ret (.int .i64 t.2.2), H ++ z) := fun z => posIt (hf.mono (by simp)) (hH z) ht _
      have no : ∀ z w, strEqF t.2.1 w = false → callF FC (exec FC k) PR 30 [.ptr b 0, .str w] (H ++ z) = some (.ret (.bool false), H ++ z) := fun z w hw => takeNo (hf.mono (by simp)) (hH z) ht hw _
      have e33 : ∀ z, callF FC (exec FC k) PR 33 [.ptr b 0] (H ++ z) = some (.ret (.agg cs), H.set b (p.to a).cells ++ z) := fun z => by
        have := h.at (k := k) (by omega) hf hbl hg z
        rwa [set_self hb] at this
      have hp1 := hf.prot (c := H.length) (.inr (Nat.le_refl _))
      have hp2 := hf.prot (c := H.length + 1) (.inr (Nat.le_succ _))
      have htk : ∀ v, List.take H.length (H.set b v) = H.set b v := fun v => List.take_of_length_le (by simp)
      rw [callF_code (f := 12) rfl, exec_succ]
      simp [execB_seq, bindE_normal, bindE_ret, execB_cond, condE_false, execB_block, blockE_ret, execB_ret, execB_region, regE_some, regF_none, runIns_nil, runIns_cons, bindI_none, stepIns_none, finF_ret, finV_some, opDV, pureOp, protL, look, enterTm, rdc, rd, restrict, setDst, putV, callOp, loadDV, storeTo, storeDV, mkCells, DV.clean1, lift, resOf, resVals, resVal, outOf, trunc, buildDV, putAt, DV.cells, DV.isU, ck_int, ck_str, ck_nilslice, DV.ptrsLt, unown, Fast.nat_beq, e29, no, n1, n2, n3, e33, hE.len, hE.clean, hE.take, hE.cellT, hE.ptrs, hp1, hp2]
    · cases hno

/-- an expression, as deeply as the number says -/
noncomputable def exprG (n : Nat) : Pr → Option (List DV × Nat) := Nat.rec (motive := fun _ => Pr → Option (List DV × Nat)) (fun _ => none) (fun _ ex => exprStepG (compareG (sumG (termG (postfixG (primaryG ex)))))) n

theorem expr_all : ∀ n, OkE 12 (exprG n) (10 * n)
  | 0 => by intro k _ PR b H p cs a _ _ hg; cases hg
  | n + 1 => by
    have h := expr_ok (compare_ok (sum_ok (term_ok (postfix_ok (primary_ok (expr_all n))))))
    intro k hk
    exact h k (by omega)


/-! ## the table with it -/

noncomputable def freeB (PR : List Nat) (b : Nat) (H : HP) : Bool := allF (fun x => Bool.rec (motive := fun _ => Bool) (Nat.blt x (lenF H)) false (Nat.beq x b)) PR
theorem freeB_spec {PR : List Nat} {b : Nat} {H : HP} (h : freeB PR b H = true) : PrFree PR b H := by
  unfold freeB at h
  rw [allF_eq, List.all_eq_true] at h
  intro x hx
  have := h x hx
  cases hb : Nat.beq x b
  · rw [hb] at this
    rw [lenF_eq] at this
    refine ⟨?_, Nat.le_of_ble_eq_true this⟩
    rintro rfl
    rw [Nat.beq_refl] at hb
    cases hb
  · rw [hb] at this; cases this

/-- what the code computes, where nothing shorter is said -/
noncomputable def exprC (PR : List Nat) (args : List DV) (H : HP) (o : Option (Out × HP)) : Option (Out × HP) := Option.rec (motive := fun _ => Option (Out × HP)) (Fast.callN FC 100000 PR 12 args H) (fun r => some r) o

noncomputable def exprR0 : RunS := fun PR args H => match args with
  | [.ptr b 0] => Bool.rec (motive := fun _ => Option (Out × HP)) none (match prAt H b with
    | some p => match exprG 60 p with
      | some (cs, a) => some (.ret (.agg cs), setF H b [p.ts, .int .i64 (.ofNat a), .int .i64 p.e])
      | none => none
    | none => none) (freeB PR b H)
  | _ => none

theorem exprR0_ok {PR : List Nat} {args : List DV} {H : HP} {r : Out × HP} (h : exprR0 PR args H = some r) : ∃ k, callD FC k PR 12 args H = some r := by
  unfold exprR0 at h
  split at h
  · rename_i b
    cases hk : freeB PR b H
    · rw [hk] at h; cases h
    · rw [hk] at h
      simp only [] at h
      cases hp : prAt H b with
      | none => rw [hp] at h; cases h
      | some p =>
        rw [hp] at h
        simp only [] at h
        cases hg : exprG 60 p with
        | none => rw [hg] at h; cases h
        | some q =>
          obtain ⟨cs, a⟩ := q
          rw [hg] at h
          cases h
          refine ⟨600, ?_⟩
          rw [setF_eq]
          exact (expr_all 60 600 (by omega) PR b H p cs a (freeB_spec hk) (prAt_spec hp) hg).2
  · cases h

noncomputable def exprR : RunS := fun PR args H => exprC PR args H (exprR0 PR args H)
theorem exprR_ok {PR : List Nat} {args : List DV} {H : HP} {r : Out × HP} (h : exprR PR args H = some r) : ∃ k, callD FC k PR 12 args H = some r := by
  unfold exprR at h
  cases h0 : exprR0 PR args H with
  | none =>
    rw [h0] at h
    exact ⟨100000, by rw [← Fast.callN_eq]; exact h⟩
  | some r' =>
    rw [h0] at h
    cases h
    exact exprR0_ok h0

noncomputable def exprS : Spec := mkSpec FC 12 exprR fun _ _ _ _ h => exprR_ok h
noncomputable def spD (f : Nat) : Option Spec := cond (Nat.beq f 12) (some exprS) none
noncomputable def FD : Nat → Option DFn := layer spD FC

end Go.Zd
