/- What the parser's smallest functions compute, said without their code. -/
import Derived.Test.YthcoldfgpigdhaaGreatDoorZSCode
import Derived.Test.YthcoldfgpigdhaaGreatDoorZF
import Derived.Test.YthcoldfgpigdhaaGreatDoorZA
namespace Go.Zd
open Go.Zd Fast

theorem wrap_nat {n : Nat} (h : n < 9223372036854775808) : IntKind.wrap .i64 (n : Int) = n := by
  simp only [IntKind.wrap, IntKind.bits, IntKind.signed]
  simp
  omega

/-- nothing that is protected is written -/
noncomputable def prOk (PR : List Nat) (b : Nat) (H : HP) : Bool := allF (fun x => Bool.rec (motive := fun _ => Bool) (notF (Nat.beq (lenF H) x)) false (Nat.beq b x)) PR
theorem prOk_spec {PR : List Nat} {b : Nat} {H : HP} (h : prOk PR b H = true) : protects PR [] b = false ∧ protects PR [] H.length = false := by
  unfold prOk at h
  rw [allF_eq, List.all_eq_true] at h
  simp only [protects, List.any_nil, Bool.or_false, List.any_eq_false]
  refine ⟨fun x hx => ?_, fun x hx => ?_⟩
  · have := h x hx
    cases hb : Nat.beq b x
    · simp
    · rw [hb] at this; cases this
  · have := h x hx
    cases hb : Nat.beq b x
    · rw [hb] at this
      rw [lenF_eq] at this
      cases hc : Nat.beq H.length x
      · simp
      · rw [hc] at this; cases this
    · rw [hb] at this; cases this

/-- a parser -/
structure Pr where
  ts : DV
  at' : Nat
  e : Int

def Pr.cells (p : Pr) : List DV := [p.ts, .int .i64 p.at', .int .i64 p.e]

/-- the parser in a block -/
noncomputable def prAt (H : HP) (b : Nat) : Option Pr := match nthF H b with
  | some [ts, .int .i64 (.ofNat a), .int .i64 e] => some ⟨ts, a, e⟩
  | _ => none
theorem prAt_spec {H : HP} {b : Nat} {p : Pr} (h : prAt H b = some p) : H[b]? = some p.cells := by
  unfold prAt at h
  rw [nthF_eq] at h
  split at h
  · rename_i h1; cases h; exact h1
  · cases h

/-- a token -/
def tokOf : DV → Option (Int × List UInt8 × Int)
  | .agg [.int .i64 a, .str s, .int .i64 p] => some (a, s, p)
  | _ => none
theorem tokOf_spec {v : DV} {t : Int × List UInt8 × Int} (h : tokOf v = some t) : v = .agg [.int .i64 t.1, .str t.2.1, .int .i64 t.2.2] := by
  unfold tokOf at h
  split at h
  · cases h; rfl
  · cases h

/-- the token at a place -/
noncomputable def tokAt (ts : DV) (i : Nat) : Option (Option (Int × List UInt8 × Int)) := match ts with
  | .nilslice => some none
  | .slice _ w es => Bool.rec (motive := fun _ => Option (Option (Int × List UInt8 × Int))) none (match nthF es i with
    | some v => (match tokOf v with
      | some t => some (some t)
      | none => none)
    | none => some none) (Nat.beq w 3)
  | _ => none

/-- peek -/
noncomputable def peekD (p : Pr) (n : Nat) : Option (Int × List UInt8 × Int) :=
  Bool.rec (motive := fun _ => Option (Int × List UInt8 × Int)) none (match tokAt p.ts (p.at' + n) with
    | some (some t) => some t
    | some none => some (0, [], p.e)
    | none => none) (Nat.blt (p.at' + n) 9223372036854775808)

theorem clean_clean (d : DV) : d.clean.clean = d.clean := by
  cases d <;> try rfl
  rename_i fl _ _
  cases fl <;> rfl

theorem protects_cons {PR : List Nat} {L : PL} {x c d : Nat} (h : protects PR L c = false) (hc : c ≠ d) : protects PR ((x, d) :: L) c = false := by
  unfold protects at *
  simp only [Bool.or_eq_false_iff, List.any_cons] at *
  refine ⟨h.1, ?_, h.2⟩
  rw [nat_beq]
  simpa using hc

theorem peek_run {PR : List Nat} {b n : Nat} {H : HP} {p : Pr} {t : Int × List UInt8 × Int} (hPR : prOk PR b H = true) (hp : prAt H b = some p) (ht : peekD p n = some t) (k : Nat) :
    callD F (k + 1) PR 47 [.ptr b 0, .int .i64 n] H = some (.ret (.agg [.int .i64 t.1, .str t.2.1, .int .i64 t.2.2]), H) := by
  have hb := prAt_spec hp
  obtain ⟨h1, h2⟩ := prOk_spec hPR
  obtain ⟨hbl, hb2⟩ := List.getElem?_eq_some_iff.1 hb
  obtain ⟨ts, a, e⟩ := p
  have hF : F 47 = some d47 := rfl
  have h3 : protects PR [(0, b)] H.length = false := protects_cons h2 (by omega)
  have ha : a + n < 9223372036854775808 := by
    unfold peekD at ht
    cases hx : Nat.blt (a + n) 9223372036854775808
    · rw [hx] at ht; cases ht
    · exact Nat.le_of_ble_eq_true hx
  have hw := wrap_nat ha
  have ha' : Nat.blt (a + n) 9223372036854775808 = true := Nat.ble_eq_true_of_le ha
  unfold peekD at ht
  rw [ha'] at ht
  simp only [] at ht
  simp only [Pr.cells] at hb2
  push_cast at hw
  cases ts with
  | nilslice =>
    simp only [tokAt] at ht
    cases ht
    have hneg : ((a : Int) + n < 0) = False := by simp; omega
    simp [Fast.nat_beq, callD, callF, hF, d47, exec, execB, runIns, stepIns, opDV, pureOp, protL, look, enterTm, rdc, rd, restrict, setDst, putV, loadOp, mayLoad, loadDV, storeTo, storeDV, mkCells, DV.clean1, lift, binDV, intOp, hb2, resOf, resVals, resVal, outOf, trunc, h2, hbl, List.getElem?_append_left, hw, buildDV, putAt, DV.cells, DV.isU, DV.cellOk, DV.ptrsLt, DV.ptrsLtL, hneg]
  | slice fl w es =>
    simp only [tokAt] at ht
    cases hw3 : Nat.beq w 3
    · rw [hw3] at ht; cases ht
    · obtain rfl := Nat.eq_of_beq_eq_true hw3
      rw [hw3, nthF_eq] at ht
      simp only [] at ht
      have hto : ((a : Int) + n).toNat = a + n := by omega
      have hnn : (0 ≤ (a : Int) + n) = True := by simp; omega
      cases hes : es[a + n]? with
      | none =>
        rw [hes] at ht
        cases ht
        have hlt : ((a : Int) + n < es.length) = False := by
          have := List.getElem?_eq_none_iff.1 hes
          simp; omega
        cases fl <;> simp [Fast.nat_beq, callD, callF, hF, d47, exec, execB, runIns, stepIns, opDV, pureOp, protL, look, enterTm, rdc, rd, restrict, setDst, putV, loadOp, mayLoad, loadDV, storeTo, storeDV, mkCells, DV.clean1, lift, binDV, intOp, hb2, resOf, resVals, resVal, outOf, trunc, h2, hbl, List.getElem?_append_left, hw, buildDV, putAt, DV.cells, DV.isU, DV.cellOk, DV.ptrsLt, DV.ptrsLtL, hlt]
      | some v =>
        rw [hes] at ht
        obtain ⟨hl, hes2⟩ := List.getElem?_eq_some_iff.1 hes
        have hlt : ((a : Int) + n < es.length) = True := by simp; omega
        cases hv : tokOf v with
        | none => simp only [hv] at ht; cases ht
        | some t' =>
          simp only [hv] at ht
          cases ht
          obtain rfl := tokOf_spec hv
          cases fl <;> simp [Fast.nat_beq, callD, callF, hF, d47, exec, execB, runIns, stepIns, opDV, pureOp, protL, look, enterTm, rdc, rd, restrict, setDst, putV, loadOp, mayLoad, loadDV, storeTo, storeDV, mkCells, DV.clean1, lift, binDV, intOp, toNatIdx, hb2, resOf, resVals, resVal, outOf, trunc, h3, hbl, List.getElem?_append_left, hw, putAt, DV.cells, DV.cellOk, DV.ptrsLt, DV.ptrsLtL, hlt, hto, hnn, hl, hes2]
  | _ => cases ht
end Go.Zd
namespace Go.Zd
open Go.Zd Fast

theorem callD_code {F : Nat → Option DFn} {k : Nat} {PR : List Nat} {f : Nat} {args : List DV} {H : HP} {body : DCode} {res : List DRes} {keep : Bool} (hF : F f = some (.code body res keep)) :
    callD F k PR f args H = match exec F k PR body ⟨enterTm args, H⟩ with
      | some (.panic v, st) => outOf keep H.length st.H v .panic
      | some (.exit _, _) => none
      | some (_, st) => (match resOf st res with
        | some v => outOf keep H.length st.H v .ret
        | none => none)
      | none => none := by
  unfold callD callF
  simp only [hF]
  generalize exec F k PR body ⟨enterTm args, H⟩ = o
  rcases o with _ | ⟨ex, st⟩
  · rfl
  · cases ex <;> first | rfl | (simp only []; cases resOf st res <;> rfl)

/-- a spec that says something where its condition holds -/
abbrev RunS := List Nat → List DV → HP → Option (Out × HP)

noncomputable def peekR : RunS := fun PR args H => match args with
  | [.ptr b 0, .int .i64 (.ofNat n)] => Bool.rec (motive := fun _ => Option (Out × HP)) none (match prAt H b with
    | some p => match peekD p n with
      | some t => some (.ret (.agg [.int .i64 t.1, .str t.2.1, .int .i64 t.2.2]), H)
      | none => none
    | none => none) (prOk PR b H)
  | _ => none

theorem peekR_some {PR : List Nat} {args : List DV} {H : HP} {r : Out × HP} (h : peekR PR args H = some r) :
    ∃ b n p t, args = [.ptr b 0, .int .i64 (.ofNat n)] ∧ prOk PR b H = true ∧ prAt H b = some p ∧ peekD p n = some t ∧ r = (.ret (.agg [.int .i64 t.1, .str t.2.1, .int .i64 t.2.2]), H) := by
  unfold peekR at h
  split at h
  · rename_i b n
    cases hk : prOk PR b H
    · rw [hk] at h; cases h
    · rw [hk] at h
      simp only [] at h
      cases hp : prAt H b with
      | none => rw [hp] at h; cases h
      | some p =>
        rw [hp] at h
        simp only [] at h
        cases ht : peekD p n with
        | none => rw [ht] at h; cases h
        | some t => rw [ht] at h; cases h; exact ⟨b, n, p, t, rfl, hk, hp, ht, rfl⟩
  · cases h

theorem peekR_ok {PR : List Nat} {args : List DV} {H : HP} {r : Out × HP} (h : peekR PR args H = some r) : ∃ k, callD F k PR 47 args H = some r := by
  obtain ⟨b, n, p, t, rfl, h1, h2, h3, rfl⟩ := peekR_some h
  exact ⟨1, peek_run h1 h2 h3 0⟩

theorem peekR_eq {PR : List Nat} {b n : Nat} {H : HP} {p : Pr} {t : Int × List UInt8 × Int} (h1 : prOk PR b H = true) (h2 : prAt H b = some p) (h3 : peekD p n = some t) :
    peekR PR [.ptr b 0, .int .i64 n] H = some (.ret (.agg [.int .i64 t.1, .str t.2.1, .int .i64 t.2.2]), H) := by
  show peekR PR [.ptr b 0, .int .i64 (.ofNat n)] H = _
  simp only [peekR, h1, h2, h3]

noncomputable def letterB (c : Int) : Bool := Bool.rec (motive := fun _ => Bool) (Bool.rec (motive := fun _ => Bool) false (leF c 90) (leF 65 c)) true (Bool.rec (motive := fun _ => Bool) false (leF c 122) (leF 97 c))
noncomputable def digitB (c : Int) : Bool := Bool.rec (motive := fun _ => Bool) false (leF c 57) (leF 48 c)

noncomputable def letterR : RunS := fun _ args H => match args with
  | [.int .u8 c] => some (.ret (.bool (letterB c)), H)
  | _ => none
noncomputable def digitR : RunS := fun _ args H => match args with
  | [.int .u8 c] => some (.ret (.bool (digitB c)), H)
  | _ => none

theorem letterB_eq (c : Int) : letterB c = ((decide (97 ≤ c) && decide (c ≤ 122)) || (decide (65 ≤ c) && decide (c ≤ 90))) := by
  unfold letterB
  simp only [leF_eq]
  cases decide (97 ≤ c) <;> cases decide (c ≤ 122) <;> cases decide (65 ≤ c) <;> cases decide (c ≤ 90) <;> rfl
theorem digitB_eq (c : Int) : digitB c = (decide (48 ≤ c) && decide (c ≤ 57)) := by
  unfold digitB
  simp only [leF_eq]
  cases decide (48 ≤ c) <;> cases decide (c ≤ 57) <;> rfl

theorem letterR_ok {PR : List Nat} {args : List DV} {H : HP} {r : Out × HP} (h : letterR PR args H = some r) : ∃ k, callD F k PR 125 args H = some r := by
  refine ⟨1, ?_⟩
  unfold letterR at h
  split at h
  · rename_i c
    cases h
    rw [letterB_eq]
    rw [callD_code (f := 125) rfl]
    by_cases h1 : 97 ≤ c <;> by_cases h2 : c ≤ 122 <;> by_cases h3 : 65 ≤ c <;> by_cases h4 : c ≤ 90 <;> simp [Fast.nat_beq, exec, execB, runIns, stepIns, opDV, pureOp, protL, look, enterTm, rdc, restrict, setDst, putV, DV.clean1, binDV, intOp, resOf, resVals, resVal, outOf, trunc, DV.ptrsLt, h1, h2, h3, h4]
  · cases h

theorem digitR_ok {PR : List Nat} {args : List DV} {H : HP} {r : Out × HP} (h : digitR PR args H = some r) : ∃ k, callD F k PR 127 args H = some r := by
  refine ⟨1, ?_⟩
  unfold digitR at h
  split at h
  · rename_i c
    cases h
    rw [digitB_eq]
    rw [callD_code (f := 127) rfl]
    by_cases h1 : 48 ≤ c <;> by_cases h2 : c ≤ 57 <;> simp [Fast.nat_beq, exec, execB, runIns, stepIns, opDV, pureOp, protL, look, enterTm, rdc, restrict, setDst, putV, DV.clean1, binDV, intOp, resOf, resVals, resVal, outOf, trunc, DV.ptrsLt, h1, h2]
  · cases h

noncomputable def peekS : Spec := mkSpec F 47 peekR fun _ _ _ _ h => peekR_ok h
noncomputable def letterS : Spec := mkSpec F 125 letterR fun _ _ _ _ h => letterR_ok h
noncomputable def digitS : Spec := mkSpec F 127 digitR fun _ _ _ _ h => digitR_ok h

noncomputable def spA (f : Nat) : Option Spec := cond (Nat.beq f 47) (some peekS) (cond (Nat.beq f 125) (some letterS) (cond (Nat.beq f 127) (some digitS) none))
noncomputable def FA : Nat → Option DFn := layer spA F

/-! ## the second layer -/

theorem FA_peek (rec : Rec) (PR : List Nat) (args : List DV) (H : HP) : callF FA rec PR 47 args H = peekR PR args H := rfl
theorem FA_letter (rec : Rec) (PR : List Nat) (args : List DV) (H : HP) : callF FA rec PR 125 args H = letterR PR args H := rfl
theorem FA_digit (rec : Rec) (PR : List Nat) (args : List DV) (H : HP) : callF FA rec PR 127 args H = digitR PR args H := rfl

noncomputable def isR : RunS := fun PR args H => match args with
  | [.ptr b 0, .str s] => Bool.rec (motive := fun _ => Option (Out × HP)) none (match prAt H b with
    | some p => match peekD p 0 with
      | some t => some (.ret (.bool (strEqF t.2.1 s)), H)
      | none => none
    | none => none) (prOk PR b H)
  | _ => none

theorem isR_some {PR : List Nat} {args : List DV} {H : HP} {r : Out × HP} (h : isR PR args H = some r) :
    ∃ b s p t, args = [.ptr b 0, .str s] ∧ prOk PR b H = true ∧ prAt H b = some p ∧ peekD p 0 = some t ∧ r = (.ret (.bool (strEqF t.2.1 s)), H) := by
  unfold isR at h
  split at h
  · rename_i b s
    cases hk : prOk PR b H
    · rw [hk] at h; cases h
    · rw [hk] at h
      simp only [] at h
      cases hp : prAt H b with
      | none => rw [hp] at h; cases h
      | some p =>
        rw [hp] at h
        simp only [] at h
        cases ht : peekD p 0 with
        | none => rw [ht] at h; cases h
        | some t => rw [ht] at h; cases h; exact ⟨b, s, p, t, rfl, hk, hp, ht, rfl⟩
  · cases h

theorem isR_ok {PR : List Nat} {args : List DV} {H : HP} {r : Out × HP} (h : isR PR args H = some r) : ∃ k, callD FA k PR 72 args H = some r := by
  obtain ⟨b, s, p, t, rfl, h1, h2, h3, rfl⟩ := isR_some h
  refine ⟨1, ?_⟩
  have hc : ∀ rec, callF FA rec PR 47 [.ptr b 0, .int .i64 0] H = some (.ret (.agg [.int .i64 t.1, .str t.2.1, .int .i64 t.2.2]), H) := fun rec => peekR_eq (n := 0) h1 h2 h3
  rw [strEqF_eq]
  rw [callD_code (f := 72) rfl]
  simp [Fast.nat_beq, exec, execB, runIns, stepIns, opDV, pureOp, protL, look, enterTm, rdc, restrict, setDst, putV, callOp, mkCells, DV.clean1, binDV, strOp, resOf, resVals, resVal, outOf, trunc, DV.ptrsLt, hc]

noncomputable def posR : RunS := fun PR args H => match args with
  | [.ptr b 0] => Bool.rec (motive := fun _ => Option (Out × HP)) none (match prAt H b with
    | some p => match peekD p 0 with
      | some t => some (.ret (.int .i64 t.2.2), H)
      | none => none
    | none => none) (prOk PR b H)
  | _ => none

theorem posR_some {PR : List Nat} {args : List DV} {H : HP} {r : Out × HP} (h : posR PR args H = some r) :
    ∃ b p t, args = [.ptr b 0] ∧ prOk PR b H = true ∧ prAt H b = some p ∧ peekD p 0 = some t ∧ r = (.ret (.int .i64 t.2.2), H) := by
  unfold posR at h
  split at h
  · rename_i b
    cases hk : prOk PR b H
    · rw [hk] at h; cases h
    · rw [hk] at h
      simp only [] at h
      cases hp : prAt H b with
      | none => rw [hp] at h; cases h
      | some p =>
        rw [hp] at h
        simp only [] at h
        cases ht : peekD p 0 with
        | none => rw [ht] at h; cases h
        | some t => rw [ht] at h; cases h; exact ⟨b, p, t, rfl, hk, hp, ht, rfl⟩
  · cases h

theorem posR_ok {PR : List Nat} {args : List DV} {H : HP} {r : Out × HP} (h : posR PR args H = some r) : ∃ k, callD FA k PR 29 args H = some r := by
  obtain ⟨b, p, t, rfl, h1, h2, h3, rfl⟩ := posR_some h
  refine ⟨1, ?_⟩
  have hc : ∀ rec, callF FA rec PR 47 [.ptr b 0, .int .i64 0] H = some (.ret (.agg [.int .i64 t.1, .str t.2.1, .int .i64 t.2.2]), H) := fun rec => peekR_eq (n := 0) h1 h2 h3
  rw [callD_code (f := 29) rfl]
  simp [Fast.nat_beq, exec, execB, runIns, stepIns, opDV, pureOp, protL, look, enterTm, rdc, restrict, setDst, putV, callOp, mkCells, DV.clean1, resOf, resVals, resVal, outOf, trunc, DV.ptrsLt, hc]

noncomputable def alnumR : RunS := fun _ args H => match args with
  | [.int .u8 c] => some (.ret (.bool (Bool.rec (motive := fun _ => Bool) (digitB c) true (letterB c))), H)
  | _ => none
theorem alnumR_ok {PR : List Nat} {args : List DV} {H : HP} {r : Out × HP} (h : alnumR PR args H = some r) : ∃ k, callD FA k PR 126 args H = some r := by
  refine ⟨1, ?_⟩
  unfold alnumR at h
  split at h
  · rename_i c
    cases h
    have h1 : ∀ rec PR, callF FA rec PR 125 [.int .u8 c] H = some (.ret (.bool (letterB c)), H) := fun _ _ => rfl
    have h2 : ∀ rec PR, callF FA rec PR 127 [.int .u8 c] H = some (.ret (.bool (digitB c)), H) := fun _ _ => rfl
    rw [callD_code (f := 126) rfl]
    cases hl : letterB c <;> simp [Fast.nat_beq, exec, execB, runIns, stepIns, opDV, pureOp, protL, look, enterTm, rdc, restrict, setDst, putV, callOp, DV.clean1, resOf, resVals, resVal, outOf, trunc, DV.ptrsLt, unown, h1, h2, hl]
  · cases h

noncomputable def isS : Spec := mkSpec FA 72 isR fun _ _ _ _ h => isR_ok h
noncomputable def posS : Spec := mkSpec FA 29 posR fun _ _ _ _ h => posR_ok h
noncomputable def alnumS : Spec := mkSpec FA 126 alnumR fun _ _ _ _ h => alnumR_ok h
noncomputable def spB (f : Nat) : Option Spec := cond (Nat.beq f 72) (some isS) (cond (Nat.beq f 29) (some posS) (cond (Nat.beq f 126) (some alnumS) none))
noncomputable def FB : Nat → Option DFn := layer spB FA

/-! ## the third layer -/

theorem isR_eq {PR : List Nat} {b : Nat} {s : List UInt8} {H : HP} {p : Pr} {t : Int × List UInt8 × Int} (h1 : prOk PR b H = true) (h2 : prAt H b = some p) (h3 : peekD p 0 = some t) :
    isR PR [.ptr b 0, .str s] H = some (.ret (.bool (strEqF t.2.1 s)), H) := by
  simp only [isR, h1, h2, h3]

/-- a parser one token on -/
noncomputable def Pr.step (p : Pr) (H : HP) (b : Nat) (v : DV) : Option (Out × HP) :=
  Bool.rec (motive := fun _ => Option (Out × HP)) none (some (.ret v, setF H b [p.ts, .int .i64 (.ofNat (p.at' + 1)), .int .i64 p.e])) (Nat.blt (p.at' + 1) 9223372036854775808)
theorem Pr.step_some {p : Pr} {H : HP} {b : Nat} {v : DV} {r : Out × HP} (h : p.step H b v = some r) : p.at' + 1 < 9223372036854775808 ∧ r = (.ret v, H.set b [p.ts, .int .i64 ((p.at' : Int) + 1), .int .i64 p.e]) := by
  unfold Pr.step at h
  cases hb : Nat.blt (p.at' + 1) 9223372036854775808
  · rw [hb] at h; cases h
  · rw [hb] at h
    cases h
    rw [setF_eq]
    exact ⟨Nat.le_of_ble_eq_true hb, rfl⟩

noncomputable def takeR : RunS := fun PR args H => match args with
  | [.ptr b 0, .str s] => Bool.rec (motive := fun _ => Option (Out × HP)) none (match prAt H b with
    | some p => match peekD p 0 with
      | some t => Bool.rec (motive := fun _ => Option (Out × HP)) (some (.ret (.bool false), H)) (p.step H b (.bool true)) (strEqF t.2.1 s)
      | none => none
    | none => none) (prOk PR b H)
  | _ => none

theorem takeR_some {PR : List Nat} {args : List DV} {H : HP} {r : Out × HP} (h : takeR PR args H = some r) :
    ∃ b s p t, args = [.ptr b 0, .str s] ∧ prOk PR b H = true ∧ prAt H b = some p ∧ peekD p 0 = some t ∧
      ((strEqF t.2.1 s = false ∧ r = (.ret (.bool false), H)) ∨ (strEqF t.2.1 s = true ∧ p.step H b (.bool true) = some r)) := by
  unfold takeR at h
  split at h
  · rename_i b s
    cases hk : prOk PR b H
    · rw [hk] at h; cases h
    · rw [hk] at h
      simp only [] at h
      cases hp : prAt H b with
      | none => rw [hp] at h; cases h
      | some p =>
        rw [hp] at h
        simp only [] at h
        cases ht : peekD p 0 with
        | none => rw [ht] at h; cases h
        | some t =>
          rw [ht] at h
          simp only [] at h
          refine ⟨b, s, p, t, rfl, hk, hp, ht, ?_⟩
          cases hs : strEqF t.2.1 s
          · rw [hs] at h; cases h; exact .inl ⟨rfl, rfl⟩
          · rw [hs] at h; exact .inr ⟨rfl, h⟩
  · cases h

theorem takeR_ok {PR : List Nat} {args : List DV} {H : HP} {r : Out × HP} (h : takeR PR args H = some r) : ∃ k, callD FB k PR 30 args H = some r := by
  obtain ⟨b, s, p, t, rfl, h1, h2, h3, h4⟩ := takeR_some h
  refine ⟨1, ?_⟩
  have hc : ∀ rec, callF FB rec PR 72 [.ptr b 0, .str s] H = some (.ret (.bool (strEqF t.2.1 s)), H) := fun rec => isR_eq h1 h2 h3
  obtain ⟨hp1, hp2⟩ := prOk_spec h1
  obtain ⟨hbl, hb2⟩ := List.getElem?_eq_some_iff.1 (prAt_spec h2)
  rw [callD_code (f := 30) rfl]
  rcases h4 with ⟨h4, rfl⟩ | ⟨h4, h5⟩
  · simp [Fast.nat_beq, exec, execB, runIns, stepIns, opDV, pureOp, protL, look, enterTm, rdc, restrict, setDst, putV, callOp, DV.clean1, resOf, resVals, resVal, outOf, trunc, DV.ptrsLt, hc, h4]
  · obtain ⟨h6, rfl⟩ := Pr.step_some h5
    have hw := wrap_nat h6
    push_cast at hw
    simp [Fast.nat_beq, exec, execB, runIns, stepIns, opDV, pureOp, protL, look, enterTm, rdc, rd, restrict, setDst, putV, callOp, loadOp, mayLoad, loadDV, storeTo, storeDV, mkCells, DV.clean1, lift, binDV, intOp, resOf, resVals, resVal, outOf, trunc, putAt, DV.cells, DV.cellOk, DV.ptrsLt, hc, h4, hw, hb2, hbl, hp1, Pr.cells]
    exact List.take_of_length_le (by simp)

/-- sign -/
noncomputable def hasSign (ss : List UInt8) (t : List UInt8) : Option Bool := match strOp .add [u 32] t with
  | some (.str x) => match strOp .add x [u 32] with
    | some (.str y) => match primDV .contains [.str ss, .str y] with
      | some (.bool c) => some c
      | _ => none
    | _ => none
  | _ => none

noncomputable def signR : RunS := fun PR args H => match args with
  | [.ptr b 0, .str ss] => Bool.rec (motive := fun _ => Option (Out × HP)) none (match prAt H b with
    | some p => match peekD p 0 with
      | some t => Bool.rec (motive := fun _ => Option (Out × HP)) (Bool.rec (motive := fun _ => Option (Out × HP)) (some (.ret (.str []), H)) (match hasSign ss t.2.1 with
          | some true => p.step H b (.str t.2.1)
          | some false => some (.ret (.str []), H)
          | none => none) (eqF t.1 3)) (some (.ret (.str []), H)) (emptyF t.2.1)
      | none => none
    | none => none) (prOk PR b H)
  | _ => none

theorem signR_some {PR : List Nat} {args : List DV} {H : HP} {r : Out × HP} (h : signR PR args H = some r) :
    ∃ b ss p t, args = [.ptr b 0, .str ss] ∧ prOk PR b H = true ∧ prAt H b = some p ∧ peekD p 0 = some t ∧
      ((t.2.1 = [] ∧ r = (.ret (.str []), H)) ∨ (t.2.1 ≠ [] ∧ t.1 ≠ 3 ∧ r = (.ret (.str []), H)) ∨ (t.2.1 ≠ [] ∧ t.1 = 3 ∧ hasSign ss t.2.1 = some false ∧ r = (.ret (.str []), H)) ∨
        (t.2.1 ≠ [] ∧ t.1 = 3 ∧ hasSign ss t.2.1 = some true ∧ p.step H b (.str t.2.1) = some r)) := by
  unfold signR at h
  split at h
  · rename_i b ss
    cases hk : prOk PR b H
    · rw [hk] at h; cases h
    · rw [hk] at h
      simp only [] at h
      cases hp : prAt H b with
      | none => rw [hp] at h; cases h
      | some p =>
        rw [hp] at h
        simp only [] at h
        cases ht : peekD p 0 with
        | none => rw [ht] at h; cases h
        | some t =>
          rw [ht] at h
          simp only [] at h
          refine ⟨b, ss, p, t, rfl, hk, hp, ht, ?_⟩
          cases he : emptyF t.2.1
          · rw [he, eqF_eq] at h
            have hne : t.2.1 ≠ [] := by rintro e; rw [e] at he; cases he
            cases h3 : t.1 == 3
            · rw [h3] at h
              cases h
              exact .inr (.inl ⟨hne, by simpa using h3, rfl⟩)
            · rw [h3] at h
              simp only [] at h
              have h3' : t.1 = 3 := by simpa using h3
              split at h
              · rename_i hs; exact .inr (.inr (.inr ⟨hne, h3', hs, h⟩))
              · rename_i hs; cases h; exact .inr (.inr (.inl ⟨hne, h3', hs, rfl⟩))
              · cases h
          · rw [he] at h
            cases h
            refine .inl ⟨?_, rfl⟩
            cases hx : t.2.1 with
            | nil => rfl
            | cons _ _ => rw [hx] at he; cases he
  · cases h

theorem hasSign_some {ss t : List UInt8} {c : Bool} (h : hasSign ss t = some c) : ∃ x y, strOp .add [u 32] t = some (.str x) ∧ strOp .add x [u 32] = some (.str y) ∧ primDV .contains [.str ss, .str y] = some (.bool c) := by
  unfold hasSign at h
  split at h
  · rename_i x hx
    split at h
    · rename_i y hy
      split at h
      · rename_i c' hc
        cases h
        exact ⟨x, y, hx, hy, hc⟩
      · cases h
    · cases h
  · cases h

theorem strOp_eql (a b : List UInt8) : strOp .eql a b = some (.bool (a == b)) := rfl

theorem signR_ok {PR : List Nat} {args : List DV} {H : HP} {r : Out × HP} (h : signR PR args H = some r) : ∃ k, callD FB k PR 75 args H = some r := by
  obtain ⟨b, ss, p, t, rfl, h1, h2, h3, h4⟩ := signR_some h
  refine ⟨1, ?_⟩
  have hc : ∀ rec, callF FB rec PR 47 [.ptr b 0, .int .i64 0] H = some (.ret (.agg [.int .i64 t.1, .str t.2.1, .int .i64 t.2.2]), H) := fun rec => peekR_eq (n := 0) h1 h2 h3
  obtain ⟨hp1, hp2⟩ := prOk_spec h1
  obtain ⟨hbl, hb2⟩ := List.getElem?_eq_some_iff.1 (prAt_spec h2)
  have hpr : ∀ rec PR args v, primDV .contains args = some v → callF FB rec PR 121 args H = some (.ret v, H) := by
    intro rec PR args v hv
    show (match primDV .contains args with | some v => some (Out.ret v, H) | none => none) = _
    rw [hv]
  obtain ⟨k, s, q⟩ := t
  simp only [] at h4 hc
  rw [callD_code (f := 75) rfl]
  rcases h4 with ⟨rfl, rfl⟩ | ⟨h4, h5, rfl⟩ | ⟨h4, rfl, h6, rfl⟩ | ⟨h4, rfl, h6, h7⟩
  · simp [Fast.nat_beq, exec, execB, runIns, stepIns, opDV, pureOp, protL, look, enterTm, rdc, restrict, setDst, putV, callOp, mkCells, DV.clean1, binDV, strOp, unDV, resOf, resVals, resVal, outOf, trunc, DV.ptrsLt, hc]
  · obtain ⟨c, r, rfl⟩ := List.exists_cons_of_ne_nil h4
    have hne : (k != 3) = true := by simpa using h5
    simp [Fast.nat_beq, exec, execB, runIns, stepIns, opDV, pureOp, protL, look, enterTm, rdc, restrict, setDst, putV, callOp, mkCells, DV.clean1, binDV, intOp, strOp, unDV, resOf, resVals, resVal, outOf, trunc, DV.ptrsLt, hc, hne]
  · obtain ⟨c, r, rfl⟩ := List.exists_cons_of_ne_nil h4
    obtain ⟨x, y, hx, hy, hcc⟩ := hasSign_some h6
    have hcall := fun rec PR => hpr rec PR _ _ hcc
    simp [Fast.nat_beq, exec, execB, runIns, stepIns, opDV, pureOp, protL, look, enterTm, rdc, restrict, setDst, putV, callOp, mkCells, DV.clean1, binDV, intOp, unDV, resOf, resVals, resVal, outOf, trunc, DV.ptrsLt, hc, hx, hy, hcall, strOp_eql]
  · obtain ⟨c, r, rfl⟩ := List.exists_cons_of_ne_nil h4
    obtain ⟨x, y, hx, hy, hcc⟩ := hasSign_some h6
    have hcall := fun rec PR => hpr rec PR _ _ hcc
    obtain ⟨h8, rfl⟩ := Pr.step_some h7
    have hw := wrap_nat h8
    push_cast at hw
    simp [Fast.nat_beq, exec, execB, runIns, stepIns, opDV, pureOp, protL, look, enterTm, rdc, rd, restrict, setDst, putV, callOp, loadOp, mayLoad, loadDV, storeTo, storeDV, mkCells, DV.clean1, lift, binDV, intOp, unDV, resOf, resVals, resVal, outOf, trunc, putAt, DV.cells, DV.cellOk, DV.ptrsLt, hc, hx, hy, hcall, strOp_eql, hw, hb2, hbl, hp1, Pr.cells]
    exact List.take_of_length_le (by simp)

noncomputable def takeS : Spec := mkSpec FB 30 takeR fun _ _ _ _ h => takeR_ok h
noncomputable def signS : Spec := mkSpec FB 75 signR fun _ _ _ _ h => signR_ok h
noncomputable def spC (f : Nat) : Option Spec := cond (Nat.beq f 30) (some takeS) (cond (Nat.beq f 75) (some signS) none)
noncomputable def FC : Nat → Option DFn := layer spC FB

end Go.Zd
