/- The abstract run in a form that the kernel evaluates faster. -/
import Derived.Test.YthcoldfgpigdhaaGreatDoorZA
namespace Go.Zd.Fast
open Go.Zd

abbrev TM := List (Nat × DV)
abbrev HP := List (List DV)
abbrev PL := List (Nat × Nat)

/-! ## lists -/

noncomputable def lenF {α : Type} (l : List α) : Nat := List.rec (motive := fun _ => Nat) 0 (fun _ _ ih => Nat.add ih 1) l
theorem lenF_eq {α : Type} (l : List α) : lenF l = l.length := by
  induction l with
  | nil => rfl
  | cons a r ih => show Nat.add (lenF r) 1 = r.length + 1; rw [ih]

noncomputable def appF {α : Type} (l m : List α) : List α := List.rec (motive := fun _ => List α) m (fun a _ ih => a :: ih) l
theorem appF_eq {α : Type} (l m : List α) : appF l m = l ++ m := by
  induction l with
  | nil => rfl
  | cons a r ih => show a :: appF r m = _; rw [ih]; rfl

noncomputable def mapF {α β : Type} (f : α → β) (l : List α) : List β := List.rec (motive := fun _ => List β) [] (fun a _ ih => f a :: ih) l
theorem mapF_eq {α β : Type} (f : α → β) (l : List α) : mapF f l = l.map f := by
  induction l with
  | nil => rfl
  | cons a r ih => show f a :: mapF f r = _; rw [ih]; rfl

noncomputable def nthF {α : Type} (l : List α) : Nat → Option α := List.rec (motive := fun _ => Nat → Option α) (fun _ => none) (fun a _ ih i => Nat.rec (motive := fun _ => Option α) (some a) (fun j _ => ih j) i) l
theorem nthF_eq {α : Type} (l : List α) (i : Nat) : nthF l i = l[i]? := by
  induction l generalizing i with
  | nil => rfl
  | cons a r ih => cases i with
    | zero => rfl
    | succ j => show nthF r j = _; rw [ih]; simp

noncomputable def setF {α : Type} (l : List α) (i : Nat) (v : α) : List α := List.rec (motive := fun _ => Nat → List α) (fun _ => []) (fun a r ih i => Nat.rec (motive := fun _ => List α) (v :: r) (fun j _ => a :: ih j) i) l i
theorem setF_eq {α : Type} (l : List α) (i : Nat) (v : α) : setF l i v = l.set i v := by
  induction l generalizing i with
  | nil => rfl
  | cons a r ih => cases i with
    | zero => rfl
    | succ j => show a :: setF r j v = _; rw [ih]; rfl

noncomputable def dropF {α : Type} (n : Nat) : List α → List α := Nat.rec (motive := fun _ => List α → List α) (fun l => l) (fun _ ih l => List.rec (motive := fun _ => List α) [] (fun _ r _ => ih r) l) n
theorem dropF_eq {α : Type} (n : Nat) (l : List α) : dropF n l = l.drop n := by
  induction n generalizing l with
  | zero => rfl
  | succ n ih => cases l with
    | nil => rfl
    | cons a r => show dropF n r = _; rw [ih]; rfl

noncomputable def takeF {α : Type} (n : Nat) : List α → List α := Nat.rec (motive := fun _ => List α → List α) (fun _ => []) (fun _ ih l => List.rec (motive := fun _ => List α) [] (fun a r _ => a :: ih r) l) n
theorem takeF_eq {α : Type} (n : Nat) (l : List α) : takeF n l = l.take n := by
  induction n generalizing l with
  | zero => rfl
  | succ n ih => cases l with
    | nil => rfl
    | cons a r => show a :: takeF n r = _; rw [ih]; rfl

noncomputable def allF {α : Type} (f : α → Bool) (l : List α) : Bool := List.rec (motive := fun _ => Bool) true (fun a _ ih => Bool.rec (motive := fun _ => Bool) false ih (f a)) l
theorem allF_eq {α : Type} (f : α → Bool) (l : List α) : allF f l = l.all f := by
  induction l with
  | nil => rfl
  | cons a r ih =>
    show Bool.rec (motive := fun _ => Bool) false (allF f r) (f a) = _
    rw [ih]
    cases h : f a <;> simp [h]

noncomputable def anyF {α : Type} (f : α → Bool) (l : List α) : Bool := List.rec (motive := fun _ => Bool) false (fun a _ ih => Bool.rec (motive := fun _ => Bool) ih true (f a)) l
theorem anyF_eq {α : Type} (f : α → Bool) (l : List α) : anyF f l = l.any f := by
  induction l with
  | nil => rfl
  | cons a r ih =>
    show Bool.rec (motive := fun _ => Bool) (anyF f r) true (f a) = _
    rw [ih]
    cases h : f a <;> simp [h]

noncomputable def emptyF {α : Type} (l : List α) : Bool := List.rec (motive := fun _ => Bool) true (fun _ _ _ => false) l
theorem emptyF_eq {α : Type} (l : List α) : emptyF l = l.isEmpty := by cases l <;> rfl

/-! ## values -/

noncomputable def cleanF (v : DV) : DV :=
  DV.rec (motive_1 := fun _ => DV) (motive_2 := fun _ => Unit)
    .undef .bool .int .str .nilptr .nilfunc .niliface .nilslice .ptr (fun c o _ => .snap c o)
    (fun fl w es _ => Fl.rec (motive := fun _ => DV) (.slice .sh w es) (.slice .ti w es) (.slice .sh w es) fl)
    (fun f a c _ _ => .func f a c) (fun t v _ => .iface t v) (fun c _ => .agg c) (fun c _ => .tuple c) () (fun _ _ _ _ => ()) v
theorem cleanF_eq (v : DV) : cleanF v = v.clean1 := by
  cases v <;> try rfl
  rename_i fl _ _
  cases fl <;> rfl

noncomputable def lookF (tm : TM) (t : Nat) : DV :=
  List.rec (motive := fun _ => DV) .undef (fun p _ ih => Bool.rec (motive := fun _ => DV) ih p.2 (Nat.beq p.1 t)) tm
theorem lookF_eq (tm : TM) (t : Nat) : lookF tm t = look tm t := by
  induction tm with
  | nil => rfl
  | cons p r ih =>
    show Bool.rec (lookF r t) p.2 (Nat.beq p.1 t) = cond (Nat.beq p.1 t) p.2 (look r t)
    cases Nat.beq p.1 t
    · exact ih
    · rfl

noncomputable def rdF (x : DX) : TM → DV := DX.rec (motive := fun _ => TM → DV) (fun n tm => lookF tm n) (fun v _ => v) x
noncomputable def rdcF (x : DX) : TM → DV := DX.rec (motive := fun _ => TM → DV) (fun n tm => cleanF (lookF tm n)) (fun v _ => cleanF v) x
theorem rdF_eq (tm : TM) (x : DX) : rdF x tm = rd tm x := by cases x <;> simp [rdF, rd, lookF_eq]
theorem rdcF_eq (tm : TM) (x : DX) : rdcF x tm = rdc tm x := by cases x <;> simp [rdcF, rdc, lookF_eq, cleanF_eq, DV.clean]

noncomputable def ptrsF (v : DV) : Nat → Bool :=
  DV.rec (motive_1 := fun _ => Nat → Bool) (motive_2 := fun _ => Nat → Bool)
    (fun _ => true) (fun _ _ => true) (fun _ _ _ => true) (fun _ _ => true) (fun _ => true) (fun _ => true) (fun _ => true) (fun _ => true)
    (fun b _ n => Nat.blt b n) (fun _ _ _ _ => true) (fun _ _ _ _ _ => true) (fun _ _ _ ia ic n => Bool.rec (motive := fun _ => Bool) false (ic n) (ia n)) (fun _ _ ih n => ih n) (fun _ ih n => ih n) (fun _ ih n => ih n)
    (fun _ => true) (fun _ _ ia ir n => Bool.rec (motive := fun _ => Bool) false (ir n) (ia n)) v
noncomputable def ptrsFL (l : List DV) : Nat → Bool :=
  DV.rec_1 (motive_1 := fun _ => Nat → Bool) (motive_2 := fun _ => Nat → Bool)
    (fun _ => true) (fun _ _ => true) (fun _ _ _ => true) (fun _ _ => true) (fun _ => true) (fun _ => true) (fun _ => true) (fun _ => true)
    (fun b _ n => Nat.blt b n) (fun _ _ _ _ => true) (fun _ _ _ _ _ => true) (fun _ _ _ ia ic n => Bool.rec (motive := fun _ => Bool) false (ic n) (ia n)) (fun _ _ ih n => ih n) (fun _ ih n => ih n) (fun _ ih n => ih n)
    (fun _ => true) (fun _ _ ia ir n => Bool.rec (motive := fun _ => Bool) false (ir n) (ia n)) l

theorem bool_and (a b : Bool) : Bool.rec (motive := fun _ => Bool) false b a = (a && b) := by cases a <;> rfl

mutual
theorem ptrsF_eq : ∀ (v : DV) (n : Nat), ptrsF v n = v.ptrsLt n
  | .undef, _ | .bool _, _ | .int _ _, _ | .str _, _ | .nilptr, _ | .nilfunc, _ | .niliface, _ | .nilslice, _ | .ptr _ _, _ | .snap _ _, _ | .slice _ _ _, _ => rfl
  | .func f a c, n => by
    show Bool.rec (motive := fun _ => Bool) false (ptrsFL c n) (ptrsFL a n) = _
    rw [bool_and, ptrsFL_eq a n, ptrsFL_eq c n]; rfl
  | .iface t v, n => by show ptrsF v n = _; rw [ptrsF_eq v n]; rfl
  | .agg l, n => by show ptrsFL l n = _; rw [ptrsFL_eq l n]; rfl
  | .tuple l, n => by show ptrsFL l n = _; rw [ptrsFL_eq l n]; rfl
theorem ptrsFL_eq : ∀ (l : List DV) (n : Nat), ptrsFL l n = DV.ptrsLtL n l
  | [], _ => rfl
  | v :: r, n => by
    show Bool.rec (motive := fun _ => Bool) false (ptrsFL r n) (ptrsF v n) = _
    rw [bool_and, ptrsF_eq v n, ptrsFL_eq r n]; rfl
end

/-- what may lie in a variable -/
noncomputable def cellF (v : DV) : Nat → Bool :=
  DV.rec (motive_1 := fun _ => Nat → Bool) (motive_2 := fun _ => Unit)
    (fun _ => false) (fun _ _ => true) (fun _ _ _ => true) (fun _ _ => true) (fun _ => true) (fun _ => true) (fun _ => true) (fun _ => true)
    (fun p _ b => Nat.blt p (b + 1)) (fun _ _ _ _ => false) (fun _ _ _ _ _ => true) (fun f a c _ _ b => ptrsF (.func f a c) (b + 1)) (fun _ v _ _ => ptrsF v 0) (fun _ _ _ => false) (fun _ _ _ => false) () (fun _ _ _ _ => ()) v
theorem cellF_eq (v : DV) (b : Nat) : cellF v b = v.cellOk b := by
  cases v <;> try rfl
  · rename_i f a c; exact ptrsF_eq (.func f a c) (b + 1)
  · rename_i t v; exact ptrsF_eq v 0

noncomputable def cellsF (v : DV) : List DV :=
  DV.rec (motive_1 := fun _ => List DV) (motive_2 := fun _ => Unit)
    [.undef] (fun b => [.bool b]) (fun k n => [.int k n]) (fun s => [.str s]) [.nilptr] [.nilfunc] [.niliface] [.nilslice] (fun b o => [.ptr b o]) (fun c o _ => [.snap c o])
    (fun fl w es _ => [.slice fl w es]) (fun f a c _ _ => [.func f a c]) (fun t v _ => [.iface t v]) (fun c _ => c) (fun c _ => [.tuple c]) () (fun _ _ _ _ => ()) v
theorem cellsF_eq (v : DV) : cellsF v = v.cells := by cases v <;> rfl

/-! ## numbers and strings -/

noncomputable def wrapS (k : IntKind) (top : Nat) (n : Int) : Int := Int.rec (motive := fun _ => Int) (fun m => Bool.rec (motive := fun _ => Int) (k.wrap (.ofNat m)) (.ofNat m) (Nat.blt m top)) (fun m => k.wrap (.negSucc m)) n
noncomputable def wrapF (k : IntKind) : Int → Int :=
  IntKind.rec (motive := fun _ => Int → Int) (wrapS .i8 128) (wrapS .i16 32768) (wrapS .i32 2147483648) (wrapS .i64 9223372036854775808) (wrapS .u8 256) (wrapS .u16 65536) (wrapS .u32 4294967296) (wrapS .u64 18446744073709551616) k
theorem wrapS_eq (k : IntKind) (top : Nat) (h : ∀ m : Nat, m < top → k.wrap (.ofNat m) = .ofNat m) (n : Int) : wrapS k top n = k.wrap n := by
  cases n with
  | ofNat m =>
    show Bool.rec (motive := fun _ => Int) (k.wrap (.ofNat m)) (.ofNat m) (Nat.blt m top) = _
    cases hb : Nat.blt m top
    · rfl
    · exact (h m (by simpa [Nat.blt_eq] using hb)).symm
  | negSucc m => rfl
theorem wrapF_eq (k : IntKind) (n : Int) : wrapF k n = k.wrap n := by
  cases k <;> refine wrapS_eq _ _ (fun m hm => ?_) n <;> simp only [IntKind.wrap, IntKind.bits, IntKind.signed] <;> simp <;> omega

noncomputable def addF (a : Int) : Int → Int := Int.rec (motive := fun _ => Int → Int) (fun m b => Int.rec (motive := fun _ => Int) (fun n => .ofNat (Nat.add m n)) (fun n => Int.add (.ofNat m) (.negSucc n)) b) (fun m b => Int.add (.negSucc m) b) a
theorem addF_eq (a b : Int) : addF a b = a + b := by cases a <;> cases b <;> rfl
noncomputable def eqF (a : Int) : Int → Bool := Int.rec (motive := fun _ => Int → Bool) (fun m b => Int.rec (motive := fun _ => Bool) (fun n => Nat.beq m n) (fun _ => false) b) (fun m b => Int.rec (motive := fun _ => Bool) (fun _ => false) (fun n => Nat.beq m n) b) a
theorem nat_beq (m n : Nat) : Nat.beq m n = decide (m = n) := by
  cases h : Nat.beq m n
  · exact (decide_eq_false (fun e => by subst e; rw [Nat.beq_refl] at h; cases h)).symm
  · exact (decide_eq_true (Nat.eq_of_beq_eq_true h)).symm
theorem eqF_eq (a b : Int) : eqF a b = (a == b) := by
  cases a <;> cases b
  · rename_i m n
    show Nat.beq m n = _
    rw [nat_beq, Bool.eq_iff_iff]; simp
    omega
  · rfl
  · rfl
  · rename_i m n
    show Nat.beq m n = _
    rw [nat_beq, Bool.eq_iff_iff]; simp
noncomputable def ltF (a : Int) : Int → Bool := Int.rec (motive := fun _ => Int → Bool) (fun m b => Int.rec (motive := fun _ => Bool) (fun n => Nat.blt m n) (fun n => decide (Int.ofNat m < .negSucc n)) b) (fun m b => decide (Int.negSucc m < b)) a
theorem ltF_eq (a b : Int) : ltF a b = decide (a < b) := by
  cases a <;> cases b <;> try rfl
  rename_i m n
  show Nat.blt m n = _
  rw [Bool.eq_iff_iff]; simp [Nat.blt_eq]
noncomputable def leF (a : Int) : Int → Bool := Int.rec (motive := fun _ => Int → Bool) (fun m b => Int.rec (motive := fun _ => Bool) (fun n => Nat.ble m n) (fun n => decide (Int.ofNat m ≤ .negSucc n)) b) (fun m b => decide (Int.negSucc m ≤ b)) a
theorem leF_eq (a b : Int) : leF a b = decide (a ≤ b) := by
  cases a <;> cases b <;> try rfl
  rename_i m n
  show Nat.ble m n = _
  rw [Bool.eq_iff_iff]; simp [Nat.ble_eq]

noncomputable def notF (b : Bool) : Bool := Bool.rec (motive := fun _ => Bool) true false b
theorem notF_eq (b : Bool) : notF b = !b := by cases b <;> rfl

noncomputable def strEqF (a : List UInt8) : List UInt8 → Bool :=
  List.rec (motive := fun _ => List UInt8 → Bool) (fun b => List.rec (motive := fun _ => Bool) true (fun _ _ _ => false) b)
    (fun x _ ih b => List.rec (motive := fun _ => Bool) false (fun y r _ => Bool.rec (motive := fun _ => Bool) false (ih r) (Nat.beq x.toBitVec.toFin.val y.toBitVec.toFin.val)) b) a
theorem strEqF_eq (a b : List UInt8) : strEqF a b = (a == b) := by
  induction a generalizing b with
  | nil => cases b <;> rfl
  | cons x r ih => cases b with
    | nil => rfl
    | cons y s =>
      show Bool.rec (motive := fun _ => Bool) false (strEqF r s) (Nat.beq x.toBitVec.toFin.val y.toBitVec.toFin.val) = _
      have e : decide (x.toBitVec.toFin.val = y.toBitVec.toFin.val) = (x == y) := by
        rw [Bool.eq_iff_iff, decide_eq_true_eq, beq_iff_eq]
        exact UInt8.toNat_inj
      rw [bool_and, ih, nat_beq, e]
      rfl

noncomputable def intF (op : BinOp) : IntKind → Int → Int → Option DV :=
  BinOp.rec (motive := fun _ => IntKind → Int → Int → Option DV)
    (fun k a b => some (.int k (wrapF k (addF a b)))) (intOp .sub) (intOp .mul) (intOp .quo) (intOp .rem) (intOp .and) (intOp .or) (intOp .xor) (intOp .shl) (intOp .shr) (intOp .andNot)
    (fun _ a b => some (.bool (eqF a b))) (fun _ a b => some (.bool (notF (eqF a b)))) (fun _ a b => some (.bool (ltF a b))) (fun _ a b => some (.bool (leF a b))) (fun _ a b => some (.bool (ltF b a))) (fun _ a b => some (.bool (leF b a))) op
theorem intF_eq (op : BinOp) (k : IntKind) (a b : Int) : intF op k a b = intOp op k a b := by
  cases op <;> try rfl
  · show some (DV.int k (wrapF k (addF a b))) = _; rw [wrapF_eq, addF_eq]; rfl
  · show some (DV.bool (eqF a b)) = _; rw [eqF_eq]; rfl
  · show some (DV.bool (notF (eqF a b))) = _; rw [eqF_eq, notF_eq]; rfl
  · show some (DV.bool (ltF a b)) = _; rw [ltF_eq]; rfl
  · show some (DV.bool (leF a b)) = _; rw [leF_eq]; rfl
  · show some (DV.bool (ltF b a)) = _; rw [ltF_eq]; rfl
  · show some (DV.bool (leF b a)) = _; rw [leF_eq]; rfl

noncomputable def strF (op : BinOp) : List UInt8 → List UInt8 → Option DV :=
  BinOp.rec (motive := fun _ => List UInt8 → List UInt8 → Option DV)
    (fun a b => Bool.rec (motive := fun _ => Option DV) none (some (.str (appF a b))) (Nat.ble (Nat.add (lenF a) (lenF b)) 1099511627776)) (strOp .sub) (strOp .mul) (strOp .quo) (strOp .rem) (strOp .and) (strOp .or) (strOp .xor) (strOp .shl) (strOp .shr) (strOp .andNot)
    (fun a b => some (.bool (strEqF a b))) (fun a b => some (.bool (notF (strEqF a b)))) (strOp .lss) (strOp .leq) (strOp .gtr) (strOp .geq) op
theorem strF_eq (op : BinOp) (a b : List UInt8) : strF op a b = strOp op a b := by
  cases op <;> try rfl
  · show Bool.rec (motive := fun _ => Option DV) none (some (.str (appF a b))) (Nat.ble (Nat.add (lenF a) (lenF b)) 1099511627776) = if a.length + b.length ≤ 1099511627776 then _ else _
    rw [appF_eq, lenF_eq, lenF_eq]
    show Bool.rec (motive := fun _ => Option DV) none (some (.str (a ++ b))) (Nat.ble (a.length + b.length) 1099511627776) = _
    by_cases h : a.length + b.length ≤ 1099511627776
    · rw [if_pos h, Nat.ble_eq_true_of_le h]
    · rw [if_neg h]
      cases hb : Nat.ble (a.length + b.length) 1099511627776
      · rfl
      · exact absurd (Nat.le_of_ble_eq_true hb) h
  · show some (DV.bool (strEqF a b)) = _; rw [strEqF_eq]; rfl
  · show some (DV.bool (notF (strEqF a b))) = _; rw [strEqF_eq, notF_eq]; rfl

noncomputable def byteEq (x y : UInt8) : Bool := Nat.beq x.toBitVec.toFin.val y.toBitVec.toFin.val
theorem byteEq_eq (x y : UInt8) : byteEq x y = (x == y) := by
  unfold byteEq
  rw [nat_beq, Bool.eq_iff_iff, decide_eq_true_eq, beq_iff_eq]
  exact UInt8.toNat_inj
noncomputable def prefF (p : List UInt8) : List UInt8 → Bool :=
  List.rec (motive := fun _ => List UInt8 → Bool) (fun _ => true) (fun x _ ih s => List.rec (motive := fun _ => Bool) false (fun y r _ => Bool.rec (motive := fun _ => Bool) false (ih r) (byteEq x y)) s) p
theorem prefF_eq (p s : List UInt8) : prefF p s = p.isPrefixOf s := by
  induction p generalizing s with
  | nil => cases s <;> rfl
  | cons x r ih => cases s with
    | nil => rfl
    | cons y q =>
      show Bool.rec (motive := fun _ => Bool) false (prefF r q) (byteEq x y) = _
      rw [bool_and, ih, byteEq_eq]; rfl
noncomputable def containsF (p : List UInt8) (s : List UInt8) : Bool :=
  List.rec (motive := fun _ => Bool) (emptyF p) (fun b r ih => Bool.rec (motive := fun _ => Bool) ih true (prefF p (b :: r))) s
theorem containsF_eq (p s : List UInt8) : containsF p s = containsL p s := by
  induction s with
  | nil => exact emptyF_eq p
  | cons b r ih =>
    show Bool.rec (motive := fun _ => Bool) (containsF p r) true (prefF p (b :: r)) = (p.isPrefixOf (b :: r) || containsL p r)
    rw [ih, prefF_eq]
    cases p.isPrefixOf (b :: r) <;> rfl
noncomputable def idxByteF (c : Int) (s : List UInt8) : Nat → Int :=
  List.rec (motive := fun _ => Nat → Int) (fun _ => -1) (fun b _ ih i => Bool.rec (motive := fun _ => Int) (ih (Nat.add i 1)) (.ofNat i) (eqF (.ofNat b.toBitVec.toFin.val) c)) s
theorem idxByteF_eq (c : Int) (s : List UInt8) (i : Nat) : idxByteF c s i = idxByte c s i := by
  induction s generalizing i with
  | nil => rfl
  | cons b r ih =>
    show Bool.rec (motive := fun _ => Int) (idxByteF c r (i + 1)) (.ofNat i) (eqF (.ofNat b.toNat) c) = if (b.toNat : Int) = c then (i : Int) else idxByte c r (i + 1)
    rw [ih, eqF_eq]
    by_cases h : (b.toNat : Int) = c
    · rw [if_pos h, show (Int.ofNat b.toNat == c) = true by simpa using h]
      rfl
    · rw [if_neg h, show (Int.ofNat b.toNat == c) = false by simpa using h]
      rfl

noncomputable def primF (p : Prim) : List DV → Option DV := Prim.rec (motive := fun _ => List DV → Option DV)
  (fun l => match l with
    | [.str s, .str p] => Bool.rec (motive := fun _ => Option DV) none (some (.bool (containsF p s))) (Nat.blt (lenF s) 4294967281)
    | l => primDV .contains l)
  (fun l => match l with
    | [.str s, .int .u8 c] => Bool.rec (motive := fun _ => Option DV) none (some (.int .i64 (idxByteF c s 0))) (Bool.rec (motive := fun _ => Bool) false (ltF c 256) (leF 0 c))
    | l => primDV .indexByte l)
  (fun l => match l with
    | [.str s, .str p] => some (.bool (prefF p s))
    | l => primDV .hasPrefix l)
  (fun l => primDV .parseUint l) (fun l => primDV .formatInt l) (fun l => primDV .itoa l) (fun l => primDV .join l) (fun l => primDV .cut l) p
theorem primF_eq (p : Prim) (l : List DV) : primF p l = primDV p l := by
  cases p <;> try rfl
  · show (match l with
      | [.str s, .str p] => Bool.rec (motive := fun _ => Option DV) none (some (DV.bool (containsF p s))) (Nat.blt (lenF s) 4294967281)
      | l => primDV .contains l) = _
    split
    · rename_i s p
      rw [containsF_eq, lenF_eq]
      show _ = if s.length < 4294967281 then some (DV.bool (containsL p s)) else none
      by_cases h : s.length < 4294967281
      · rw [if_pos h, show Nat.blt s.length 4294967281 = true from Nat.ble_eq_true_of_le h]
      · rw [if_neg h]
        cases hb : Nat.blt s.length 4294967281
        · rfl
        · exact absurd (Nat.le_of_ble_eq_true hb) h
    · rfl
  · show (match l with
      | [.str s, .int .u8 c] => Bool.rec (motive := fun _ => Option DV) none (some (DV.int .i64 (idxByteF c s 0))) (Bool.rec (motive := fun _ => Bool) false (ltF c 256) (leF 0 c))
      | l => primDV .indexByte l) = _
    split
    · rename_i s c
      rw [idxByteF_eq, bool_and, leF_eq, ltF_eq]
      show _ = if 0 ≤ c ∧ c < 256 then some (DV.int .i64 (idxByte c s 0)) else none
      by_cases h1 : 0 ≤ c <;> by_cases h2 : c < 256 <;> simp [h1, h2]
    · rfl
  · show (match l with
      | [.str s, .str p] => some (DV.bool (prefF p s))
      | l => primDV .hasPrefix l) = _
    split
    · rw [prefF_eq]; rfl
    · rfl

end Go.Zd.Fast
namespace Go.Zd.Fast
open Go.Zd

/-- the answer -/
abbrev A := Option (Out × HP)
abbrev KN := TM → HP → A
abbrev KX := Ex → TM → HP → A
abbrev KO := TM → HP → PL → A
abbrev RecF := List Nat → DCode → TM → HP → KN → KX → A

noncomputable def optF {α : Type} (o : Option α) : (α → A) → A := Option.rec (motive := fun _ => (α → A) → A) (fun _ => none) (fun v k => k v) o
noncomputable def setT (d : Option Nat) : DV → TM → TM := Option.rec (motive := fun _ => DV → TM → TM) (fun _ tm => tm) (fun t v tm => (t, v) :: tm) d

/-! ## dispatch on values -/
noncomputable def boolF (v : DV) : A → A → A :=
  DV.rec (motive_1 := fun _ => A → A → A) (motive_2 := fun _ => Unit)
    (fun _ _ => none) (fun c a b => Bool.rec (motive := fun _ => A) b a c) (fun _ _ _ _ => none) (fun _ _ _ => none) (fun _ _ => none) (fun _ _ => none) (fun _ _ => none) (fun _ _ => none)
    (fun _ _ _ _ => none) (fun _ _ _ _ _ => none) (fun _ _ _ _ _ _ => none) (fun _ _ _ _ _ _ _ => none) (fun _ _ _ _ _ => none) (fun _ _ _ _ => none) (fun _ _ _ _ => none) () (fun _ _ _ _ => ()) v
noncomputable def funcF (v : DV) : (Nat → List DV → List DV → A) → A :=
  DV.rec (motive_1 := fun _ => (Nat → List DV → List DV → A) → A) (motive_2 := fun _ => Unit)
    (fun _ => none) (fun _ _ => none) (fun _ _ _ => none) (fun _ _ => none) (fun _ => none) (fun _ => none) (fun _ => none) (fun _ => none)
    (fun _ _ _ => none) (fun _ _ _ _ => none) (fun _ _ _ _ _ => none) (fun g a c _ _ k => k g a c) (fun _ _ _ _ => none) (fun _ _ _ => none) (fun _ _ _ => none) () (fun _ _ _ _ => ()) v
noncomputable def ifaceF (v : DV) : (Nat → DV → A) → A :=
  DV.rec (motive_1 := fun _ => (Nat → DV → A) → A) (motive_2 := fun _ => Unit)
    (fun _ => none) (fun _ _ => none) (fun _ _ _ => none) (fun _ _ => none) (fun _ => none) (fun _ => none) (fun _ => none) (fun _ => none)
    (fun _ _ _ => none) (fun _ _ _ _ => none) (fun _ _ _ _ _ => none) (fun _ _ _ _ _ _ => none) (fun t v _ k => k t v) (fun _ _ _ => none) (fun _ _ _ => none) () (fun _ _ _ _ => ()) v

/-! ## pure operations -/

noncomputable def kindN (k : IntKind) : Nat := IntKind.rec (motive := fun _ => Nat) 0 1 2 3 4 5 6 7 k
theorem kindN_eq (k k' : IntKind) : Nat.beq (kindN k) (kindN k') = decide (k = k') := by cases k <;> cases k' <;> rfl
/-- operations that want the same kind -/
noncomputable def sameK (op : BinOp) (k : IntKind) (a : Int) (k' : IntKind) (b : Int) : Option DV := Bool.rec (motive := fun _ => Option DV) none (intF op k a b) (Nat.beq (kindN k) (kindN k'))
noncomputable def binII (op : BinOp) : IntKind → Int → IntKind → Int → Option DV :=
  BinOp.rec (motive := fun _ => IntKind → Int → IntKind → Int → Option DV) (sameK .add) (sameK .sub) (sameK .mul) (sameK .quo) (sameK .rem) (sameK .and) (sameK .or) (sameK .xor)
    (fun k a _ b => shiftOp .shl k a b) (fun k a _ b => shiftOp .shr k a b) (sameK .andNot) (sameK .eql) (sameK .neq) (sameK .lss) (sameK .leq) (sameK .gtr) (sameK .geq) op

noncomputable def binIy (y : DV) : BinOp → IntKind → Int → Option DV :=
  DV.rec (motive_1 := fun _ => BinOp → IntKind → Int → Option DV) (motive_2 := fun _ => Unit)
    (fun _ _ _ => none) (fun _ _ _ _ => none) (fun k' b op k a => binII op k a k' b) (fun _ _ _ _ => none) (fun _ _ _ => none) (fun _ _ _ => none) (fun _ _ _ => none) (fun _ _ _ => none)
    (fun _ _ _ _ _ => none) (fun _ _ _ _ _ _ => none) (fun _ _ _ _ _ _ _ => none) (fun _ _ _ _ _ _ _ _ => none) (fun _ _ _ _ _ _ => none) (fun _ _ _ _ _ => none) (fun _ _ _ _ _ => none) () (fun _ _ _ _ => ()) y
noncomputable def binSy (y : DV) : BinOp → List UInt8 → Option DV :=
  DV.rec (motive_1 := fun _ => BinOp → List UInt8 → Option DV) (motive_2 := fun _ => Unit)
    (fun _ _ => none) (fun _ _ _ => none) (fun _ _ _ _ => none) (fun t op s => strF op s t) (fun _ _ => none) (fun _ _ => none) (fun _ _ => none) (fun _ _ => none)
    (fun _ _ _ _ => none) (fun _ _ _ _ _ => none) (fun _ _ _ _ _ _ => none) (fun _ _ _ _ _ _ _ => none) (fun _ _ _ _ _ => none) (fun _ _ _ _ => none) (fun _ _ _ _ => none) () (fun _ _ _ _ => ()) y
noncomputable def binI (x : DV) : BinOp → DV → Option DV :=
  DV.rec (motive_1 := fun _ => BinOp → DV → Option DV) (motive_2 := fun _ => Unit)
    (fun _ _ => none) (fun _ _ _ => none) (fun k a op y => binIy y op k a) (fun s op y => binSy y op s) (fun _ _ => none) (fun _ _ => none) (fun _ _ => none) (fun _ _ => none)
    (fun _ _ _ _ => none) (fun _ _ _ _ _ => none) (fun _ _ _ _ _ _ => none) (fun _ _ _ _ _ _ _ => none) (fun _ _ _ _ _ => none) (fun _ _ _ _ => none) (fun _ _ _ _ => none) () (fun _ _ _ _ => ()) x
theorem sameK_eq (op : BinOp) (k : IntKind) (a : Int) (k' : IntKind) (b : Int) : sameK op k a k' b = if k = k' then intOp op k a b else none := by
  unfold sameK
  rw [kindN_eq, intF_eq]
  by_cases h : k = k' <;> simp [h]
theorem binI_eq (op : BinOp) (x y : DV) : binI x op y = binDV 0 op x y := by
  cases x <;> try (cases y <;> rfl; done)
  · rename_i k a
    cases y <;> try rfl
    rename_i k' b
    show binII op k a k' b = _
    cases op <;> first | exact sameK_eq _ _ _ _ _ | rfl
  · rename_i s
    cases y <;> try rfl
    rename_i t
    show strF op s t = _
    rw [strF_eq]
    rfl
noncomputable def binF (ty : Nat) : BinOp → DV → DV → Option DV :=
  Nat.rec (motive := fun _ => BinOp → DV → DV → Option DV) (fun op x y => binI x op y) (fun n _ op x y => binDV (n + 1) op x y) ty

theorem binF_eq (ty : Nat) (op : BinOp) (x y : DV) : binF ty op x y = binDV ty op x y := by
  cases ty with
  | zero => exact binI_eq op x y
  | succ n => rfl

/-- one cell of cells -/
noncomputable def cell1 (cs : List DV) (o : Nat) : Option DV := Option.rec (motive := fun _ => Option DV) none (fun v => some (cleanF v)) (nthF cs o)
noncomputable def loadC (agg : Bool) : Nat → List DV → Nat → Option DV :=
  Bool.rec (motive := fun _ => Nat → List DV → Nat → Option DV)
    (fun n cs o => Nat.rec (motive := fun _ => Option DV) (if o + n ≤ cs.length then mkCells false (((cs.drop o).take n).map DV.clean1) else none) (fun m _ => Nat.rec (motive := fun _ => Option DV) (cell1 cs o) (fun _ _ => if o + n ≤ cs.length then mkCells false (((cs.drop o).take n).map DV.clean1) else none) m) n)
    (fun n cs o => Bool.rec (motive := fun _ => Option DV) none (some (.agg (mapF cleanF (takeF n (dropF o cs))))) (Nat.ble (Nat.add o n) (lenF cs))) agg
theorem cell1_eq (cs : List DV) (o : Nat) : cell1 cs o = (cs[o]?).map DV.clean := by
  unfold cell1
  rw [nthF_eq]
  cases cs[o]? with
  | none => rfl
  | some v => simp [cleanF_eq, DV.clean]
theorem loadC_eq (agg : Bool) (n : Nat) (cs : List DV) (o : Nat) : loadC agg n cs o = if o + n ≤ cs.length then mkCells agg (((cs.drop o).take n).map DV.clean1) else none := by
  cases agg with
  | false =>
    cases n with
    | zero => rfl
    | succ m => cases m with
      | succ _ => rfl
      | zero =>
        show cell1 cs o = _
        rw [cell1_eq]
        by_cases h : o < cs.length
        · rw [if_pos (by omega), List.getElem?_eq_getElem h, List.drop_eq_getElem_cons h]
          rfl
        · rw [if_neg (by omega), List.getElem?_eq_none (by omega)]
          rfl
  | true =>
    show Bool.rec (motive := fun _ => Option DV) none (some (.agg (mapF cleanF (takeF n (dropF o cs))))) (Nat.ble (o + n) (lenF cs)) = _
    rw [mapF_eq, takeF_eq, dropF_eq, lenF_eq, show cleanF = DV.clean1 from funext cleanF_eq]
    by_cases h : o + n ≤ cs.length
    · rw [if_pos h, Nat.ble_eq_true_of_le h]; rfl
    · rw [if_neg h]
      cases hb : Nat.ble (o + n) cs.length
      · rfl
      · exact absurd (Nat.le_of_ble_eq_true hb) h
noncomputable def loadF (v : DV) : HP → Bool → Nat → Option DV :=
  DV.rec (motive_1 := fun _ => HP → Bool → Nat → Option DV) (motive_2 := fun _ => Unit)
    (fun _ _ _ => none) (fun _ _ _ _ => none) (fun _ _ _ _ _ => none) (fun _ _ _ _ => none) (fun _ _ _ => none) (fun _ _ _ => none) (fun _ _ _ => none) (fun _ _ _ => none)
    (fun b o H agg n => Option.rec (motive := fun _ => Option DV) none (fun cs => loadC agg n cs o) (nthF H b)) (fun c o _ _ agg n => loadC agg n c o)
    (fun _ _ _ _ _ _ _ => none) (fun _ _ _ _ _ _ _ _ => none) (fun _ _ _ _ _ _ => none) (fun _ _ _ _ _ => none) (fun _ _ _ _ _ => none) () (fun _ _ _ _ => ()) v

theorem loadF_eq (v : DV) (H : HP) (agg : Bool) (n : Nat) : loadF v H agg n = loadDV H agg n v := by
  cases v <;> try rfl
  · rename_i b o
    show Option.rec (motive := fun _ => Option DV) none (fun cs => loadC agg n cs o) (nthF H b) = _
    rw [nthF_eq]
    simp only [loadDV]
    cases H[b]? with
    | none => rfl
    | some cs => exact loadC_eq agg n cs o
  · rename_i cs o
    exact loadC_eq agg n cs o
noncomputable def fldF (v : DV) : Bool → Nat → Nat → Option DV :=
  DV.rec (motive_1 := fun _ => Bool → Nat → Nat → Option DV) (motive_2 := fun _ => Unit)
    (fun _ _ _ => none) (fun _ _ _ _ => none) (fun _ _ _ _ _ => none) (fun _ _ _ _ => none) (fun _ _ _ => none) (fun _ _ _ => none) (fun _ _ _ => none) (fun _ _ _ => none)
    (fun _ _ _ _ _ => none) (fun _ _ _ _ _ _ => none)
    (fun _ _ _ _ _ _ _ => none) (fun _ _ _ _ _ _ _ _ => none) (fun _ _ _ _ _ _ => none) (fun cs _ agg n o => loadC agg n cs o) (fun _ _ _ _ _ => none) () (fun _ _ _ _ => ()) v

noncomputable def tupF (v : DV) : Nat → Option DV :=
  DV.rec (motive_1 := fun _ => Nat → Option DV) (motive_2 := fun _ => Unit)
    (fun _ => none) (fun _ _ => none) (fun _ _ _ => none) (fun _ _ => none) (fun _ => none) (fun _ => none) (fun _ => none) (fun _ => none)
    (fun _ _ _ => none) (fun _ _ _ _ => none) (fun _ _ _ _ _ => none) (fun _ _ _ _ _ _ => none) (fun _ _ _ _ => none) (fun _ _ _ => none) (fun c _ i => cell1 c i) () (fun _ _ _ _ => ()) v

noncomputable def natI (v : DV) : Option Nat :=
  DV.rec (motive_1 := fun _ => Option Nat) (motive_2 := fun _ => Unit)
    none (fun _ => none) (fun _ n => Int.rec (motive := fun _ => Option Nat) (fun m => some m) (fun _ => none) n) (fun _ => none) none none none none
    (fun _ _ => none) (fun _ _ _ => none) (fun _ _ _ _ => none) (fun _ _ _ _ _ => none) (fun _ _ _ => none) (fun _ _ => none) (fun _ _ => none) () (fun _ _ _ _ => ()) v

noncomputable def iaddrF (v : DV) : Nat → Nat → Option DV :=
  DV.rec (motive_1 := fun _ => Nat → Nat → Option DV) (motive_2 := fun _ => Unit)
    (fun _ _ => none) (fun _ _ _ => none) (fun _ _ _ _ => none) (fun _ _ _ => none) (fun _ _ => none) (fun _ _ => none) (fun _ _ => none) (fun _ _ => none)
    (fun _ _ _ _ => none) (fun _ _ _ _ _ => none)
    (fun _ w es _ wd i => Bool.rec (motive := fun _ => Option DV) none (Option.rec (motive := fun _ => Option DV) none (fun v => some (.snap (cellsF v) 0)) (nthF es i)) (Nat.beq w wd)) (fun _ _ _ _ _ _ _ => none) (fun _ _ _ _ _ => none) (fun _ _ _ _ => none) (fun _ _ _ _ => none) () (fun _ _ _ _ => ()) v

noncomputable def idxF (v : DV) : Nat → Option DV :=
  DV.rec (motive_1 := fun _ => Nat → Option DV) (motive_2 := fun _ => Unit)
    (fun _ => none) (fun _ _ => none) (fun _ _ _ => none) (fun s i => Option.rec (motive := fun _ => Option DV) none (fun b => some (.int .u8 (.ofNat b.toBitVec.toFin.val))) (nthF s i)) (fun _ => none) (fun _ => none) (fun _ => none) (fun _ => none)
    (fun _ _ _ => none) (fun _ _ _ _ => none) (fun _ _ _ _ _ => none) (fun _ _ _ _ _ _ => none) (fun _ _ _ _ => none) (fun _ _ _ => none) (fun _ _ _ => none) () (fun _ _ _ _ => ()) v

noncomputable def lenV (v : DV) : Bool → Option DV :=
  DV.rec (motive_1 := fun _ => Bool → Option DV) (motive_2 := fun _ => Unit)
    (fun _ => none) (fun _ _ => none) (fun _ _ _ => none) (fun s b => Bool.rec (motive := fun _ => Option DV) none (some (.int .i64 (.ofNat (lenF s)))) b) (fun _ => none) (fun _ => none) (fun _ => none) (fun b => Bool.rec (motive := fun _ => Option DV) (some (.int .i64 (.ofNat 0))) none b)
    (fun _ _ _ => none) (fun _ _ _ _ => none) (fun _ _ es _ b => Bool.rec (motive := fun _ => Option DV) (some (.int .i64 (.ofNat (lenF es)))) none b) (fun _ _ _ _ _ _ => none) (fun _ _ _ _ => none) (fun _ _ _ => none) (fun _ _ _ => none) () (fun _ _ _ _ => ()) v

noncomputable def nilF (v : DV) : Option DV :=
  DV.rec (motive_1 := fun _ => Option DV) (motive_2 := fun _ => Unit)
    none (fun _ => none) (fun _ _ => none) (fun _ => none) none none none none
    (fun b o => some (.ptr b o)) (fun c o _ => some (.snap c o)) (fun _ _ _ _ => none) (fun f a c _ _ => some (.func f a c)) (fun _ _ _ => none) (fun _ _ => none) (fun _ _ => none) () (fun _ _ _ _ => ()) v

noncomputable def faddrF (v : DV) : Nat → Option DV :=
  DV.rec (motive_1 := fun _ => Nat → Option DV) (motive_2 := fun _ => Unit)
    (fun _ => none) (fun _ _ => none) (fun _ _ _ => none) (fun _ _ => none) (fun _ => none) (fun _ => none) (fun _ => none) (fun _ => none)
    (fun b o off => some (.ptr b (Nat.add o off))) (fun c o _ off => Bool.rec (motive := fun _ => Option DV) none (some (.snap c (Nat.add o off))) (Nat.blt (Nat.add o off) (lenF c))) (fun _ _ _ _ _ => none) (fun _ _ _ _ _ _ => none) (fun _ _ _ _ => none) (fun _ _ _ => none) (fun _ _ _ => none) () (fun _ _ _ _ => ()) v

theorem fldF_eq (v : DV) (tm : TM) (agg : Bool) (n off : Nat) (x : DX) (h : rdc tm x = v) : fldF v agg n off = pureOp tm (.fld agg n off x) := by
  simp only [pureOp, h]
  cases v <;> try rfl
  exact loadC_eq agg n _ off
theorem tupF_eq (v : DV) (tm : TM) (i : Nat) (x : DX) (h : rdc tm x = v) : tupF v i = pureOp tm (.extract x i) := by
  simp only [pureOp, h]
  cases v <;> try rfl
  rename_i c
  show cell1 c i = _
  rw [cell1_eq]
  simp only []
  cases c[i]? <;> rfl
theorem natI_eq (v : DV) : natI v = toNatIdx v := by
  cases v <;> try rfl
  rename_i k n
  cases n with
  | ofNat m => simp [natI, toNatIdx]
  | negSucc m => simp [natI, toNatIdx]
theorem iaddrF_eq (v : DV) (tm : TM) (wd : Nat) (x i : DX) (h : rdc tm x = v) (j : Nat) (hj : toNatIdx (rdc tm i) = some j) : iaddrF v wd j = pureOp tm (.iaddr wd x i) := by
  simp only [pureOp, h, hj]
  cases v <;> try rfl
  rename_i fl w es
  show Bool.rec (motive := fun _ => Option DV) none (Option.rec (motive := fun _ => Option DV) none (fun v => some (.snap (cellsF v) 0)) (nthF es j)) (Nat.beq w wd) = _
  simp only [nthF_eq]
  cases Nat.beq w wd
  · rfl
  · simp only [if_true]
    cases es[j]? with
    | none => rfl
    | some v => simp [cellsF_eq]
theorem idxF_eq (v : DV) (tm : TM) (x i : DX) (h : rdc tm x = v) (j : Nat) (hj : toNatIdx (rdc tm i) = some j) : idxF v j = pureOp tm (.idx x i) := by
  simp only [pureOp, h, hj]
  cases v <;> try rfl
  rename_i s
  show Option.rec (motive := fun _ => Option DV) none (fun b => some (.int .u8 (.ofNat b.toBitVec.toFin.val))) (nthF s j) = _
  rw [nthF_eq]
  simp only []
  cases s[j]? <;> rfl
theorem lenV_eq (v : DV) (tm : TM) (b : Bool) (x : DX) (h : rdc tm x = v) : lenV v b = pureOp tm (.len b x) := by
  simp only [pureOp, h]
  cases v <;> cases b <;> try rfl
  · show some (DV.int .i64 (.ofNat (lenF _))) = _; rw [lenF_eq]; rfl
  · show some (DV.int .i64 (.ofNat (lenF _))) = _; rw [lenF_eq]; rfl
theorem nilF_eq (v : DV) (tm : TM) (x : DX) (h : rdc tm x = v) : nilF v = pureOp tm (.nilchk x) := by
  simp only [pureOp, h]
  cases v <;> rfl
theorem faddrF_eq (v : DV) (tm : TM) (off : Nat) (x : DX) (h : rdc tm x = v) : faddrF v off = pureOp tm (.faddr off x) := by
  simp only [pureOp, h]
  cases v <;> try rfl
  rename_i c o
  show Bool.rec (motive := fun _ => Option DV) none (some (.snap c (o + off))) (Nat.blt (o + off) (lenF c)) = _
  rw [lenF_eq]
  show _ = if o + off < c.length then some (DV.snap c (o + off)) else none
  by_cases hh : o + off < c.length
  · rw [if_pos hh, show Nat.blt (o + off) c.length = true from Nat.ble_eq_true_of_le hh]
  · simp only [hh, if_false]
    cases hb : Nat.blt (o + off) c.length
    · rfl
    · exact absurd (Nat.le_of_ble_eq_true hb) hh

/-- a bound of a slice expression -/
noncomputable def bndF (o : Option DX) : TM → Nat → Option Nat := Option.rec (motive := fun _ => TM → Nat → Option Nat) (fun _ n => some n) (fun x tm _ => natI (rdcF x tm)) o
theorem bndF_eq (o : Option DX) (tm : TM) (n : Nat) : bndF o tm n = bndV n (evO tm o) := by
  cases o with
  | none => rfl
  | some x =>
    show natI (rdcF x tm) = _
    rw [natI_eq, rdcF_eq]; rfl
noncomputable def cutF {α : Type} (l : List α) (lo hi : Option Nat) (mk : List α → DV) : Option DV :=
  Option.rec (motive := fun _ => Option DV) none (fun a => Option.rec (motive := fun _ => Option DV) none (fun b => Bool.rec (motive := fun _ => Option DV) none (some (mk (dropF a (takeF b l)))) (Bool.rec (motive := fun _ => Bool) false (Nat.ble b (lenF l)) (Nat.ble a b))) hi) lo
theorem cutF_eq {α : Type} (l : List α) (lo hi : Option Nat) (mk : List α → DV) : cutF l lo hi mk = match lo, hi with
    | some a, some b => if a ≤ b ∧ b ≤ l.length then some (mk ((l.take b).drop a)) else none
    | _, _ => none := by
  cases lo with
  | none => rfl
  | some a => cases hi with
    | none => rfl
    | some b =>
      show Bool.rec (motive := fun _ => Option DV) none (some (mk (dropF a (takeF b l)))) (Bool.rec (motive := fun _ => Bool) false (Nat.ble b (lenF l)) (Nat.ble a b)) = _
      rw [dropF_eq, takeF_eq, lenF_eq]
      simp only []
      by_cases h1 : a ≤ b
      · rw [show Nat.ble a b = true from Nat.ble_eq_true_of_le h1]
        simp only []
        by_cases h2 : b ≤ l.length
        · rw [show Nat.ble b l.length = true from Nat.ble_eq_true_of_le h2, if_pos ⟨h1, h2⟩]
        · rw [if_neg (fun h => h2 h.2)]
          cases hb : Nat.ble b l.length
          · rfl
          · exact absurd (Nat.le_of_ble_eq_true hb) h2
      · rw [if_neg (fun h => h1 h.1)]
        cases hb : Nat.ble a b
        · rfl
        · exact absurd (Nat.le_of_ble_eq_true hb) h1

/-- a part of a string, or of a slice, without a third bound -/
noncomputable def slcF (v : DV) (tm : TM) (str : Bool) (wd : Nat) (x : DX) (lo hi mx : Option DX) : Option DV :=
  Option.rec (motive := fun _ => Option DV)
    (Bool.rec (motive := fun _ => Option DV)
      (match v with
        | .slice _ w es => Bool.rec (motive := fun _ => Option DV) none (cutF es (bndF lo tm 0) (bndF hi tm (lenF es)) fun l => .slice .sh w l) (Nat.beq w wd)
        | _ => pureOp tm (.slc str wd x lo hi mx))
      (match v with
        | .str s => cutF s (bndF lo tm 0) (bndF hi tm (lenF s)) fun l => .str l
        | _ => pureOp tm (.slc str wd x lo hi mx)) str)
    (fun _ => pureOp tm (.slc str wd x lo hi mx)) mx
theorem slcF_eq (v : DV) (tm : TM) (str : Bool) (wd : Nat) (x : DX) (lo hi mx : Option DX) (h : rdc tm x = v) : slcF v tm str wd x lo hi mx = pureOp tm (.slc str wd x lo hi mx) := by
  cases mx with
  | some _ => rfl
  | none =>
    cases str with
    | true =>
      cases v <;> try rfl
      rename_i s
      show cutF s (bndF lo tm 0) (bndF hi tm (lenF s)) (fun l => .str l) = _
      rw [cutF_eq, bndF_eq, bndF_eq, lenF_eq]
      simp only [pureOp, h, slcDV, show evO tm none = none from rfl]
      cases bndV 0 (evO tm lo) <;> cases bndV s.length (evO tm hi) <;> rfl
    | false =>
      cases v <;> try rfl
      rename_i fl w es
      show Bool.rec (motive := fun _ => Option DV) none (cutF es (bndF lo tm 0) (bndF hi tm (lenF es)) fun l => .slice .sh w l) (Nat.beq w wd) = _
      rw [cutF_eq, bndF_eq, bndF_eq, lenF_eq]
      simp only [pureOp, h, slcDV, show evO tm none = none from rfl]
      cases Nat.beq w wd
      · rfl
      · simp only [Bool.not_true, Bool.false_eq_true, if_false]
        cases bndV 0 (evO tm lo) <;> cases bndV es.length (evO tm hi) <;> rfl

/-- conversions of numbers -/
noncomputable def convF (v : DV) : IntKind → Option DV :=
  DV.rec (motive_1 := fun _ => IntKind → Option DV) (motive_2 := fun _ => Unit)
    (fun _ => none) (fun _ _ => none) (fun _ n k => some (.int k (wrapF k n))) (fun _ _ => none) (fun _ => none) (fun _ => none) (fun _ => none) (fun _ => none)
    (fun _ _ _ => none) (fun _ _ _ _ => none) (fun _ _ _ _ _ => none) (fun _ _ _ _ _ _ => none) (fun _ _ _ _ => none) (fun _ _ _ => none) (fun _ _ _ => none) () (fun _ _ _ _ => ()) v
theorem convF_eq (v : DV) (tm : TM) (k : IntKind) (x : DX) (h : rdc tm x = v) : convF v k = pureOp tm (.conv k x) := by
  simp only [pureOp, h]
  cases v <;> try rfl
  show some (DV.int k (wrapF k _)) = _
  rw [wrapF_eq]

/-- a value of several cells: the parts that are one cell -/
noncomputable def buildF (parts : List (Nat × Nat × DX)) : TM → List DV → Option (List DV) :=
  List.rec (motive := fun _ => TM → List DV → Option (List DV)) (fun _ z => some z)
    (fun p r ih tm z => Bool.rec (motive := fun _ => Option (List DV)) (buildDV tm z (p :: r))
      (List.rec (motive := fun _ => Option (List DV)) (buildDV tm z (p :: r)) (fun v q _ => List.rec (motive := fun _ => Option (List DV))
          (Bool.rec (motive := fun _ => Option (List DV)) (buildDV tm z (p :: r)) (Bool.rec (motive := fun _ => Option (List DV)) (ih tm (setF z p.1 v)) (buildDV tm z (p :: r)) (DV.isU v)) (Nat.blt p.1 (lenF z)))
          (fun _ _ _ => buildDV tm z (p :: r)) q) (cellsF (rdcF p.2.2 tm))) (Nat.beq p.2.1 1)) parts
theorem cells_one {v w : DV} (h : v.cells = [w]) : v = w ∨ v = .agg [w] := by
  cases v <;> simp [DV.cells] at h <;> first | exact .inl h | (subst h; exact .inr rfl)
theorem buildF_eq (parts : List (Nat × Nat × DX)) (tm : TM) (z : List DV) : buildF parts tm z = buildDV tm z parts := by
  induction parts generalizing z with
  | nil => rfl
  | cons p r ih =>
    obtain ⟨off, n, x⟩ := p
    show (Bool.rec (motive := fun _ => Option (List DV)) (buildDV tm z ((off, n, x) :: r))
      (List.rec (motive := fun _ => Option (List DV)) (buildDV tm z ((off, n, x) :: r)) (fun v q _ => List.rec (motive := fun _ => Option (List DV))
          (Bool.rec (motive := fun _ => Option (List DV)) (buildDV tm z ((off, n, x) :: r)) (Bool.rec (motive := fun _ => Option (List DV)) (buildF r tm (setF z off v)) (buildDV tm z ((off, n, x) :: r)) (DV.isU v)) (Nat.blt off (lenF z)))
          (fun _ _ _ => buildDV tm z ((off, n, x) :: r)) q) (cellsF (rdcF x tm))) (Nat.beq n 1)) = _
    rw [cellsF_eq, rdcF_eq, lenF_eq]
    cases hn : Nat.beq n 1
    · rfl
    · obtain rfl := Nat.eq_of_beq_eq_true hn
      cases hc : (rdc tm x).cells with
      | nil => rfl
      | cons v q => cases q with
        | cons _ _ => rfl
        | nil =>
          simp only []
          cases hl : Nat.blt off z.length
          · rfl
          · have hlt : off < z.length := Nat.le_of_ble_eq_true hl
            simp only []
            cases hu : DV.isU v
            · simp only []
              rw [ih, setF_eq]
              have hnu : (rdc tm x).isU = false := by
                rcases cells_one hc with h | h
                · rw [h]; exact hu
                · rw [h]; rfl
              conv => rhs; unfold buildDV
              simp only [hc, hnu, List.length_singleton, show off + 1 ≤ z.length from hlt, and_self, if_true]
              have : putAt z off [v] = z.set off v := by
                unfold putAt
                rw [List.set_eq_take_append_cons_drop, if_pos hlt]
                simp
              rw [this]
            · rfl

/-! ## stores -/

noncomputable def ptrF (v : DV) : (Nat → Nat → A) → A :=
  DV.rec (motive_1 := fun _ => (Nat → Nat → A) → A) (motive_2 := fun _ => Unit)
    (fun _ => none) (fun _ _ => none) (fun _ _ _ => none) (fun _ _ => none) (fun _ => none) (fun _ => none) (fun _ => none) (fun _ => none)
    (fun b o k => k b o) (fun _ _ _ _ => none) (fun _ _ _ _ _ => none) (fun _ _ _ _ _ _ => none) (fun _ _ _ _ => none) (fun _ _ _ => none) (fun _ _ _ => none) () (fun _ _ _ _ => ()) v

noncomputable def protF (PR : List Nat) (L : PL) (b : Nat) : Bool := Bool.rec (motive := fun _ => Bool) (anyF (fun p => Nat.beq b p.2) L) true (anyF (fun x => Nat.beq b x) PR)
noncomputable def liftF (root : Option Nat) : PL → PL := Option.rec (motive := fun _ => PL → PL) (fun L => L) (fun r L => List.rec (motive := fun _ => PL) [] (fun p _ ih => Bool.rec (motive := fun _ => PL) (p :: ih) ih (Nat.beq p.1 r)) L) root

/-- a store of one cell, and of many -/
noncomputable def store1 (H : HP) (b o : Nat) (v : DV) (k : HP → A) : A :=
  optF (nthF H b) fun cs => optF (nthF cs o) fun _ => Bool.rec (motive := fun _ => A) none (k (setF H b (setF cs o v))) (cellF v b)
noncomputable def storeN (H : HP) (b o n : Nat) (vs : List DV) (k : HP → A) : A :=
  optF (nthF H b) fun cs => Bool.rec (motive := fun _ => A) (optF (storeDV H b o n vs) k)
    (Bool.rec (motive := fun _ => A) none (k (setF H b vs)) (allF (fun v => cellF v b) vs))
    (Bool.rec (motive := fun _ => Bool) false (Bool.rec (motive := fun _ => Bool) false (Nat.beq (lenF cs) n) (Nat.beq (lenF vs) n)) (Nat.beq o 0))

theorem protF_eq (PR : List Nat) (L : PL) (b : Nat) : protF PR L b = protects PR L b := by
  unfold protF protects
  rw [anyF_eq, anyF_eq]
  cases PR.any (Nat.beq b) <;> simp
theorem liftF_eq (root : Option Nat) (L : PL) : liftF root L = lift L root := by
  cases root with
  | none => rfl
  | some r =>
    induction L with
    | nil => rfl
    | cons p L ih =>
      show Bool.rec (motive := fun _ => PL) (p :: liftF (some r) L) (liftF (some r) L) (Nat.beq p.1 r) = (p :: L).filter fun p => !(Nat.beq p.1 r)
      rw [ih]
      cases h : Nat.beq p.1 r <;> simp [h, lift]
noncomputable def mayF (v : DV) : PL → Option Nat → Bool :=
  DV.rec (motive_1 := fun _ => PL → Option Nat → Bool) (motive_2 := fun _ => Unit)
    (fun _ _ => true) (fun _ _ _ => true) (fun _ _ _ _ => true) (fun _ _ _ => true) (fun _ _ => true) (fun _ _ => true) (fun _ _ => true) (fun _ _ => true)
    (fun b _ L root => Option.rec (motive := fun _ => Bool) false (fun r => anyF (fun p => Bool.rec (motive := fun _ => Bool) false (Nat.beq b p.2) (Nat.beq r p.1)) L) root) (fun _ _ _ _ _ => true) (fun _ _ _ _ _ _ => true) (fun _ _ _ _ _ _ _ => true) (fun _ _ _ _ _ => true) (fun _ _ _ _ => true) (fun _ _ _ _ => true) () (fun _ _ _ _ => ()) v
theorem mayF_eq (v : DV) (L : PL) (root : Option Nat) : mayF v L root = mayLoad L root v := by
  cases v <;> try rfl
  rename_i b o
  cases root with
  | none => rfl
  | some r =>
    show anyF (fun p => Bool.rec (motive := fun _ => Bool) false (Nat.beq b p.2) (Nat.beq r p.1)) L = _
    rw [anyF_eq]
    simp only [bool_and]
    rfl

noncomputable def protLF (l : List Nat) (tm : TM) : Option PL :=
  List.rec (motive := fun _ => Option PL) (some []) (fun t _ ih => DV.rec (motive_1 := fun _ => Nat → Option PL → Option PL) (motive_2 := fun _ => Unit)
    (fun _ _ => none) (fun _ _ _ => none) (fun _ _ _ _ => none) (fun _ _ _ => none) (fun _ _ => none) (fun _ _ => none) (fun _ _ => none) (fun _ _ => none)
    (fun b _ t o => Option.rec (motive := fun _ => Option PL) none (fun l => some ((t, b) :: l)) o) (fun _ _ _ _ o => Option.rec (motive := fun _ => Option PL) none (fun l => some l) o) (fun _ _ _ _ _ _ => none) (fun _ _ _ _ _ _ _ => none) (fun _ _ _ _ _ => none) (fun _ _ _ _ => none) (fun _ _ _ _ => none) () (fun _ _ _ _ => ()) (lookF tm t) t ih) l
theorem protLF_eq (l : List Nat) (tm : TM) : protLF l tm = protL tm l := by
  induction l with
  | nil => rfl
  | cons t r ih =>
    show DV.rec (motive_1 := fun _ => Nat → Option PL → Option PL) (motive_2 := fun _ => Unit)
      (fun _ _ => none) (fun _ _ _ => none) (fun _ _ _ _ => none) (fun _ _ _ => none) (fun _ _ => none) (fun _ _ => none) (fun _ _ => none) (fun _ _ => none)
      (fun b _ t o => Option.rec (motive := fun _ => Option PL) none (fun l => some ((t, b) :: l)) o) (fun _ _ _ _ o => Option.rec (motive := fun _ => Option PL) none (fun l => some l) o) (fun _ _ _ _ _ _ => none) (fun _ _ _ _ _ _ _ => none) (fun _ _ _ _ _ => none) (fun _ _ _ _ => none) (fun _ _ _ _ => none) () (fun _ _ _ _ => ()) (lookF tm t) t (protLF r tm) = _
    rw [ih, lookF_eq]
    conv => rhs; unfold protL
    cases look tm t <;> cases protL tm r <;> rfl
theorem optF_eq {α : Type} (o : Option α) (k : α → A) : optF o k = match o with | some v => k v | none => none := by cases o <;> rfl
theorem bool_rec {α : Type} (b : Bool) (x y : α) : Bool.rec (motive := fun _ => α) x y b = if b then y else x := by cases b <;> rfl

theorem putAt_one (cs : List DV) (o : Nat) (v : DV) (h : o < cs.length) : putAt cs o [v] = cs.set o v := by
  unfold putAt
  rw [List.set_eq_take_append_cons_drop, if_pos h]
  simp
theorem store1_eq (H : HP) (b o : Nat) (v : DV) (k : HP → A) : store1 H b o v k = optF (storeDV H b o 1 [v]) k := by
  unfold store1 storeDV
  simp only [optF_eq, nthF_eq]
  cases H[b]? with
  | none => rfl
  | some cs =>
    simp only [bool_rec, cellF_eq, setF_eq, List.length_singleton, true_and, List.all_cons, List.all_nil, Bool.and_true]
    by_cases h : o < cs.length
    · rw [List.getElem?_eq_getElem h, putAt_one _ _ _ h]
      simp only [show o + 1 ≤ cs.length from h, true_and]
      cases v.cellOk b <;> rfl
    · rw [List.getElem?_eq_none (by omega)]
      simp only [show ¬(o + 1 ≤ cs.length) by omega, false_and, if_false]
theorem storeN_eq (H : HP) (b o n : Nat) (vs : List DV) (k : HP → A) : storeN H b o n vs k = optF (storeDV H b o n vs) k := by
  unfold storeN
  simp only [optF_eq, nthF_eq, bool_and]
  cases hb : H[b]? with
  | none => simp [storeDV, hb]
  | some cs =>
    simp only [bool_rec, lenF_eq]
    split
    · rename_i h
      simp only [Bool.and_eq_true, nat_beq, decide_eq_true_eq] at h
      obtain ⟨rfl, h1, h2⟩ := h
      have e : putAt cs 0 vs = vs := by
        unfold putAt
        simp [show cs.length ≤ vs.length by omega]
      simp only [storeDV, hb, setF_eq, allF_eq, cellF_eq, e]
      have h3 : (fun v : DV => v.cellOk b) = DV.cellOk b := rfl
      simp only [h3, h1, h2, show 0 + n ≤ n by omega, true_and]
      cases vs.all (DV.cellOk b) <;> simp
    · rfl

end Go.Zd.Fast
namespace Go.Zd.Fast
open Go.Zd

/-! ## an operation: closed arms, the surroundings behind -/

/-- F, rec, PR, draw, the slots, the heap, the protections, where to put it, what comes behind, and what if it ends -/
abbrev OpK := (Nat → Option DFn) → RecF → List Nat → Bool → TM → HP → PL → Option Nat → KO → KX → A

noncomputable def putO (o : Option DV) : TM → HP → PL → Option Nat → KO → A := Option.rec (motive := fun _ => TM → HP → PL → Option Nat → KO → A) (fun _ _ _ _ _ => none) (fun v tm H L d k => k (setT d v tm) H L) o

noncomputable def outK (r : Out × HP) : (DV → HP → A) → (DV → HP → A) → A := Out.rec (motive := fun _ => (DV → HP → A) → (DV → HP → A) → A) (fun v kr _ => kr v r.2) (fun v _ kp => kp v r.2) r.1
noncomputable def outOfF (keep : Bool) (n : Nat) (H : HP) (v : DV) (k : DV → HP → A) : A :=
  Bool.rec (motive := fun _ => A) (Bool.rec (motive := fun _ => A) none (k v (takeF n H)) (ptrsF v n)) (k v H) keep

noncomputable def enterF (args : List DV) : TM := List.rec (motive := fun _ => Nat → TM) (fun _ => []) (fun a _ ih i => (i, cleanF a) :: ih (Nat.add i 1)) args 0

/-- what a function hands back -/
noncomputable def resF (res : List DRes) : TM → HP → (DV → A) → A :=
  List.rec (motive := fun _ => TM → HP → (DV → A) → A) (fun tm H k => optF (resOf ⟨tm, H⟩ []) k)
    (fun r rs _ => List.rec (motive := fun _ => TM → HP → (DV → A) → A)
      (DRes.rec (motive := fun _ => TM → HP → (DV → A) → A) (fun t tm _ k => k (lookF tm t)) (fun agg n t tm H k => optF (loadF (lookF tm t) H agg n) k) r)
      (fun r2 rs2 _ tm H k => optF (resOf ⟨tm, H⟩ (r :: r2 :: rs2)) k) rs) res

noncomputable def runLF (l : List DCode) : RecF → List Nat → TM → HP → KN → KX → A :=
  List.rec (motive := fun _ => RecF → List Nat → TM → HP → KN → KX → A) (fun _ _ tm H kn _ => kn tm H) (fun d _ ih rec PR tm H kn kx => rec PR d tm H (fun tm H => ih rec PR tm H kn kx) kx) l

/-- what a failure says -/
def failOf : DV → Option (Nat × Int × Int)
  | .iface t (.agg [.int .i64 p, .int .i64 e]) => some (t, p, e)
  | _ => none

noncomputable def exRet (ex : Ex) (a : A) : A := Ex.rec (motive := fun _ => A) none (fun _ => none) a (fun _ => none) ex
noncomputable def exNormal (ex : Ex) (a : A) : A := Ex.rec (motive := fun _ => A) a (fun _ => none) none (fun _ => none) ex

noncomputable def handleF (rec : RecF) (PR : List Nat) (hnd : DCode) (res : List DRes) (c0 c1 c2 n : Nat) (tm : TM) (H1 : HP) (fc : List DV) (ok : Bool) (kr : DV → HP → A) : A :=
  rec PR hnd [(0, (look tm c0).clean), (1, (look tm c1).clean), (2, (look tm c2).clean), (3, .ptr H1.length 0), (4, .bool ok)] (H1 ++ [fc])
    (fun _ H3 => resF res [(c0, (look tm c0).clean), (c1, (look tm c1).clean), (c2, (look tm c2).clean)] H3 fun v => outOfF false n H3 v kr)
    (fun ex _ H3 => exNormal ex (resF res [(c0, (look tm c0).clean), (c1, (look tm c1).clean), (c2, (look tm c2).clean)] H3 fun v => outOfF false n H3 v kr))

noncomputable def settleF (rec : RecF) (PR : List Nat) (hnd : DCode) (res : List DRes) (c0 c1 c2 failTy n : Nat) (tm : TM) (kr : DV → HP → A) (ex : Ex) (H1 : HP) : A :=
  Ex.rec (motive := fun _ => A) none (fun _ => none) (handleF rec PR hnd res c0 c1 c2 n tm H1 [.int .i64 0, .int .i64 0] false kr)
    (fun v => optF (failOf v) fun q => Bool.rec (motive := fun _ => A) none (handleF rec PR hnd res c0 c1 c2 n tm H1 [.int .i64 q.2.1, .int .i64 q.2.2] true kr) (Nat.beq q.1 failTy)) ex

noncomputable def runDF (rec : RecF) (PR : List Nat) (pre : List DCode) (post hnd : DCode) (res : List DRes) (c0 c1 c2 c3 failTy : Nat) (args : List DV) (H : HP) (kr : DV → HP → A) : A :=
  runLF pre rec PR (enterF args) H
    (fun tm1 H1 => rec PR post ((c3, .undef) :: tm1) H1 (fun _ _ => none) (fun ex _ H2 => settleF rec PR hnd res c0 c1 c2 failTy H.length tm1 kr ex H2))
    (fun ex tm H' => exRet ex (resF res tm H' fun v => outOfF false H.length H' v kr))

noncomputable def codeK (ex : Ex) : List DRes → Bool → Nat → TM → HP → (DV → HP → A) → (DV → HP → A) → A :=
  Ex.rec (motive := fun _ => List DRes → Bool → Nat → TM → HP → (DV → HP → A) → (DV → HP → A) → A)
    (fun res keep n tm H' kr _ => resF res tm H' fun v => outOfF keep n H' v kr)
    (fun _ _ _ _ _ _ _ _ => none)
    (fun res keep n tm H' kr _ => resF res tm H' fun v => outOfF keep n H' v kr)
    (fun v _ keep n _ H' _ kp => outOfF keep n H' v kp) ex

noncomputable def fnF (fn : DFn) : RecF → List Nat → List DV → HP → (DV → HP → A) → (DV → HP → A) → A :=
  DFn.rec (motive := fun _ => RecF → List Nat → List DV → HP → (DV → HP → A) → (DV → HP → A) → A)
    (fun s _ PR args H kr kp => optF (s.run PR args H) fun r => outK r kr kp)
    (fun body res keep rec PR args H kr kp => rec PR body (enterF args) H (fun tm H' => codeK .normal res keep (lenF H) tm H' kr kp) (fun ex tm H' => codeK ex res keep (lenF H) tm H' kr kp))
    (fun p _ _ args H kr _ => optF (primF p args) fun v => kr v H)
    (fun pre post hnd res c0 c1 c2 c3 failTy rec PR args H kr _ => runDF rec PR pre post hnd res c0 c1 c2 c3 failTy args H kr) fn

noncomputable def callFF (F : Nat → Option DFn) (rec : RecF) (PR : List Nat) (f : Nat) (args : List DV) (H : HP) (kr kp : DV → HP → A) : A :=
  optF (F f) fun fn => fnF fn rec PR args H kr kp

noncomputable def oTake (x : Nat) : OpK := fun _ _ _ _ tm H L d k _ => k (setT d (lookF tm x) (unown tm x)) H L
noncomputable def oMove (x : DX) : OpK := fun _ _ _ _ tm H L d k _ => k (setT d (rdcF x tm) tm) H L
noncomputable def oPick (c a b : DX) : OpK := fun _ _ _ _ tm H L d k _ => boolF (rdcF c tm) (k (setT d (rdcF a tm) tm) H L) (k (setT d (rdcF b tm) tm) H L)
noncomputable def oAlloc (z : List DV) : OpK := fun _ _ _ _ tm H L d k _ => k (setT d (.ptr (lenF H) 0) tm) (appF H [z]) L
noncomputable def oBox (x : DX) : OpK := fun _ _ _ _ tm H L d k _ => Bool.rec (motive := fun _ => A) none (k (setT d (.ptr (lenF H) 0) tm) (appF H [mapF cleanF (cellsF (rdF x tm))]) L) (allF (fun v => cellF v (lenF H)) (mapF cleanF (cellsF (rdF x tm))))
noncomputable def oPure (o : DOp) : OpK := fun _ _ _ _ tm H L d k _ => putO (pureOp tm o) tm H L d k
noncomputable def oLoad (agg : Bool) (n : Nat) (a : DX) (root : Option Nat) : OpK := fun _ _ _ draw tm H L d k _ => Bool.rec (motive := fun _ => A) (putO (loadF (rdcF a tm) H agg n) tm H L d k) (Bool.rec (motive := fun _ => A) none (putO (loadF (rdcF a tm) H agg n) tm H L d k) (mayF (rdcF a tm) L root)) draw
noncomputable def oStoreT (tk : Option Nat) : Nat → DX → TM → HP → PL → Option Nat → KO → Nat → Nat → A :=
  Option.rec (motive := fun _ => Nat → DX → TM → HP → PL → Option Nat → KO → Nat → Nat → A)
    (fun n x tm H L d k b o => Nat.rec (motive := fun _ => A) (optF (storeDV H b o 0 ((rd tm x).cells.map DV.clean1)) fun H => k (setT d .undef tm) H L)
      (fun m _ => Nat.rec (motive := fun _ => A) (List.rec (motive := fun _ => A) none (fun v r _ => List.rec (motive := fun _ => A) (store1 H b o (cleanF v) fun H => k (setT d .undef tm) H L) (fun _ _ _ => none) r) (cellsF (rdF x tm)))
        (fun m _ => storeN H b o (m + 2) (mapF cleanF (cellsF (rdF x tm))) fun H => k (setT d .undef tm) H L) m) n)
    (fun t n _ tm H L d k b o => optF (storeDV H b o n [lookF tm t]) fun H => k (setT d .undef (unown tm t)) H L) tk
noncomputable def oStore (n : Nat) (a x : DX) (tk root : Option Nat) : OpK := fun _ _ PR _ tm H L d k _ =>
  ptrF (rdcF a tm) fun b o => Bool.rec (motive := fun _ => A) (oStoreT tk n x tm H (liftF root L) d k b o) none (protF PR (liftF root L) b)
noncomputable def oBin (ty : Nat) (op : BinOp) (x y : DX) : OpK := fun _ _ _ _ tm H L d k _ => putO (binF ty op (rdcF x tm) (rdcF y tm)) tm H L d k
noncomputable def oFaddr (off : Nat) (x : DX) : OpK := fun _ _ _ _ tm H L d k _ => putO (faddrF (rdcF x tm) off) tm H L d k
noncomputable def oFld (agg : Bool) (n off : Nat) (x : DX) : OpK := fun _ _ _ _ tm H L d k _ => putO (fldF (rdcF x tm) agg n off) tm H L d k
noncomputable def oNil (x : DX) : OpK := fun _ _ _ _ tm H L d k _ => putO (nilF (rdcF x tm)) tm H L d k
noncomputable def oIaddr (wd : Nat) (x i : DX) : OpK := fun _ _ _ _ tm H L d k _ => optF (natI (rdcF i tm)) fun j => putO (iaddrF (rdcF x tm) wd j) tm H L d k
noncomputable def oIdx (x i : DX) : OpK := fun _ _ _ _ tm H L d k _ => optF (natI (rdcF i tm)) fun j => putO (idxF (rdcF x tm) j) tm H L d k
noncomputable def oExtract (x : DX) (i : Nat) : OpK := fun _ _ _ _ tm H L d k _ => putO (tupF (rdcF x tm) i) tm H L d k
noncomputable def oLen (b : Bool) (x : DX) : OpK := fun _ _ _ _ tm H L d k _ => putO (lenV (rdcF x tm) b) tm H L d k
noncomputable def oMkif (t : Nat) (x : DX) : OpK := fun _ _ _ _ tm H L d k _ => k (setT d (.iface t (rdcF x tm)) tm) H L
noncomputable def oCall (f : DX) (args : List DX) : OpK := fun F rec PR _ tm H L d k kx =>
  funcF (rdcF f tm) fun g first caps => callFF F rec (appF PR (mapF (fun p => p.2) L)) g (appF first (appF (mapF (fun x => rdcF x tm) args) caps)) H (fun v H => k (setT d v tm) H L) (fun v H => kx (.panic v) tm H)
noncomputable def oPanic (x : DX) : OpK := fun _ _ _ _ tm H _ _ _ kx => ifaceF (rdcF x tm) fun t v => kx (.panic (.iface t v)) tm H
noncomputable def oApp (src : Option (Bool × Nat)) (wd : Nat) (base x : DX) : OpK := fun _ _ _ _ tm H L d k _ => optF (appDV ⟨tm, H⟩ L src wd base (rdcF x tm)) fun r => k (setT d r.1 r.2.tm) r.2.H L
noncomputable def oAppF (src : Option (Bool × Nat)) (wd : Nat) (base x : DX) : OpK := fun _ _ _ _ tm H L d k _ => optF (appDV ⟨tm, H⟩ L src wd base (.slice .ti wd [rdcF x tm])) fun r => k (setT d r.1 r.2.tm) r.2.H L
noncomputable def oNop : OpK := fun _ _ _ _ tm H L d k _ => k (setT d .undef tm) H L

noncomputable def oSlc (str : Bool) (wd : Nat) (x : DX) (lo hi mx : Option DX) : OpK := fun _ _ _ _ tm H L d k _ => putO (slcF (rdcF x tm) tm str wd x lo hi mx) tm H L d k
noncomputable def oConv (kk : IntKind) (x : DX) : OpK := fun _ _ _ _ tm H L d k _ => putO (convF (rdcF x tm) kk) tm H L d k
noncomputable def oBuild (z : List DV) (parts : List (Nat × Nat × DX)) : OpK := fun _ _ _ _ tm H L d k _ => optF (buildF parts tm z) fun cs => k (setT d (.agg cs) tm) H L

noncomputable def opF (op : DOp) : OpK := DOp.rec (motive := fun _ => OpK)
  oMove oTake oPick oAlloc oBox
  oBuild (fun wd len z parts => oPure (.bslice wd len z parts))
  oLoad oStore oNil oBin (fun op x => oPure (.un op x)) oConv (fun x => oPure (.convId x)) (fun x => oPure (.convStr x))
  oMkif (fun f first caps => oPure (.mkfn f first caps)) oSlc
  oFaddr oFld oIaddr oIdx oExtract oCall oLen (fun x r => oPure (.maxN x r)) (fun x r => oPure (.minN x r)) oApp oAppF oNop oPanic op

/-- an operation under a guard -/
noncomputable def guardV (v : DV) : Bool → TM → HP → PL → Option Nat → KO → A → A :=
  DV.rec (motive_1 := fun _ => Bool → TM → HP → PL → Option Nat → KO → A → A) (motive_2 := fun _ => Unit)
    (fun _ _ _ _ _ _ _ => none) (fun b want tm H L d k a => Bool.rec (motive := fun _ => A) (k (setT d (.tuple []) tm) H L) a (Bool.rec (motive := fun _ => Bool) (notF want) want b)) (fun _ _ _ _ _ _ _ _ _ => none) (fun _ _ _ _ _ _ _ _ => none) (fun _ _ _ _ _ _ _ => none) (fun _ _ _ _ _ _ _ => none) (fun _ _ _ _ _ _ _ => none) (fun _ _ _ _ _ _ _ => none)
    (fun _ _ _ _ _ _ _ _ _ => none) (fun _ _ _ _ _ _ _ _ _ _ => none) (fun _ _ _ _ _ _ _ _ _ _ _ => none) (fun _ _ _ _ _ _ _ _ _ _ _ _ => none) (fun _ _ _ _ _ _ _ _ _ _ => none) (fun _ _ _ _ _ _ _ _ _ => none)
    (fun l _ _ tm H L d k _ => List.rec (motive := fun _ => A) (k (setT d (.tuple []) tm) H L) (fun _ _ _ => none) l) () (fun _ _ _ _ => ()) v

noncomputable def insF (i : DIns) : OpK := Option.rec (motive := fun _ => DOp → OpK) (fun op => opF op)
  (fun g op F rec PR draw tm H L d k kx => guardV (lookF tm g.1) g.2 tm H L d k (opF op F rec PR draw tm H L d k kx)) i.guard i.op

noncomputable def runF (ins : List DIns) : (Nat → Option DFn) → RecF → List Nat → Bool → KO → KX → KO :=
  List.rec (motive := fun _ => (Nat → Option DFn) → RecF → List Nat → Bool → KO → KX → KO) (fun _ _ _ _ kn _ => kn) (fun i _ ih F rec PR draw kn kx tm H L => insF i F rec PR draw tm H L i.dst (fun tm H L => ih F rec PR draw kn kx tm H L) kx) ins

noncomputable def restrictF (l : Option (List Nat)) (tm : TM) : TM := Option.rec (motive := fun _ => TM) tm (fun l => mapF (fun t => (t, lookF tm t)) l) l
noncomputable def execFF (c : DCode) : (Nat → Option DFn) → RecF → List Nat → TM → HP → KN → KX → A :=
  DCode.rec (motive := fun _ => (Nat → Option DFn) → RecF → List Nat → TM → HP → KN → KX → A)
    (fun _ _ _ tm H kn _ => kn tm H)
    (fun _ _ iha ihb F rec PR tm H kn kx => iha F rec PR tm H (fun tm H => ihb F rec PR tm H kn kx) kx)
    (fun x _ _ iha ihb F rec PR tm H kn kx => boolF (rdcF x tm) (iha F rec PR tm H kn kx) (ihb F rec PR tm H kn kx))
    (fun id _ iha F rec PR tm H kn kx => iha F rec PR tm H kn (fun ex tm H => Ex.rec (motive := fun _ => A) (kx .normal tm H) (fun i => Bool.rec (motive := fun _ => A) (kx (.exit i) tm H) (kn tm H) (Nat.beq i id)) (kx .ret tm H) (fun v => kx (.panic v) tm H) ex))
    (fun a iha F rec PR tm H kn kx => iha F rec PR tm H (fun tm H => rec PR (.loop a) tm H kn kx) kx)
    (fun id _ _ _ tm H _ kx => kx (.exit id) tm H)
    (fun _ _ _ tm H _ kx => kx .ret tm H)
    (fun ins live prot draw F rec PR tm H kn kx => optF (protLF prot tm) fun L => runF ins F rec PR draw (fun tm H _ => kn (restrictF live tm) H) kx tm H L)
    c

noncomputable def execN (F : Nat → Option DFn) (n : Nat) : RecF := Nat.rec (motive := fun _ => RecF) (fun _ _ _ _ _ _ => none) (fun _ ih PR c tm H kn kx => execFF c F ih PR tm H kn kx) n

noncomputable def callN (F : Nat → Option DFn) (n : Nat) (PR : List Nat) (f : Nat) (args : List DV) (H : HP) : A :=
  callFF F (execN F n) PR f args H (fun v H => some (.ret v, H)) (fun v H => some (.panic v, H))

end Go.Zd.Fast
namespace Go.Zd.Fast
open Go.Zd

def fin (o : Option (Ex × St)) (kn : KN) (kx : KX) : A := match o with
  | some (.normal, st) => kn st.tm st.H
  | some (ex, st) => kx ex st.tm st.H
  | none => none

def finC (o : Option (Out × HP)) (kr kp : DV → HP → A) : A := match o with
  | some (.ret v, H) => kr v H
  | some (.panic v, H) => kp v H
  | none => none

def finO (o : Option (Option DV × RSt)) (k : KO) (kx : KX) : A := match o with
  | some (none, s) => k s.st.tm s.st.H s.L
  | some (some v, s) => kx (.panic v) s.st.tm s.st.H
  | none => none

def RecOk (rf : RecF) (rec : Rec) : Prop := ∀ PR c tm H kn kx, rf PR c tm H kn kx = fin (rec PR c ⟨tm, H⟩) kn kx

theorem setT_eq (st : St) (d : Option Nat) (v : DV) : setDst st d v = ⟨setT d v st.tm, st.H⟩ := by cases d <;> rfl
theorem putO_eq (o : Option DV) (tm : TM) (H : HP) (L : PL) (d : Option Nat) (k : KO) : putO o tm H L d k = match o with | some v => k (setT d v tm) H L | none => none := by cases o <;> rfl

theorem enterF_go (args : List DV) (i : Nat) : (List.rec (motive := fun _ => Nat → TM) (fun _ => []) (fun a _ ih i => (i, cleanF a) :: ih (Nat.add i 1)) args i : TM) = (args.zipIdx i).map fun (v, i) => (i, v.clean1) := by
  induction args generalizing i with
  | nil => rfl
  | cons a r ih =>
    simp only [List.zipIdx_cons, List.map_cons]
    rw [← ih (i + 1), cleanF_eq]
theorem enterF_eq (args : List DV) : enterF args = enterTm args := enterF_go args 0

theorem resF_eq (res : List DRes) (tm : TM) (H : HP) (k : DV → A) : resF res tm H k = optF (resOf ⟨tm, H⟩ res) k := by
  cases res with
  | nil => rfl
  | cons r rs => cases rs with
    | cons _ _ => rfl
    | nil => cases r with
      | tmp t =>
        show k (lookF tm t) = _
        rw [lookF_eq]; rfl
      | cell agg n t =>
        show optF (loadF (lookF tm t) H agg n) k = _
        rw [lookF_eq, loadF_eq]
        simp only [resOf, resVals, resVal]
        cases loadDV H agg n (look tm t) <;> rfl

theorem outOfF_eq (keep : Bool) (n : Nat) (H : HP) (v : DV) (mk : DV → Out) (kr kp k : DV → HP → A) (hk : ∀ H', finC (some (mk v, H')) kr kp = k v H') : outOfF keep n H v k = finC (outOf keep n H v mk) kr kp := by
  unfold outOfF outOf
  rw [ptrsF_eq, takeF_eq]
  cases keep
  · cases hp : v.ptrsLt n
    · rfl
    · simp only [Bool.false_or, trunc, if_true, hk]; rfl
  · simp only [Bool.true_or, if_true, trunc, hk]

theorem runLF_eq {rf : RecF} {rec : Rec} (h : RecOk rf rec) (PR : List Nat) (l : List DCode) (tm : TM) (H : HP) (kn : KN) (kx : KX) : runLF l rf PR tm H kn kx = fin (runL rec PR l ⟨tm, H⟩) kn kx := by
  induction l generalizing tm H with
  | nil => rfl
  | cons d r ih =>
    show rf PR d tm H (fun tm H => runLF r rf PR tm H kn kx) kx = _
    rw [h]
    unfold runL
    cases hx : rec PR d ⟨tm, H⟩ with
    | none => rfl
    | some q =>
      obtain ⟨ex, st⟩ := q
      cases ex with
      | normal => exact ih st.tm st.H
      | _ => rfl

theorem handleF_eq {rf : RecF} {rec : Rec} (h : RecOk rf rec) (PR : List Nat) (hnd : DCode) (res : List DRes) (c0 c1 c2 n : Nat) (tm : TM) (H1 : HP) (fc : List DV) (ok : Bool) (kr kp : DV → HP → A) :
    handleF rf PR hnd res c0 c1 c2 n tm H1 fc ok kr = finC (handle rec PR hnd res c0 c1 c2 n tm H1 fc ok) kr kp := by
  unfold handleF handle
  rw [h]
  cases hx : rec PR hnd _ with
  | none => rfl
  | some q =>
    obtain ⟨ex, st⟩ := q
    cases ex with
    | normal =>
      simp only [fin]
      rw [resF_eq, optF_eq]
      cases resOf _ res with
      | none => rfl
      | some v => exact outOfF_eq false n st.H v .ret kr kp kr (fun _ => rfl)
    | _ => rfl

theorem failOf_some {v : DV} {t : Nat} {p e : Int} (h : failOf v = some (t, p, e)) : v = .iface t (.agg [.int .i64 p, .int .i64 e]) := by
  unfold failOf at h
  split at h
  · cases h; rfl
  · cases h

theorem settleF_eq {rf : RecF} {rec : Rec} (h : RecOk rf rec) (PR : List Nat) (hnd : DCode) (res : List DRes) (c0 c1 c2 failTy n : Nat) (tm : TM) (kr kp : DV → HP → A) (ex : Ex) (H1 : HP) :
    settleF rf PR hnd res c0 c1 c2 failTy n tm kr ex H1 = finC (settleD rec PR hnd res c0 c1 c2 failTy n tm ex H1) kr kp := by
  cases ex with
  | normal => rfl
  | exit _ => rfl
  | ret => exact handleF_eq h PR hnd res c0 c1 c2 n tm H1 _ false kr kp
  | panic v =>
    show optF (failOf v) (fun q => Bool.rec (motive := fun _ => A) none (handleF rf PR hnd res c0 c1 c2 n tm H1 [.int .i64 q.2.1, .int .i64 q.2.2] true kr) (Nat.beq q.1 failTy)) = _
    rw [optF_eq]
    cases hf : failOf v with
    | some q =>
      obtain ⟨t, p, e⟩ := q
      obtain rfl := failOf_some hf
      simp only [settleD]
      cases Nat.beq t failTy
      · rfl
      · exact handleF_eq h PR hnd res c0 c1 c2 n tm H1 _ true kr kp
    | none =>
      simp only []
      unfold settleD
      split
      · rename_i e; cases e
      · rename_i e; cases e; simp [failOf] at hf
      · rfl

theorem runDF_eq {rf : RecF} {rec : Rec} (h : RecOk rf rec) (PR : List Nat) (pre : List DCode) (post hnd : DCode) (res : List DRes) (c0 c1 c2 c3 failTy : Nat) (args : List DV) (H : HP) (kr kp : DV → HP → A) :
    runDF rf PR pre post hnd res c0 c1 c2 c3 failTy args H kr = finC (runD rec PR pre post hnd res c0 c1 c2 c3 failTy args H) kr kp := by
  unfold runDF runD
  rw [runLF_eq h, enterF_eq]
  cases runL rec PR pre ⟨enterTm args, H⟩ with
  | none => rfl
  | some q =>
    obtain ⟨ex, st1⟩ := q
    cases ex with
    | normal =>
      simp only [fin]
      rw [h]
      cases rec PR post ⟨(c3, .undef) :: st1.tm, st1.H⟩ with
      | none => rfl
      | some q =>
        obtain ⟨ex, st⟩ := q
        cases ex with
        | normal => rfl
        | exit i => exact settleF_eq h PR hnd res c0 c1 c2 failTy _ _ kr kp (.exit i) st.H
        | ret => exact settleF_eq h PR hnd res c0 c1 c2 failTy _ _ kr kp .ret st.H
        | panic v => exact settleF_eq h PR hnd res c0 c1 c2 failTy _ _ kr kp (.panic v) st.H
    | ret =>
      show resF res st1.tm st1.H (fun v => outOfF false H.length st1.H v kr) = finC (match resOf st1 res with | some v => outOf false H.length st1.H v .ret | none => none) kr kp
      rw [resF_eq, optF_eq]
      cases resOf ⟨st1.tm, st1.H⟩ res with
      | none => rfl
      | some v => exact outOfF_eq false _ _ v .ret kr kp kr (fun _ => rfl)
    | _ => rfl

theorem callFF_eq {F : Nat → Option DFn} {rf : RecF} {rec : Rec} (h : RecOk rf rec) (PR : List Nat) (f : Nat) (args : List DV) (H : HP) (kr kp : DV → HP → A) :
    callFF F rf PR f args H kr kp = finC (callF F rec PR f args H) kr kp := by
  unfold callFF callF
  rw [optF_eq]
  cases F f with
  | none => rfl
  | some fn =>
    cases fn with
    | spec s =>
      show optF (s.run PR args H) (fun r => outK r kr kp) = finC (s.run PR args H) kr kp
      rw [optF_eq]
      cases s.run PR args H with
      | none => rfl
      | some r => obtain ⟨o, H'⟩ := r; cases o <;> rfl
    | prim p =>
      show optF (primF p args) (fun v => kr v H) = _
      rw [primF_eq, optF_eq]
      simp only []
      cases primDV p args <;> rfl
    | runp pre post hnd res c0 c1 c2 c3 failTy => exact runDF_eq h PR pre post hnd res c0 c1 c2 c3 failTy args H kr kp
    | code body res keep =>
      show rf PR body (enterF args) H (fun tm H' => codeK .normal res keep (lenF H) tm H' kr kp) (fun ex tm H' => codeK ex res keep (lenF H) tm H' kr kp) = _
      rw [h, enterF_eq, lenF_eq]
      simp only []
      have hret : ∀ st : St, resF res st.tm st.H (fun v => outOfF keep H.length st.H v kr) = finC (match resOf st res with | some v => outOf keep H.length st.H v .ret | none => none) kr kp := by
        intro st
        rw [resF_eq, optF_eq]
        cases resOf ⟨st.tm, st.H⟩ res with
        | none => rfl
        | some v => exact outOfF_eq keep _ _ v .ret kr kp kr (fun _ => rfl)
      cases rec PR body ⟨enterTm args, H⟩ with
      | none => rfl
      | some q =>
        obtain ⟨ex, st⟩ := q
        cases ex with
        | normal => exact hret st
        | ret => exact hret st
        | exit _ => rfl
        | panic v => exact outOfF_eq keep _ _ v .panic kr kp kp (fun _ => rfl)

end Go.Zd.Fast
namespace Go.Zd.Fast
open Go.Zd

variable {F : Nat → Option DFn} {rf : RecF} {rec : Rec}

theorem boolF_eq (v : DV) (a b : A) : boolF v a b = match v with | .bool true => a | .bool false => b | _ => none := by
  cases v <;> try rfl
  rename_i c
  cases c <;> rfl

/-- an operation that is a pure one -/
theorem pure_eq (PR : List Nat) (draw : Bool) (tm : TM) (H : HP) (L : PL) (d : Option Nat) (k : KO) (kx : KX) (op : DOp) (ix : Nat) (g : Option (Nat × Bool))
    (h : opDV F rec PR draw ⟨⟨tm, H⟩, L⟩ ⟨ix, d, g, op⟩ = match pureOp tm op with | some v => some (none, putV ⟨⟨tm, H⟩, L⟩ d v) | none => none) :
    putO (pureOp tm op) tm H L d k = finO (opDV F rec PR draw ⟨⟨tm, H⟩, L⟩ ⟨ix, d, g, op⟩) k kx := by
  rw [h, putO_eq]
  cases pureOp tm op with
  | none => rfl
  | some v =>
    simp only [putV, setT_eq]
    rfl

theorem nat_eq (tm : TM) (i : DX) (k : Nat → A) : optF (natI (rdcF i tm)) k = match toNatIdx (rdc tm i) with | some j => k j | none => none := by
  rw [rdcF_eq, natI_eq, optF_eq]
  cases toNatIdx (rdc tm i) <;> rfl

theorem oStoreT_eq (tk : Option Nat) (n : Nat) (x : DX) (tm : TM) (H : HP) (L : PL) (d : Option Nat) (k : KO) (b o : Nat) :
    oStoreT tk n x tm H L d k b o = match (match tk with
      | some t => match storeDV H b o n [look tm t] with
        | some H => some (⟨unown tm t, H⟩ : St)
        | none => none
      | none => match storeDV H b o n ((rd tm x).cells.map DV.clean1) with
        | some H => some ⟨tm, H⟩
        | none => none) with
      | some st => k (setT d .undef st.tm) st.H L
      | none => none := by
  cases tk with
  | some t =>
    show optF (storeDV H b o n [lookF tm t]) (fun H => k (setT d .undef (unown tm t)) H L) = _
    rw [lookF_eq, optF_eq]
    simp only []
    cases storeDV H b o n [look tm t] <;> rfl
  | none =>
    have key : oStoreT none n x tm H L d k b o = optF (storeDV H b o n ((rd tm x).cells.map DV.clean1)) (fun H => k (setT d .undef tm) H L) := by
      cases n with
      | zero => rfl
      | succ m => cases m with
        | succ m =>
          show storeN H b o (m + 2) (mapF cleanF (cellsF (rdF x tm))) (fun H => k (setT d .undef tm) H L) = _
          rw [storeN_eq, mapF_eq, cellsF_eq, rdF_eq, show cleanF = DV.clean1 from funext cleanF_eq]
        | zero =>
          show (List.rec (motive := fun _ => A) none (fun v r _ => List.rec (motive := fun _ => A) (store1 H b o (cleanF v) fun H => k (setT d .undef tm) H L) (fun _ _ _ => none) r) (cellsF (rdF x tm)) : A) = _
          rw [cellsF_eq, rdF_eq]
          cases (rd tm x).cells with
          | nil =>
            simp only [List.map_nil, optF_eq, storeDV]
            cases H[b]? <;> simp
          | cons v r => cases r with
            | nil =>
              show store1 H b o (cleanF v) (fun H => k (setT d .undef tm) H L) = _
              rw [store1_eq, cleanF_eq]; rfl
            | cons v2 r =>
              simp only [List.map_cons, optF_eq, storeDV]
              cases H[b]? <;> simp
    rw [key, optF_eq]
    simp only []
    cases storeDV H b o n ((rd tm x).cells.map DV.clean1) <;> rfl

theorem ptrF_eq (v : DV) (k : Nat → Nat → A) : ptrF v k = match v with | .ptr b o => k b o | _ => none := by cases v <;> rfl
theorem funcF_eq (v : DV) (k : Nat → List DV → List DV → A) : funcF v k = match v with | .func f a c => k f a c | _ => none := by cases v <;> rfl
theorem ifaceF_eq (v : DV) (k : Nat → DV → A) : ifaceF v k = match v with | .iface f a => k f a | _ => none := by cases v <;> rfl

theorem opF_eq (hr : RecOk rf rec) (PR : List Nat) (draw : Bool) (tm : TM) (H : HP) (L : PL) (d : Option Nat) (k : KO) (kx : KX) (op : DOp) (ix : Nat) (g : Option (Nat × Bool)) :
    opF op F rf PR draw tm H L d k kx = finO (opDV F rec PR draw ⟨⟨tm, H⟩, L⟩ ⟨ix, d, g, op⟩) k kx := by
  cases op with
  | move x =>
    refine Eq.trans ?_ (pure_eq PR draw tm H L d k kx (.move x) ix g rfl)
    show k (setT d (rdcF x tm) tm) H L = putO (some (rdc tm x)) tm H L d k
    rw [rdcF_eq]; rfl
  | take x =>
    show k (setT d (lookF tm x) (unown tm x)) H L = _
    rw [lookF_eq]
    simp only [opDV, setT_eq, finO]
  | pick c a b =>
    refine Eq.trans ?_ (pure_eq PR draw tm H L d k kx (.pick c a b) ix g rfl)
    show boolF (rdcF c tm) (k (setT d (rdcF a tm) tm) H L) (k (setT d (rdcF b tm) tm) H L) = _
    rw [boolF_eq, rdcF_eq, rdcF_eq, rdcF_eq, putO_eq]
    simp only [pureOp]
    cases rdc tm c <;> try rfl
    rename_i b
    cases b <;> rfl
  | alloc z =>
    show k (setT d (.ptr (lenF H) 0) tm) (appF H [z]) L = _
    rw [lenF_eq, appF_eq]
    simp only [opDV, setT_eq, finO]
  | box x =>
    show Bool.rec (motive := fun _ => A) none (k (setT d (.ptr (lenF H) 0) tm) (appF H [mapF cleanF (cellsF (rdF x tm))]) L) (allF (fun v => cellF v (lenF H)) (mapF cleanF (cellsF (rdF x tm)))) = _
    rw [bool_rec, lenF_eq, appF_eq, mapF_eq, cellsF_eq, rdF_eq, allF_eq, show cleanF = DV.clean1 from funext cleanF_eq, show (fun v => cellF v H.length) = DV.cellOk H.length from funext fun v => cellF_eq v _]
    simp only [opDV]
    split
    · simp only [setT_eq, finO]
    · rfl
  | build z parts =>
    refine Eq.trans ?_ (pure_eq PR draw tm H L d k kx (.build z parts) ix g rfl)
    show optF (buildF parts tm z) (fun cs => k (setT d (.agg cs) tm) H L) = _
    rw [buildF_eq, optF_eq, putO_eq]
    simp only [pureOp]
    cases buildDV tm z parts <;> rfl
  | bslice wd len z parts => exact pure_eq PR draw tm H L d k kx (.bslice wd len z parts) ix g rfl
  | load agg n a root =>
    have e : opF (.load agg n a root) F rf PR draw tm H L d k kx = putO (loadOp ⟨⟨tm, H⟩, L⟩ draw agg n a root) tm H L d k := by
      cases draw
      · show putO (loadF (rdcF a tm) H agg n) tm H L d k = _
        rw [loadF_eq, rdcF_eq]; rfl
      · show Bool.rec (motive := fun _ => A) none (putO (loadF (rdcF a tm) H agg n) tm H L d k) (mayF (rdcF a tm) L root) = _
        rw [loadF_eq, rdcF_eq, mayF_eq]
        simp only [loadOp, Bool.true_and]
        cases mayLoad L root (rdc tm a) <;> rfl
    rw [e, putO_eq]
    simp only [opDV]
    cases loadOp ⟨⟨tm, H⟩, L⟩ draw agg n a root with
    | none => rfl
    | some v => simp only [putV, setT_eq]; rfl
  | store n a x tk root =>
    show ptrF (rdcF a tm) (fun b o => Bool.rec (motive := fun _ => A) (oStoreT tk n x tm H (liftF root L) d k b o) none (protF PR (liftF root L) b)) = _
    rw [ptrF_eq, rdcF_eq, liftF_eq]
    simp only [opDV]
    cases ha : rdc tm a <;> try rfl
    rename_i b o
    simp only [storeTo, protF_eq]
    rw [bool_rec, oStoreT_eq]
    cases protects PR (lift L root) b
    · simp only [Bool.false_eq_true, if_false]
      cases tk with
      | some t =>
        simp only []
        cases storeDV H b o n [look tm t] with
        | none => rfl
        | some H' => simp only [setT_eq]; rfl
      | none =>
        simp only []
        cases storeDV H b o n ((rd tm x).cells.map DV.clean1) with
        | none => rfl
        | some H' => simp only [setT_eq]; rfl
    · rfl
  | nilchk x =>
    refine Eq.trans ?_ (pure_eq PR draw tm H L d k kx (.nilchk x) ix g rfl)
    show putO (nilF (rdcF x tm)) tm H L d k = _
    rw [rdcF_eq, nilF_eq _ tm x rfl]
  | bin ty op x y =>
    refine Eq.trans ?_ (pure_eq PR draw tm H L d k kx (.bin ty op x y) ix g rfl)
    show putO (binF ty op (rdcF x tm) (rdcF y tm)) tm H L d k = _
    rw [binF_eq, rdcF_eq, rdcF_eq]; rfl
  | un op x => exact pure_eq PR draw tm H L d k kx (.un op x) ix g rfl
  | conv kk x =>
    refine Eq.trans ?_ (pure_eq PR draw tm H L d k kx (.conv kk x) ix g rfl)
    show putO (convF (rdcF x tm) kk) tm H L d k = _
    rw [rdcF_eq, convF_eq _ tm kk x rfl]
  | convId x => exact pure_eq PR draw tm H L d k kx (.convId x) ix g rfl
  | convStr x => exact pure_eq PR draw tm H L d k kx (.convStr x) ix g rfl
  | mkif t x =>
    refine Eq.trans ?_ (pure_eq PR draw tm H L d k kx (.mkif t x) ix g rfl)
    show k (setT d (.iface t (rdcF x tm)) tm) H L = _
    rw [rdcF_eq]; rfl
  | mkfn f first caps => exact pure_eq PR draw tm H L d k kx (.mkfn f first caps) ix g rfl
  | slc str wd x lo hi mx =>
    refine Eq.trans ?_ (pure_eq PR draw tm H L d k kx (.slc str wd x lo hi mx) ix g rfl)
    show putO (slcF (rdcF x tm) tm str wd x lo hi mx) tm H L d k = _
    rw [rdcF_eq, slcF_eq _ tm str wd x lo hi mx rfl]
  | faddr off x =>
    refine Eq.trans ?_ (pure_eq PR draw tm H L d k kx (.faddr off x) ix g rfl)
    show putO (faddrF (rdcF x tm) off) tm H L d k = _
    rw [rdcF_eq, faddrF_eq _ tm off x rfl]
  | fld agg n off x =>
    refine Eq.trans ?_ (pure_eq PR draw tm H L d k kx (.fld agg n off x) ix g rfl)
    show putO (fldF (rdcF x tm) agg n off) tm H L d k = _
    rw [rdcF_eq, fldF_eq _ tm agg n off x rfl]
  | iaddr wd x i =>
    refine Eq.trans ?_ (pure_eq PR draw tm H L d k kx (.iaddr wd x i) ix g rfl)
    show optF (natI (rdcF i tm)) (fun j => putO (iaddrF (rdcF x tm) wd j) tm H L d k) = _
    rw [nat_eq]
    cases hj : toNatIdx (rdc tm i) with
    | none => simp only [pureOp, hj]; rfl
    | some j => simp only []; rw [rdcF_eq, iaddrF_eq _ tm wd x i rfl j hj]
  | idx x i =>
    refine Eq.trans ?_ (pure_eq PR draw tm H L d k kx (.idx x i) ix g rfl)
    show optF (natI (rdcF i tm)) (fun j => putO (idxF (rdcF x tm) j) tm H L d k) = _
    rw [nat_eq]
    cases hj : toNatIdx (rdc tm i) with
    | none => simp only [pureOp, hj]; rfl
    | some j => simp only []; rw [rdcF_eq, idxF_eq _ tm x i rfl j hj]
  | extract x i =>
    refine Eq.trans ?_ (pure_eq PR draw tm H L d k kx (.extract x i) ix g rfl)
    show putO (tupF (rdcF x tm) i) tm H L d k = _
    rw [rdcF_eq, tupF_eq _ tm i x rfl]
  | call f args =>
    show funcF (rdcF f tm) (fun g first caps => callFF F rf (appF PR (mapF (fun p => p.2) L)) g (appF first (appF (mapF (fun x => rdcF x tm) args) caps)) H (fun v H => k (setT d v tm) H L) (fun v H => kx (.panic v) tm H)) = _
    rw [funcF_eq, rdcF_eq]
    simp only [opDV]
    cases rdc tm f <;> try rfl
    rename_i g first caps
    simp only [callOp]
    rw [callFF_eq hr, appF_eq, appF_eq, appF_eq, mapF_eq, mapF_eq, show (fun x => rdcF x tm) = rdc tm from funext fun x => rdcF_eq tm x, List.append_assoc]
    cases callF F rec (PR ++ L.map (·.2)) g (first ++ (args.map (rdc tm) ++ caps)) H with
    | none => rfl
    | some r =>
      obtain ⟨o, H'⟩ := r
      cases o with
      | ret v => simp only [finC, setT_eq]; rfl
      | panic v => rfl
  | len b x =>
    refine Eq.trans ?_ (pure_eq PR draw tm H L d k kx (.len b x) ix g rfl)
    show putO (lenV (rdcF x tm) b) tm H L d k = _
    rw [rdcF_eq, lenV_eq _ tm b x rfl]
  | maxN x r => exact pure_eq PR draw tm H L d k kx (.maxN x r) ix g rfl
  | minN x r => exact pure_eq PR draw tm H L d k kx (.minN x r) ix g rfl
  | app src wd base x =>
    show optF (appDV ⟨tm, H⟩ L src wd base (rdcF x tm)) (fun r => k (setT d r.1 r.2.tm) r.2.H L) = _
    rw [rdcF_eq, optF_eq]
    simp only [opDV]
    cases appDV ⟨tm, H⟩ L src wd base (rdc tm x) with
    | none => rfl
    | some r => simp only [setT_eq]; rfl
  | appF src wd base x =>
    show optF (appDV ⟨tm, H⟩ L src wd base (.slice .ti wd [rdcF x tm])) (fun r => k (setT d r.1 r.2.tm) r.2.H L) = _
    rw [rdcF_eq, optF_eq]
    simp only [opDV]
    cases appDV ⟨tm, H⟩ L src wd base (.slice .ti wd [rdc tm x]) with
    | none => rfl
    | some r => simp only [setT_eq]; rfl
  | nop =>
    show k (setT d .undef tm) H L = _
    simp only [opDV, putV, setT_eq]; rfl
  | panic x =>
    show ifaceF (rdcF x tm) (fun t v => kx (.panic (.iface t v)) tm H) = _
    rw [ifaceF_eq, rdcF_eq]
    simp only [opDV]
    cases rdc tm x <;> rfl

theorem insF_eq (hr : RecOk rf rec) (PR : List Nat) (draw : Bool) (i : DIns) (tm : TM) (H : HP) (L : PL) (k : KO) (kx : KX) :
    insF i F rf PR draw tm H L i.dst k kx = finO (stepIns F rec PR draw i ⟨⟨tm, H⟩, L⟩) k kx := by
  obtain ⟨ix, d, g, op⟩ := i
  cases g with
  | none => exact opF_eq hr PR draw tm H L d k kx op ix none
  | some g =>
    obtain ⟨g, want⟩ := g
    show guardV (lookF tm g) want tm H L d k (opF op F rf PR draw tm H L d k kx) = _
    rw [lookF_eq, opF_eq hr PR draw tm H L d k kx op ix (some (g, want))]
    simp only [stepIns]
    cases look tm g <;> try rfl
    · rename_i b
      show Bool.rec (motive := fun _ => A) (k (setT d (.tuple []) tm) H L) (finO (opDV F rec PR draw ⟨⟨tm, H⟩, L⟩ ⟨ix, d, some (g, want), op⟩) k kx) (Bool.rec (motive := fun _ => Bool) (notF want) want b) = _
      have e : (Bool.rec (motive := fun _ => Bool) (notF want) want b) = (b == want) := by cases b <;> cases want <;> rfl
      rw [e]
      cases hbw : b == want
      · simp only [hbw, cond, setT_eq]; rfl
      · simp only [hbw]; rfl
    · rename_i l
      cases l with
      | nil =>
        show k (setT d (.tuple []) tm) H L = _
        simp only [setT_eq]; rfl
      | cons _ _ => rfl

theorem runF_eq (hr : RecOk rf rec) (PR : List Nat) (draw : Bool) (kx : KX) (ins : List DIns) (kn : KO) (tm : TM) (H : HP) (L : PL) :
    runF ins F rf PR draw kn kx tm H L = finO (runIns F rec PR draw ins ⟨⟨tm, H⟩, L⟩) kn kx := by
  induction ins generalizing tm H L with
  | nil => rfl
  | cons i r ih =>
    show insF i F rf PR draw tm H L i.dst (fun tm H L => runF r F rf PR draw kn kx tm H L) kx = _
    rw [insF_eq hr]
    unfold runIns
    cases stepIns F rec PR draw i ⟨⟨tm, H⟩, L⟩ with
    | none => rfl
    | some q =>
      obtain ⟨x, s⟩ := q
      cases x with
      | none => exact ih s.st.tm s.st.H s.L
      | some v => rfl

theorem execFF_eq (hr : RecOk rf rec) (PR : List Nat) (c : DCode) (tm : TM) (H : HP) (kn : KN) (kx : KX) : execFF c F rf PR tm H kn kx = fin (execB F rec PR c ⟨tm, H⟩) kn kx := by
  induction c generalizing tm H kn kx with
  | skip => rfl
  | seq a b iha ihb =>
    show execFF a F rf PR tm H (fun tm H => execFF b F rf PR tm H kn kx) kx = _
    rw [iha]
    conv => rhs; unfold execB
    cases execB F rec PR a ⟨tm, H⟩ with
    | none => rfl
    | some q =>
      obtain ⟨ex, st⟩ := q
      cases ex with
      | normal => exact ihb st.tm st.H kn kx
      | _ => rfl
  | cond x a b iha ihb =>
    show boolF (rdcF x tm) (execFF a F rf PR tm H kn kx) (execFF b F rf PR tm H kn kx) = _
    rw [iha, ihb, boolF_eq, rdcF_eq]
    conv => rhs; unfold execB
    simp only []
    cases hx : rdc tm x <;> try rfl
    rename_i b
    cases b <;> rfl
  | block id a iha =>
    show execFF a F rf PR tm H kn (fun ex tm H => Ex.rec (motive := fun _ => A) (kx .normal tm H) (fun i => Bool.rec (motive := fun _ => A) (kx (.exit i) tm H) (kn tm H) (Nat.beq i id)) (kx .ret tm H) (fun v => kx (.panic v) tm H) ex) = _
    rw [iha]
    conv => rhs; unfold execB
    cases execB F rec PR a ⟨tm, H⟩ with
    | none => rfl
    | some q =>
      obtain ⟨ex, st⟩ := q
      cases ex with
      | exit i =>
        simp only [fin]
        cases Nat.beq i id <;> rfl
      | _ => rfl
  | loop a iha =>
    show execFF a F rf PR tm H (fun tm H => rf PR (.loop a) tm H kn kx) kx = _
    rw [iha]
    conv => rhs; unfold execB
    cases execB F rec PR a ⟨tm, H⟩ with
    | none => rfl
    | some q =>
      obtain ⟨ex, st⟩ := q
      cases ex with
      | normal => exact hr PR (.loop a) st.tm st.H kn kx
      | _ => rfl
  | exit id => rfl
  | ret => rfl
  | region ins live prot draw =>
    show optF (protLF prot tm) (fun L => runF ins F rf PR draw (fun tm H _ => kn (restrictF live tm) H) kx tm H L) = _
    rw [protLF_eq, optF_eq]
    conv => rhs; unfold execB
    simp only []
    cases protL tm prot with
    | none => rfl
    | some L =>
      simp only []
      rw [runF_eq hr]
      have er : ∀ tm', restrictF live tm' = restrict tm' live := by
        intro tm'
        cases live with
        | none => rfl
        | some l =>
          show mapF (fun t => (t, lookF tm' t)) l = _
          rw [mapF_eq]
          simp only [lookF_eq]; rfl
      cases runIns F rec PR draw ins ⟨⟨tm, H⟩, L⟩ with
      | none => rfl
      | some q =>
        obtain ⟨x, s⟩ := q
        cases x with
        | none => simp only [finO, er]; rfl
        | some v => rfl

theorem execN_ok (F : Nat → Option DFn) : ∀ n, RecOk (execN F n) (exec F n)
  | 0 => fun _ _ _ _ _ _ => rfl
  | n + 1 => fun PR c tm H kn kx => execFF_eq (execN_ok F n) PR c tm H kn kx

/-- the second form computes what the first does -/
theorem callN_eq (F : Nat → Option DFn) (n : Nat) (PR : List Nat) (f : Nat) (args : List DV) (H : HP) : callN F n PR f args H = callD F n PR f args H := by
  unfold callN callD
  rw [callFF_eq (execN_ok F n)]
  cases callF F (exec F n) PR f args H with
  | none => rfl
  | some r =>
    obtain ⟨o, H'⟩ := r
    cases o <;> rfl

end Go.Zd.Fast
