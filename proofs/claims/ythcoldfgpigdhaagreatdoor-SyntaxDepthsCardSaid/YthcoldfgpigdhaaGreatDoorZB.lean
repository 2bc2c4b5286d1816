/- How values and memory are related; pure operations. -/
import Derived.Test.YthcoldfgpigdhaaGreatDoorZA
import Derived.WideLaws
import Derived.WalkSpells
import Derived.Great.BuildSlice
namespace Go.Zd

/-- an array as it lies in a block: where it starts, how many cells an element has, how many cells the block has, what is in it -/
structure GA where
  st : Nat
  wd : Nat
  sz : Nat
  es : List DV

structure Gh where
  G : Nat → Option GA
  V : Nat → Nat
  n : Nat
  L : Nat → Option Obj

mutual
inductive VR (g : Gh) : Value → DV → Prop
  | undef (x : Value) : VR g x .undef
  | bool (b : Bool) : VR g (.bool b) (.bool b)
  | int (k : IntKind) (n : Int) : VR g (.int k n) (.int k n)
  | str (s : ByteArray) : VR g (.string s) (.str s.data.toList)
  | nilptr : VR g (.pointer none) .nilptr
  | nilfunc : VR g .nilFunc .nilfunc
  | niliface : VR g .nilIface .niliface
  | nilslice : VR g (.slice none 0 0) .nilslice
  | ptr (b off : Nat) (h : b < g.n) : VR g (.pointer (some ⟨g.V b, off, none⟩)) (.ptr b off)
  | snap (c i off : Nat) (ga : GA) (v : DV) (h : g.G c = some ga) (hi : ga.es[i]? = some v) (ho : off < v.cells.length) :
      VR g (.pointer (some ⟨c, ga.st + i * ga.wd + off, none⟩)) (.snap v.cells off)
  | slice (c i len cap : Nat) (ga : GA) (fl : Fl) (h : g.G c = some ga) (hi : i + len ≤ ga.es.length) (hc : len ≤ cap)
      (hz : ga.st + (i + cap) * ga.wd ≤ ga.sz) (hf : fl = .ti → cap = len) :
      VR g (.slice (some ⟨c, ga.st + i * ga.wd, none⟩) len cap) (.slice fl ga.wd ((ga.es.drop i).take len))
  | func (f : Nat) (a b : Array Value) (da db : List DV) (ha : VRL g a.toList da) (hb : VRL g b.toList db) : VR g (.func (.func f) a b) (.func f da db)
  | iface (t : Nat) (x : Value) (d : DV) (h : VR g x d) : VR g (.iface t x) (.iface t d)
  | agg (cs : Array Value) (ds : List DV) (h : VRL g cs.toList ds) : VR g (.agg cs) (.agg ds)
  | tuple (cs : Array Value) (ds : List DV) (h : VRL g cs.toList ds) : VR g (.tuple cs) (.tuple ds)
inductive VRL (g : Gh) : List Value → List DV → Prop
  | nil : VRL g [] []
  | cons {x : Value} {d : DV} {xs : List Value} {ds : List DV} (h : VR g x d) (hs : VRL g xs ds) : VRL g (x :: xs) (d :: ds)
end

/-- arrays only grow, variables stay where they are -/
structure Gh.Le (g g' : Gh) : Prop where
  arr : ∀ c ga, g.G c = some ga → ∃ more, g'.G c = some { ga with es := ga.es ++ more }
  var : ∀ b, b < g.n → g'.V b = g.V b
  num : g.n ≤ g'.n
  low : g'.L = g.L

theorem Gh.Le.refl (g : Gh) : g.Le g := ⟨fun c ga h => ⟨[], by simp [h]⟩, fun _ _ => rfl, Nat.le_refl _, rfl⟩
theorem Gh.Le.trans {a b c : Gh} (h : a.Le b) (h' : b.Le c) : a.Le c := by
  refine ⟨fun k ga hk => ?_, fun k hk => ?_, Nat.le_trans h.num h'.num, h'.low.trans h.low⟩
  · obtain ⟨m, hm⟩ := h.arr k ga hk
    obtain ⟨m', hm'⟩ := h'.arr k _ hm
    exact ⟨m ++ m', by simp [hm']⟩
  · rw [h'.var k (Nat.lt_of_lt_of_le hk h.num), h.var k hk]

mutual
theorem VR.mono {g g' : Gh} (hg : g.Le g') : ∀ {x : Value} {d : DV}, VR g x d → VR g' x d
  | _, _, .undef x => .undef x
  | _, _, .bool b => .bool b
  | _, _, .int k n => .int k n
  | _, _, .str s => .str s
  | _, _, .nilptr => .nilptr
  | _, _, .nilfunc => .nilfunc
  | _, _, .niliface => .niliface
  | _, _, .nilslice => .nilslice
  | _, _, .ptr b off h => by rw [← hg.var b h]; exact .ptr b off (Nat.lt_of_lt_of_le h hg.num)
  | _, _, .snap c i off ga v h hi ho => by
    obtain ⟨m, hm⟩ := hg.arr c ga h
    have := VR.snap (g := g') c i off _ v hm (by
      have hl : i < ga.es.length := (List.getElem?_eq_some_iff.1 hi).1
      simp [List.getElem?_append_left hl, hi]) ho
    exact this
  | _, _, .slice c i len cap ga fl h hi hc hz hf => by
    obtain ⟨m, hm⟩ := hg.arr c ga h
    have := VR.slice (g := g') c i len cap _ fl hm (by simp; omega) hc hz hf
    have e : ((ga.es ++ m).drop i).take len = (ga.es.drop i).take len := by
      rw [List.drop_append_of_le_length (by omega), List.take_append_of_le_length (by simp; omega)]
    rw [← e]; exact this
  | _, _, .func f a b da db ha hb => .func f a b da db (VRL.mono hg ha) (VRL.mono hg hb)
  | _, _, .iface t x d h => .iface t x d (VR.mono hg h)
  | _, _, .agg cs ds h => .agg cs ds (VRL.mono hg h)
  | _, _, .tuple cs ds h => .tuple cs ds (VRL.mono hg h)
theorem VRL.mono {g g' : Gh} (hg : g.Le g') : ∀ {x : List Value} {d : List DV}, VRL g x d → VRL g' x d
  | _, _, .nil => .nil
  | _, _, .cons h hs => .cons (VR.mono hg h) (VRL.mono hg hs)
end

theorem VRL.length {g : Gh} : ∀ {xs : List Value} {ds : List DV}, VRL g xs ds → xs.length = ds.length
  | _, _, .nil => rfl
  | _, _, .cons _ hs => by simp [VRL.length hs]

theorem VRL.get {g : Gh} : ∀ {xs : List Value} {ds : List DV}, VRL g xs ds → ∀ {i : Nat} {d : DV}, ds[i]? = some d → ∃ x, xs[i]? = some x ∧ VR g x d
  | _, _, .nil, _, _, h => by simp at h
  | _, _, .cons h hs, 0, _, e => by simp at e; subst e; exact ⟨_, rfl, h⟩
  | _, _, .cons h hs, i + 1, _, e => by simp at e; simpa using VRL.get hs e

theorem VRL.of_get {g : Gh} : ∀ {xs : List Value} {ds : List DV}, xs.length = ds.length → (∀ (i : Nat) (x : Value) (d : DV), xs[i]? = some x → ds[i]? = some d → VR g x d) → VRL g xs ds
  | [], [], _, _ => .nil
  | [], _ :: _, h, _ => by simp at h
  | _ :: _, [], h, _ => by simp at h
  | x :: xs, d :: ds, h, hg => .cons (hg 0 x d rfl rfl) (VRL.of_get (by simpa using h) fun i x d hx hd => hg (i + 1) x d (by simpa using hx) (by simpa using hd))

theorem VRL.append {g : Gh} : ∀ {xs : List Value} {ds : List DV} {ys : List Value} {es : List DV}, VRL g xs ds → VRL g ys es → VRL g (xs ++ ys) (ds ++ es)
  | _, _, _, _, .nil, h => h
  | _, _, _, _, .cons h hs, h' => .cons h (VRL.append hs h')

theorem VRL.take {g : Gh} {xs : List Value} {ds : List DV} (h : VRL g xs ds) (n : Nat) : VRL g (xs.take n) (ds.take n) := by
  induction n generalizing xs ds with
  | zero => simp; exact .nil
  | succ n ih => cases h with
    | nil => exact .nil
    | cons h hs => exact .cons h (ih hs)

theorem VRL.drop {g : Gh} {xs : List Value} {ds : List DV} (h : VRL g xs ds) (n : Nat) : VRL g (xs.drop n) (ds.drop n) := by
  induction n generalizing xs ds with
  | zero => simpa using h
  | succ n ih => cases h with
    | nil => exact .nil
    | cons h hs => simpa using ih hs

/-- the cells of a value, as the model has them -/
theorem VR.cells {g : Gh} {x : Value} {d : DV} (h : VR g x d) (hu : d ≠ .undef) : VRL g x.cells.toList d.cells := by
  cases h with
  | undef => exact absurd rfl hu
  | agg cs ds h => exact h
  | _ => refine .cons ?_ .nil; constructor <;> assumption

theorem VR.clean {g : Gh} {x : Value} {d : DV} (h : VR g x d) : VR g x d.clean := by
  cases h with
  | slice c i len cap ga fl h hi hc hz hf =>
    cases fl with
    | own => exact .slice c i len cap ga .sh h hi hc hz (by intro h; cases h)
    | sh => exact .slice c i len cap ga .sh h hi hc hz hf
    | ti => exact .slice c i len cap ga .ti h hi hc hz hf
  | _ => constructor <;> assumption

theorem VRL.map_clean {g : Gh} : ∀ {xs : List Value} {ds : List DV}, VRL g xs ds → VRL g xs (ds.map DV.clean1)
  | _, _, .nil => .nil
  | _, _, .cons h hs => .cons h.clean hs.map_clean

/-- where the right to append to a block is -/
inductive Loc where
  | none | rest | res
  | slot (t : Nat)
  | cell (b j : Nat)
  deriving DecidableEq

/-- a slice at the end of its array, whose right lies at a place -/
def OwnAt (g : Gh) (O : Nat → Loc) (base : Nat) (x : Value) (l : Loc) : Prop :=
  ∃ c i len cap ga, x = .slice (some ⟨c, ga.st + i * ga.wd, Option.none⟩) len cap ∧ g.G c = some ga ∧ i + len = ga.es.length ∧ base ≤ c ∧ O c = l

def flat (es : List DV) : List DV := es.flatMap DV.cells

/-- what holds of the memory that was there at the start -/
class LowPred where
  Q : (Nat → Option Obj) → Prop


structure Inv [LowPred] (w : World) (g : Gh) (O : Nat → Loc) (H : List (List DV)) (base : Nat) : Prop where
  num : g.n = H.length
  le : base ≤ w.heap.size
  dom : ∀ c, w.heap.size ≤ c → O c = .none
  arr : ∀ c ga, g.G c = some ga → ∃ cs E fr, w.heap[c]? = some (.cells cs E fr) ∧ cs.size = ga.sz ∧ 0 < ga.wd ∧ ga.st + ga.es.length * ga.wd ≤ ga.sz ∧
    (∀ v ∈ ga.es, v.elemOk ga.wd = true) ∧ VRL g ((cs.toList.drop ga.st).take (ga.es.length * ga.wd)) (flat ga.es) ∧ (base ≤ c → fr = (0, 0))
  var : ∀ b ds, H[b]? = some ds → base ≤ g.V b ∧ g.G (g.V b) = Option.none ∧ ds.all (DV.cellOk b) = true ∧
    ∃ cs E, w.heap[g.V b]? = some (.cells cs E (0, 0)) ∧ VRL g cs.toList ds ∧
      ∀ j d x, ds[j]? = some d → cs.toList[j]? = some x → isOwn d = true → OwnAt g O base x (.cell b j)
  inj : ∀ b b', b < H.length → b' < H.length → g.V b = g.V b' → b = b'
  low : ∀ i, i < base → w.heap[i]? = g.L i
  lowOk : LowPred.Q g.L

/-- what a part of a run leaves as it was -/
structure Hist (w : World) (g : Gh) (O : Nat → Loc) (base : Nat) (PR : List Nat) (w' : World) (g' : Gh) (O' : Nat → Loc) : Prop where
  ext : g.Le g'
  rest : ∀ c, O c = .rest → O' c = .rest ∧ g'.G c = g.G c
  prot : ∀ b ∈ PR, b < g.n → w'.heap[g.V b]? = w.heap[g.V b]?
  low : ∀ i, i < base → w'.heap[i]? = w.heap[i]?
  size : w.heap.size ≤ w'.heap.size
  os : w'.os = w.os
  out : w'.output = w.output
  tp : w'.tape = w.tape
  sorts : ∀ i, i < w.heap.size → ∀ cs E fr, w.heap[i]? = some (.cells cs E fr) → ∃ cs', w'.heap[i]? = some (.cells cs' E fr) ∧ cs'.size = cs.size

theorem Hist.refl (w : World) (g : Gh) (O : Nat → Loc) (base : Nat) (PR : List Nat) : Hist w g O base PR w g O :=
  ⟨.refl g, fun _ h => ⟨h, rfl⟩, fun _ _ _ => rfl, fun _ _ => rfl, Nat.le_refl _, rfl, rfl, rfl, fun _ _ cs _ _ h => ⟨cs, h, rfl⟩⟩

theorem Hist.trans {w : World} {g : Gh} {O : Nat → Loc} {base : Nat} {PR : List Nat} {w1 : World} {g1 : Gh} {O1 : Nat → Loc} {w2 : World} {g2 : Gh} {O2 : Nat → Loc}
    (h : Hist w g O base PR w1 g1 O1) (h' : Hist w1 g1 O1 base PR w2 g2 O2) : Hist w g O base PR w2 g2 O2 := by
  refine ⟨h.ext.trans h'.ext, fun c hc => ?_, fun b hb hn => ?_, fun i hi => (h'.low i hi).trans (h.low i hi), Nat.le_trans h.size h'.size, h'.os.trans h.os, h'.out.trans h.out, h'.tp.trans h.tp, ?_⟩
  · have a := h.rest c hc
    have b := h'.rest c a.1
    exact ⟨b.1, b.2.trans a.2⟩
  · have e := h.ext.var b hn
    have := h'.prot b hb (Nat.lt_of_lt_of_le hn h.ext.num)
    rw [e] at this
    exact this.trans (h.prot b hb hn)
  · intro i hi cs E fr hc
    obtain ⟨cs1, h1, e1⟩ := h.sorts i hi cs E fr hc
    obtain ⟨cs2, h2, e2⟩ := h'.sorts i (Nat.lt_of_lt_of_le hi h.size) cs1 E fr h1
    exact ⟨cs2, h2, e2.trans e1⟩

theorem Hist.mono {w : World} {g : Gh} {O : Nat → Loc} {base : Nat} {PR PR' : List Nat} {w' : World} {g' : Gh} {O' : Nat → Loc}
    (h : Hist w g O base PR w' g' O') (hp : ∀ b ∈ PR', b ∈ PR) : Hist w g O base PR' w' g' O' :=
  ⟨h.ext, h.rest, fun b hb => h.prot b (hp b hb), h.low, h.size, h.os, h.out, h.tp, h.sorts⟩

end Go.Zd
namespace Go.Zd

variable {P : Program} {g : Gh} {a : Act} {tm : List (Nat × DV)} {w : World}

theorem const1_VR : ∀ {v : Value} {d : DV}, const1 v = some d → VR g v d := by
  intro v d h
  unfold const1 at h
  split at h <;> first | (cases h; constructor) | cases h

theorem constL_VR [LowPred] : ∀ {l : List Value} {ds : List DV}, constL l = some ds → VRL g l ds
  | [], ds, h => by cases h; exact .nil
  | v :: r, ds, h => by
    unfold constL at h
    split at h
    · cases h
      rename_i d l h1 h2
      exact .cons (const1_VR h1) (constL_VR h2)
    · cases h

theorem constDV_VR [LowPred] {v : Value} {d : DV} (h : constDV v = some d) : VR g v d := by
  unfold constDV at h
  split at h
  · rename_i cs
    cases hc : constL cs.toList with
    | none => simp [hc] at h
    | some ds => simp [hc] at h; subst h; exact .agg cs ds (constL_VR hc)
  · exact const1_VR h

def Slots (g : Gh) (a : Act) (tm : List (Nat × DV)) : Prop := ∀ t, VR g (a.tmps.getD t undef) (look tm t).clean

theorem opd_VR [LowPred] (hs : Slots g a tm) {x : Operand} {d : DX} (h : opd x = some d) : VR g (a.eval x) (rdc tm d) := by
  cases x with
  | tmp t => cases h; exact hs t
  | const v =>
    cases hc : constDV v with
    | none => simp [opd, hc] at h
    | some dv => simp [opd, hc] at h; subst h; exact (constDV_VR hc).clean
  | func f => cases h; exact .func f #[] #[] [] [] .nil .nil
  | global g => cases h

/-- operands and what they are -/
def OpR (g : Gh) (ρ : Operand → Value) (tm : List (Nat × DV)) : Prop := ∀ x d, opd x = some d → VR g (ρ x) (rdc tm d)

theorem Slots.opr [LowPred] (hs : Slots g a tm) : OpR g a.eval tm := fun _ _ h => opd_VR hs h

theorem OpR.mono {g' : Gh} {ρ : Operand → Value} (h : OpR g ρ tm) (hg : g.Le g') : OpR g' ρ tm := fun x d hx => (h x d hx).mono hg

theorem opdL_VR {ρ : Operand → Value} (hs : OpR g ρ tm) : ∀ {l : List Operand} {ds : List DX}, opdL l = some ds → VRL g (l.map ρ) (ds.map (rdc tm))
  | [], ds, h => by cases h; exact .nil
  | x :: r, ds, h => by
    unfold opdL at h
    split at h
    · cases h
      rename_i d l h1 h2
      exact .cons (hs _ _ h1) (opdL_VR hs h2)
    · cases h

theorem vr_int {x : Value} {k : IntKind} {n : Int} (h : VR g x (.int k n)) : x = .int k n := by cases h; rfl
theorem vr_bool {x : Value} {b : Bool} (h : VR g x (.bool b)) : x = .bool b := by cases h; rfl
theorem vr_str {x : Value} {l : List UInt8} (h : VR g x (.str l)) : ∃ s : ByteArray, x = .string s ∧ s.data.toList = l := by cases h; exact ⟨_, rfl, rfl⟩
theorem vr_agg {x : Value} {l : List DV} (h : VR g x (.agg l)) : ∃ cs : Array Value, x = .agg cs ∧ VRL g cs.toList l := by cases h; exact ⟨_, rfl, ‹_›⟩
theorem vr_tuple {x : Value} {l : List DV} (h : VR g x (.tuple l)) : ∃ cs : Array Value, x = .tuple cs ∧ VRL g cs.toList l := by cases h; exact ⟨_, rfl, ‹_›⟩

theorem toNatIdx_some {v : DV} {n : Nat} (h : toNatIdx v = some n) : ∃ k, v = .int k n := by
  unfold toNatIdx at h
  split at h
  · rename_i k m
    split at h
    · cases h; exact ⟨k, by congr 1; omega⟩
    · cases h
  · cases h


variable {ρ : Operand → Value}

theorem sim_move {o : Oper} {x : Operand} {d : DX} {v : DV} (ho : o.op = .move x ∨ o.op = .assign x) (hs : OpR g ρ tm) (hd : opd x = some d)
    (hp : pureOp tm (.move d) = some v) : ∃ y, (execOp ρ o).run P w = .ok (.value y) w ∧ VR g y v := by
  simp [pureOp] at hp; subst hp
  exact ⟨ρ x, by rcases ho with ho | ho <;> (simp [execOp, ho]), hs _ _ hd⟩

theorem sim_pick [LowPred] {o : Oper} {c x y : Operand} {dc dx dy : DX} {v : DV} (ho : o.op = .pick c x y) (hs : OpR g ρ tm) (hc : opd c = some dc) (hx : opd x = some dx) (hy : opd y = some dy)
    (hp : pureOp tm (.pick dc dx dy) = some v) : ∃ y, (execOp ρ o).run P w = .ok (.value y) w ∧ VR g y v := by
  have h := hs _ _ hc
  simp only [pureOp] at hp
  split at hp
  · rename_i hb; rw [hb] at h; have e := vr_bool h; cases hp
    exact ⟨ρ x, by simp [execOp, ho, e, asBool], hs _ _ hx⟩
  · rename_i hb; rw [hb] at h; have e := vr_bool h; cases hp
    exact ⟨ρ y, by simp [execOp, ho, e, asBool], hs _ _ hy⟩
  · cases hp

theorem sim_un [LowPred] {o : Oper} {op : UnOp} {t : TypeId} {x : Operand} {dx : DX} {v : DV} (ho : o.op = .unOp op t x) (hs : OpR g ρ tm) (hx : opd x = some dx)
    (hp : pureOp tm (.un op dx) = some v) : ∃ y, (execOp ρ o).run P w = .ok (.value y) w ∧ VR g y v := by
  have h := hs _ _ hx
  simp only [pureOp] at hp
  unfold unDV at hp
  split at hp
  · rename_i k n hb; rw [hb] at h; have e := vr_int h; cases hp
    exact ⟨.int k (k.wrap (0 - n)), by simp [execOp, ho, e, Op.unary, Op.intArith], .int _ _⟩
  · rename_i b hb; rw [hb] at h; have e := vr_bool h; cases hp
    exact ⟨.bool (!b), by simp [execOp, ho, e, Op.unary], .bool _⟩
  · cases hp

theorem sim_conv [LowPred] {o : Oper} {s t : TypeId} {x : Operand} {dx : DX} {k k' : IntKind} {v : DV} (ho : o.op = .convert s t x) (hs : OpR g ρ tm) (hx : opd x = some dx)
    (h1 : P.underlying s = some (.int k')) (h2 : P.underlying t = some (.int k))
    (hp : pureOp tm (.conv k dx) = some v) : ∃ y, (execOp ρ o).run P w = .ok (.value y) w ∧ VR g y v := by
  have h := hs _ _ hx
  simp only [pureOp] at hp
  split at hp
  · rename_i k2 n hb; rw [hb] at h; have e := vr_int h; cases hp
    exact ⟨.int k (k.wrap n), by simp [execOp, ho, e, convert, run_underlying h1, run_underlying h2, Conv.intToInt], .int _ _⟩
  · cases hp

theorem sim_convId [LowPred] {o : Oper} {s t : TypeId} {x : Operand} {dx : DX} {v : DV} (ho : o.op = .convert s t x) (hs : OpR g ρ tm) (hx : opd x = some dx)
    (h1 : P.underlying s = some .string) (h2 : P.underlying t = some .string)
    (hp : pureOp tm (.convId dx) = some v) : ∃ y, (execOp ρ o).run P w = .ok (.value y) w ∧ VR g y v := by
  have h := hs _ _ hx
  simp only [pureOp] at hp
  split at hp
  · rename_i l hb; rw [hb] at h; obtain ⟨b, e, hl⟩ := vr_str h; cases hp
    exact ⟨.string b, by simp [execOp, ho, e, convert, run_underlying h1, run_underlying h2], by rw [← hl]; exact .str b⟩
  · cases hp

theorem sim_mkif {o : Oper} {t : TypeId} {x : Operand} {dx : DX} {v : DV} {u : TypeDesc} (ho : o.op = .makeInterface t x) (hs : OpR g ρ tm) (hx : opd x = some dx)
    (h1 : P.underlying t = some u) (h2 : ∀ ms, u ≠ .interface ms)
    (hp : pureOp tm (.mkif t dx) = some v) : ∃ y, (execOp ρ o).run P w = .ok (.value y) w ∧ VR g y v := by
  have h := hs _ _ hx
  simp only [pureOp] at hp
  cases hp
  refine ⟨.iface t (ρ x), ?_, .iface t _ _ h⟩
  cases u <;> simp [execOp, ho, Instr.makeInterface, run_underlying h1]
  exact absurd rfl (h2 _)

theorem sim_mkfn [LowPred] {o : Oper} {f : Nat} {fs cs : Array Operand} {df dc : List DX} {v : DV} (ho : o.op = .makeFunc (.func f) fs cs) (hs : OpR g ρ tm)
    (h1 : opdL fs.toList = some df) (h2 : opdL cs.toList = some dc)
    (hp : pureOp tm (.mkfn f df dc) = some v) : ∃ y, (execOp ρ o).run P w = .ok (.value y) w ∧ VR g y v := by
  simp only [pureOp] at hp
  cases hp
  refine ⟨.func (.func f) (fs.map ρ) (cs.map ρ), by simp [execOp, ho, Instr.makeFunc], .func f _ _ _ _ ?_ ?_⟩
  · simpa using opdL_VR hs h1
  · simpa using opdL_VR hs h2

theorem sim_nilchk {o : Oper} {x : Operand} {dx : DX} {v : DV} (ho : o.op = .nilCheck x) (hs : OpR g ρ tm) (hx : opd x = some dx)
    (hp : pureOp tm (.nilchk dx) = some v) : ∃ y, (execOp ρ o).run P w = .ok (.value y) w ∧ VR g y v := by
  have h := hs _ _ hx
  simp only [pureOp] at hp
  split at hp
  all_goals first | (cases hp; done) | skip
  all_goals
    rename_i hb; rw [hb] at h; cases hp
    refine ⟨ρ x, ?_, h⟩
    generalize hy : ρ x = y at h
    cases h; simp [execOp, ho, hy]

theorem sim_extract [LowPred] {o : Oper} {x : Operand} {i : Nat} {dx : DX} {v : DV} (ho : o.op = .extract x i) (hs : OpR g ρ tm) (hx : opd x = some dx)
    (hp : pureOp tm (.extract dx i) = some v) : ∃ y, (execOp ρ o).run P w = .ok (.value y) w ∧ VR g y v := by
  have h := hs _ _ hx
  simp only [pureOp] at hp
  split at hp
  · rename_i vs hb; rw [hb] at h
    split at hp
    · rename_i d hd
      cases hp
      obtain ⟨cs, e, hc⟩ := vr_tuple h
      obtain ⟨y, hy, hv⟩ := hc.get hd
      refine ⟨y, ?_, hv.clean⟩
      have hy' : cs[i]? = some y := by simpa using hy
      simp [execOp, ho, e, Instr.extract, hy']
    · cases hp
  · cases hp

theorem sim_len_str [LowPred] {o : Oper} {t : TypeId} {x : Operand} {dx : DX} {v : DV} {args : Array Operand} {tys : Array TypeId} (ho : o.op = .call { callee := .builtin .len, args, argTypes := tys })
    (ha : args.toList = [x]) (ht : tys.toList = [t]) (hs : OpR g ρ tm) (hx : opd x = some dx) (hu : P.underlying t = some .string)
    (hp : pureOp tm (.len true dx) = some v) : ∃ y, (execOp ρ o).run P w = .ok (.value y) w ∧ VR g y v := by
  have h := hs _ _ hx
  obtain rfl : args = #[x] := by rw [← ha]
  obtain rfl : tys = #[t] := by rw [← ht]
  simp only [pureOp] at hp
  split at hp
  · rename_i l _ hb; rw [hb] at h; obtain ⟨b, e, hl⟩ := vr_str h; cases hp
    refine ⟨.int .i64 b.size, by simp [execOp, ho, e, resolve, invoke, builtin, Builtin.len_, run_underlying hu, goInt], ?_⟩
    have : (b.size : Int) = l.length := by rw [← hl]; simp
    rw [← this]; exact .int _ _
  all_goals simp at *

theorem sim_len_slice {o : Oper} {t e : TypeId} {x : Operand} {dx : DX} {v : DV} {args : Array Operand} {tys : Array TypeId} (ho : o.op = .call { callee := .builtin .len, args, argTypes := tys })
    (ha : args.toList = [x]) (ht : tys.toList = [t]) (hs : OpR g ρ tm) (hx : opd x = some dx) (hu : P.underlying t = some (.slice e))
    (hp : pureOp tm (.len false dx) = some v) : ∃ y, (execOp ρ o).run P w = .ok (.value y) w ∧ VR g y v := by
  have h := hs _ _ hx
  obtain rfl : args = #[x] := by rw [← ha]
  obtain rfl : tys = #[t] := by rw [← ht]
  simp only [pureOp] at hp
  generalize hy : ρ x = y at h
  split at hp
  · simp at *
  · rename_i hb; rw [hb] at h; cases hp; cases h
    exact ⟨.int .i64 0, by simp [execOp, ho, hy, resolve, invoke, builtin, Builtin.len_, run_underlying hu, goInt], .int _ _⟩
  · rename_i hb; rw [hb] at h; cases hp; cases h
    rename_i i len cap ga h1 h2 h3 h4 h5
    refine ⟨.int .i64 len, by simp [execOp, ho, hy, resolve, invoke, builtin, Builtin.len_, run_underlying hu, goInt], ?_⟩
    have : (((ga.es.drop i).take len).length : Int) = len := by simp; omega
    rw [this]; exact .int _ _
  · cases hp

theorem run_sizeOf {t : TypeId} {n : Nat} (h : szOf P t = some n) (w : World) : (sizeOf t).run P w = .ok n w := by
  unfold szOf at h
  cases hi : P.info? t with
  | none => rw [hi] at h; cases h
  | some i =>
    rw [hi] at h
    simp at h
    subst h
    simp [sizeOf, typeInfo, go_sem, hi]

theorem addr_add (a : Addr) (n : Nat) (h : a.spot = none) : a.add n = ⟨a.block, a.off + n, none⟩ := by
  unfold Addr.add
  split
  · subst_vars; cases a; simp_all
  · rfl

theorem sim_faddr [LowPred] {o : Oper} {t : TypeId} {x : Operand} {dx : DX} {v : DV} {f : Nat} {fs : Array Field} {fd : Field} {n : Nat} (ho : o.op = .fieldAddr t x f) (hs : OpR g ρ tm) (hx : opd x = some dx)
    (hu : P.underlying t = some (.struct fs)) (hf : fs[f]? = some fd) (hn : szOf P fd.type = some n) (hn0 : n ≠ 0)
    (hp : pureOp tm (.faddr fd.offset dx) = some v) : ∃ y, (execOp ρ o).run P w = .ok (.value y) w ∧ VR g y v := by
  have h := hs _ _ hx
  simp only [pureOp] at hp
  generalize hy : ρ x = y at h
  have key : ∀ ad : Addr, ad.spot = none → y = .pointer (some ad) → (execOp ρ o).run P w = .ok (.value (.pointer (some ⟨ad.block, ad.off + fd.offset, none⟩))) w := by
    intro ad hsp e
    rw [← addr_add ad _ hsp]
    simp [execOp, ho, hy, e, Instr.fieldAt, run_underlying hu, hf, Instr.sureAddr, fieldPlace, run_sizeOf hn, hn0]
  split at hp
  · rename_i hb; rw [hb] at h; cases hp; cases h
    exact ⟨_, key _ rfl rfl, .ptr _ _ ‹_›⟩
  · rename_i hb; rw [hb] at h
    split at hp
    · cases hp; cases h
      rename_i c i ga dv h1 h2 hlt h3
      refine ⟨_, key _ rfl rfl, ?_⟩
      have := VR.snap c i _ ga dv h1 h2 hlt
      simpa [Nat.add_assoc] using this
    · cases hp
  · cases hp

theorem flat_nil : flat [] = [] := rfl
theorem flat_cons (v : DV) (es : List DV) : flat (v :: es) = v.cells ++ flat es := rfl
theorem flat_append (a b : List DV) : flat (a ++ b) = flat a ++ flat b := by simp [flat]

theorem flat_length [LowPred] {es : List DV} {wd : Nat} (h : ∀ v ∈ es, v.cells.length = wd) : (flat es).length = es.length * wd := by
  induction es with
  | nil => simp [flat]
  | cons v es ih =>
    rw [flat_cons, List.length_append, ih (fun v hv => h v (by simp [hv])), h v (by simp), List.length_cons, Nat.add_mul]
    omega

/-- the cells of one element, out of all of them -/
theorem flat_get [LowPred] {es : List DV} {wd : Nat} (h : ∀ v ∈ es, v.cells.length = wd) {i : Nat} {v : DV} (hi : es[i]? = some v) :
    ((flat es).drop (i * wd)).take wd = v.cells := by
  induction es generalizing i with
  | nil => simp at hi
  | cons u es ih =>
    have hu := h u (by simp)
    cases i with
    | zero => simp at hi; subst hi; rw [flat_cons]; simp [← hu]
    | succ i =>
      simp at hi
      have := ih (fun v hv => h v (by simp [hv])) hi
      rw [flat_cons, Nat.add_mul, Nat.one_mul, Nat.add_comm (i * wd) wd, ← List.drop_drop, ← hu, List.drop_left]
      rw [hu]; exact this

theorem elemOk_len {wd : Nat} {v : DV} (h : v.elemOk wd = true) : v.cells.length = wd := by
  simp only [DV.elemOk, Bool.and_eq_true] at h
  exact Nat.eq_of_beq_eq_true h.1

theorem sim_iaddr [LowPred] {o : Oper} {t e : TypeId} {x ix : Operand} {dx di : DX} {v : DV} {n : Nat} {O : Nat → Loc} {H : List (List DV)} {base : Nat} (hI : Inv w g O H base) (ho : o.op = .indexAddr t x ix) (hs : OpR g ρ tm)
    (hx : opd x = some dx) (hi : opd ix = some di) (hu : P.underlying t = some (.slice e)) (hn : szOf P e = some n)
    (hp : pureOp tm (.iaddr n dx di) = some v) : ∃ y, (execOp ρ o).run P w = .ok (.value y) w ∧ VR g y v := by
  have h := hs _ _ hx
  have hj := hs _ _ hi
  simp only [pureOp] at hp
  generalize hy : ρ x = y at h
  split at hp
  · rename_i j hb
    obtain ⟨k, hk⟩ := toNatIdx_some hb
    rw [hk] at hj
    have ej := vr_int hj
    split at hp
    · rename_i fl wd es hb2
      split at hp
      case isFalse => cases hp
      rename_i hwn
      have hwn := Nat.eq_of_beq_eq_true hwn
      subst hwn
      rw [hb2] at h
      split at hp
      · rename_i d hd
        cases hp
        cases h
        rename_i c i len cap ga h1 h2 h3 h4 h5
        have hlen : j < len := by
          have := (List.getElem?_eq_some_iff.1 hd).1
          simp at this; omega
        have hd' : ga.es[i + j]? = some d := by
          rw [List.getElem?_take_of_lt hlen, List.getElem?_drop] at hd
          exact hd
        obtain ⟨cs, E, fr, _, _, hwd, _, hok, _⟩ := hI.arr _ _ h1
        have hcl : d.cells.length = ga.wd := elemOk_len (hok d (List.mem_of_getElem? hd'))
        have := VR.snap (g := g) c (i + j) 0 ga d h1 hd' (by omega)
        refine ⟨_, ?_, this⟩
        simp [execOp, ho, hy, ej, Instr.indexAt, asIntOf, run_underlying hu, hlen, run_sizeOf hn, addr_add]
        rw [Nat.add_mul, Nat.add_assoc]
      · cases hp
    · cases hp
  · cases hp

theorem sim_idx [LowPred] {o : Oper} {t : TypeId} {x ix : Operand} {dx di : DX} {v : DV} (ho : o.op = .index t x ix) (hs : OpR g ρ tm)
    (hx : opd x = some dx) (hi : opd ix = some di) (hu : P.underlying t = some .string)
    (hp : pureOp tm (.idx dx di) = some v) : ∃ y, (execOp ρ o).run P w = .ok (.value y) w ∧ VR g y v := by
  have h := hs _ _ hx
  have hj := hs _ _ hi
  simp only [pureOp] at hp
  split at hp
  · rename_i j hb
    obtain ⟨k, hk⟩ := toNatIdx_some hb
    rw [hk] at hj
    have ej := vr_int hj
    split at hp
    · rename_i l hb2
      rw [hb2] at h
      obtain ⟨s, es, hl⟩ := vr_str h
      split at hp
      · rename_i b hbb
        cases hp
        refine ⟨.int .u8 b.toNat, ?_, .int _ _⟩
        subst hl
        have hb' : s[j]? = some b := by
          obtain ⟨hj, e⟩ := List.getElem?_eq_some_iff.1 hbb
          have hj' : j < s.size := by simpa using hj
          rw [getElem?_pos s j hj']; rw [← e]; rfl
        simp [execOp, ho, es, ej, Instr.index, asIntOf, run_underlying hu, hb']
      · cases hp
    · cases hp
  · cases hp


/-! ## two operands -/

theorem run_asBool (b : Bool) (w : World) : (asBool (.bool b)).run P w = .ok b w := rfl

theorem sim_bin0_int {o : Oper} {op : BinOp} {t u : TypeId} {x y : Operand} {k k' : IntKind} {m n : Int} {v : DV} (ho : o.op = .binOp op t x y u)
    (hx : ρ x = .int k m) (hy : ρ y = .int k' n) (hp : binDV 0 op (.int k m) (.int k' n) = some v) :
    ∃ z, (execOp ρ o).run P w = .ok (.value z) w ∧ VR g z v := by
  have e0 : (eqGuard op t x y (.int k m) (.int k' n)).run P w = .ok () w := by
    unfold eqGuard
    cases op <;> rfl
  have key : ∀ z : Value, (binOp op t (.int k m) (.int k' n)).run P w = .ok z w → (execOp ρ o).run P w = .ok (.value z) w := by
    intro z hz
    simp [execOp, ho, hx, hy, e0, hz]
  simp only [binDV] at hp
  by_cases hsh : op = .shl ∨ op = .shr
  · rcases hsh with rfl | rfl
    · simp only [shiftOp] at hp
      split at hp
      · cases hp
      · cases hp
        refine ⟨_, key _ ?_, .int _ _⟩
        simp [binOp, Op.shift, *]
    · simp only [shiftOp] at hp
      split at hp
      · cases hp
      · cases hp
        refine ⟨_, key _ ?_, .int _ _⟩
        simp [binOp, Op.shift, *]
  · have hp' : (if k = k' then intOp op k m n else none) = some v := by
      cases op <;> simp at hsh <;> exact hp
    clear hp
    split at hp'
    · rename_i hk
      subst hk
      have hb : ∃ z, (binOp op t (.int k m) (.int k n)).run P w = .ok z w ∧ VR g z v := by
        cases op <;> simp at hsh <;> simp only [intOp] at hp'
        all_goals first
          | (cases hp'; refine ⟨_, ?_, VR.int _ _⟩; simp [binOp, Op.intArith, Op.intBits]; done)
          | (cases hp'; refine ⟨_, ?_, VR.bool _⟩; simp [binOp, Op.intCmp]; done)
          | (split at hp'
             · cases hp'
             · rename_i hz
               cases hp'
               refine ⟨_, ?_, VR.int _ _⟩
               simp [binOp, Op.intDiv, hz])
          | cases hp'
      obtain ⟨z, h1, h2⟩ := hb
      exact ⟨z, key z h1, h2⟩
    · cases hp'

end Go.Zd
namespace Go.Zd
variable {P : Program} {g : Gh} {tm : List (Nat × DV)} {w : World} {ρ : Operand → Value}

theorem ba_toList_loop (s : ByteArray) : ∀ (n i : Nat) (r : List UInt8), s.size - i = n → ByteArray.toList.loop s i r = r.reverse ++ s.data.toList.drop i := by
  intro n
  induction n with
  | zero =>
    intro i r h
    unfold ByteArray.toList.loop
    have : ¬ i < s.size := by omega
    simp only [this, if_false]
    rw [List.drop_eq_nil_of_le (by simp; omega)]
    simp
  | succ n ih =>
    intro i r h
    unfold ByteArray.toList.loop
    have hi : i < s.size := by omega
    simp only [hi, if_true]
    rw [ih (i + 1) _ (by omega)]
    rw [List.drop_eq_getElem_cons (l := s.data.toList) (i := i) (by simpa using hi), List.reverse_cons, List.append_assoc]
    congr 1
    simp only [List.singleton_append, List.cons.injEq, and_true]
    simp [ByteArray.get!, hi]

theorem ba_toList [LowPred] (s : ByteArray) : s.toList = s.data.toList := by
  unfold ByteArray.toList
  rw [ba_toList_loop s s.size 0 [] (by omega)]
  simp

theorem sim_bin0_str [LowPred] {o : Oper} {op : BinOp} {t u : TypeId} {x y : Operand} {a b : ByteArray} {v : DV} (ho : o.op = .binOp op t x y u)
    (hx : ρ x = .string a) (hy : ρ y = .string b) (hp : binDV 0 op (.str a.data.toList) (.str b.data.toList) = some v) :
    ∃ z, (execOp ρ o).run P w = .ok (.value z) w ∧ VR g z v := by
  have e0 : (eqGuard op t x y (.string a) (.string b)).run P w = .ok () w := by
    unfold eqGuard
    cases op <;> rfl
  have key : ∀ z : Value, (binOp op t (.string a) (.string b)).run P w = .ok z w → (execOp ρ o).run P w = .ok (.value z) w := by
    intro z hz
    simp [execOp, ho, hx, hy, e0, hz]
  have hb : ∀ z, (Op.stringOp op a b).run P w = .ok z w → (binOp op t (.string a) (.string b)).run P w = .ok z w := by
    intro z hz
    cases op <;> exact hz
  simp only [binDV, strOp] at hp
  cases op <;> simp only at hp
  all_goals first
    | (cases hp; done)
    | (cases hp
       refine ⟨_, key _ (hb _ ?_), VR.bool _⟩
       simp [Op.stringOp, ba_toList]
       done)
    | skip
  split at hp
  · rename_i h
    cases hp
    refine ⟨.string (a ++ b), key _ (hb _ ?_), ?_⟩
    · have : ((a.size + b.size : Nat) : Int) ≤ IntKind.i64.max := by
        simp at h
        show _ ≤ (9223372036854775807 : Int)
        omega
      simp only [Op.stringOp, gt_iff_lt, Int.not_lt.2 this, if_false]
      rfl
    · have := VR.str (g := g) (a ++ b)
      simpa using this
  · cases hp


theorem sim_bin1 {o : Oper} {op : BinOp} {t u : TypeId} {x y : Operand} {a b : Bool} {v : DV} (ho : o.op = .binOp op t x y u) (hu : P.underlying t = some .bool)
    (hx : ρ x = .bool a) (hy : ρ y = .bool b) (hp : binDV 1 op (.bool a) (.bool b) = some v) :
    ∃ z, (execOp ρ o).run P w = .ok (.value z) w ∧ VR g z v := by
  have e0 : (eqGuard op t x y (.bool a) (.bool b)).run P w = .ok () w := by
    unfold eqGuard
    cases op <;> rfl
  have key : ∀ z : Value, (binOp op t (.bool a) (.bool b)).run P w = .ok z w → (execOp ρ o).run P w = .ok (.value z) w := by
    intro z hz
    simp [execOp, ho, hx, hy, e0, hz]
  simp only [binDV] at hp
  cases op <;> simp only [boolOp] at hp <;> cases hp
  · exact ⟨_, key _ (run_eql_bool w t a b hu), .bool _⟩
  · exact ⟨_, key _ (run_neq_bool w t a b hu), .bool _⟩

theorem methodsAt_of {t : TypeId} {ms : Array (String × TypeId)} (h : P.underlying t = some (.interface ms)) : P.underlying t = some (.interface (P.methodsAt t)) := by
  unfold Program.methodsAt
  rw [h]

theorem run_neq_of_eql {t : TypeId} {x y : Value} {b : Bool} (hn : ∀ a c, x ≠ .string a ∨ y ≠ .string c)
    (hx : (∃ a n c, x = .slice a n c) ∨ x = .nilIface ∨ (∃ u z, x = .iface u z))
    (h : (binOp .eql t x y).run P w = .ok (.bool b) w) : (binOp .neq t x y).run P w = .ok (.bool (!b)) w := by
  have key : ∀ (e : Sem Bool), (do pure (Value.bool (← e)) : Sem Value).run P w = .ok (.bool b) w → (do pure (Value.bool (!(← e))) : Sem Value).run P w = .ok (.bool (!b)) w := by
    intro e he
    simp only [Sem.run_bind] at he ⊢
    cases hr : Sem.run P e w with
    | ok v w' =>
      rw [hr] at he
      simp at he
      simp [he.1, he.2]
    | halt v w' => rw [hr] at he; cases he
  rcases hx with ⟨a, n, c, rfl⟩ | rfl | ⟨u, z, rfl⟩ <;> cases y <;> exact key _ h

theorem sim_bin2 [LowPred] {o : Oper} {op : BinOp} {t u : TypeId} {x y : Operand} {dx dy v : DV} {ms : Array (String × TypeId)} (ho : o.op = .binOp op t x y u) (hu : P.underlying t = some (.interface ms))
    (hc : x = .const .nilIface ∨ y = .const .nilIface) (hx : VR g (ρ x) dx) (hy : VR g (ρ y) dy) (hp : binDV 2 op dx dy = some v) :
    ∃ z, (execOp ρ o).run P w = .ok (.value z) w ∧ VR g z v := by
  have hu' := methodsAt_of hu
  generalize hxv : ρ x = xv at hx
  generalize hyv : ρ y = yv at hy
  have main : ∀ (b : Bool) (xv yv : Value), (xv = .nilIface ∨ ∃ u z, xv = .iface u z) → yv = .nilIface → ρ x = xv → ρ y = yv → (binOp .eql t xv yv).run P w = .ok (.bool b) w → nilOp op b = some v →
      ∃ z, (execOp ρ o).run P w = .ok (.value z) w ∧ VR g z v := by
    intro b xv yv hxs hys e1 e2 hb hv
    subst hys
    have e0 : (eqGuard op t x y xv .nilIface).run P w = .ok () w := by
      rcases hxs with rfl | ⟨u, z, rfl⟩
      · rcases hc with rfl | rfl
        · cases op <;> rfl
        · cases op <;> cases x <;> rfl
      · unfold eqGuard
        split <;> rfl
    have key : ∀ z : Value, (binOp op t xv .nilIface).run P w = .ok z w → (execOp ρ o).run P w = .ok (.value z) w := by
      intro z hz
      simp [execOp, ho, e1, e2, e0, hz]
    cases op <;> simp only [nilOp] at hv <;> cases hv
    · exact ⟨_, key _ hb, .bool _⟩
    · refine ⟨_, key _ (run_neq_of_eql (by simp) ?_ hb), .bool _⟩
      rcases hxs with rfl | ⟨u, z, rfl⟩
      · exact .inr (.inl rfl)
      · exact .inr (.inr ⟨_, _, rfl⟩)
  unfold binDV at hp
  split at hp
  all_goals first | (exfalso; simp at *; done) | skip
  · cases hx; cases hy; exact main true _ _ (.inl rfl) rfl hxv hyv (run_eql_nil_nil w t hu') hp
  · cases hx; cases hy; exact main false _ _ (.inr ⟨_, _, rfl⟩) rfl hxv hyv (run_eql_held_nil w t _ _ hu') hp

theorem sim_bin3 [LowPred] {o : Oper} {op : BinOp} {t u e : TypeId} {x y : Operand} {dx dy v : DV} (ho : o.op = .binOp op t x y u) (hu : P.underlying t = some (.slice e))
    (hx : VR g (ρ x) dx) (hy : VR g (ρ y) dy) (hp : binDV 3 op dx dy = some v) :
    ∃ z, (execOp ρ o).run P w = .ok (.value z) w ∧ VR g z v := by
  generalize hxv : ρ x = xv at hx
  generalize hyv : ρ y = yv at hy
  have main : ∀ (a : Option Addr) (n c : Nat), ρ x = .slice a n c → ρ y = .slice none 0 0 → nilOp op a.isNone = some v → ∃ z, (execOp ρ o).run P w = .ok (.value z) w ∧ VR g z v := by
    intro a n c e1 e2 hv
    have e0 : (eqGuard op t x y (.slice a n c) (.slice none 0 0)).run P w = .ok () w := by
      unfold eqGuard
      cases op <;> rfl
    have key : ∀ z : Value, (binOp op t (.slice a n c) (.slice none 0 0)).run P w = .ok z w → (execOp ρ o).run P w = .ok (.value z) w := by
      intro z hz
      simp [execOp, ho, e1, e2, e0, hz]
    have hb := Lib.run_eql_slice_nil (P := P) w t e a n c 0 0 hu
    cases op <;> simp only [nilOp] at hv <;> cases hv
    · exact ⟨_, key _ hb, .bool _⟩
    · exact ⟨_, key _ (run_neq_of_eql (by simp) (.inl ⟨_, _, _, rfl⟩) hb), .bool _⟩
  unfold binDV at hp
  split at hp
  all_goals first | (exfalso; simp at *; done) | skip
  · cases hx; cases hy; exact main _ _ _ hxv hyv hp
  · cases hx; cases hy; exact main _ _ _ hxv hyv hp

end Go.Zd
namespace Go.Zd
variable {P : Program} {g : Gh} {tm : List (Nat × DV)} {w : World} {ρ : Operand → Value}

theorem toNatIdx_val [LowPred] {d : DV} {n : Nat} (h : toNatIdx d = some n) {x : Value} (hx : VR g x d) : ∃ k, x = .int k n := by
  obtain ⟨k, rfl⟩ := toNatIdx_some h
  exact ⟨k, vr_int hx⟩

theorem bound_run [LowPred] {x : Operand} {dx : DX} {n y : Nat} (hs : OpR g ρ tm) (hx : opd x = some dx) (h : toNatIdx (rdc tm dx) = some n) (hy : n ≤ y) (code : BoundsCode) (w : World) :
    (Instr.sliceBound (ρ x) y code).run P w = .ok n w := by
  obtain ⟨k, e⟩ := toNatIdx_val h (hs _ _ hx)
  rw [e]
  simp [Instr.sliceBound, asIntOf, hy]

theorem opdO_some {x : Option Operand} {d : Option DX} (h : opdO x = some d) : (x = none ∧ d = none) ∨ ∃ y dy, x = some y ∧ d = some dy ∧ opd y = some dy := by
  cases x with
  | none => cases h; exact .inl ⟨rfl, rfl⟩
  | some y =>
    cases hy : opd y with
    | none => simp [opdO, hy] at h
    | some dy => simp [opdO, hy] at h; exact .inr ⟨y, dy, rfl, h.symm, hy⟩

theorem bounds_run [LowPred] {isSlice : Bool} {len cap : Nat} {lo hi : Option Operand} {dlo dhi : Option DX} {l h : Nat} (hs : OpR g ρ tm)
    (hlo : opdO lo = some dlo) (hhi : opdO hi = some dhi) (el : bndV 0 (evO tm dlo) = some l) (eh : bndV len (evO tm dhi) = some h) (h1 : l ≤ h) (h2 : h ≤ cap) (w : World) :
    (Instr.sliceBounds isSlice len cap (lo.map ρ) (hi.map ρ) none).run P w = .ok (l, h, cap) w := by
  rcases opdO_some hhi with ⟨rfl, rfl⟩ | ⟨y, dy, rfl, rfl, hy⟩
  · simp [bndV, evO] at eh; subst eh
    rcases opdO_some hlo with ⟨rfl, rfl⟩ | ⟨z, dz, rfl, rfl, hz⟩
    · simp [bndV, evO] at el; subst el
      simp [Instr.sliceBounds]
    · simp [bndV, evO] at el
      simp [Instr.sliceBounds, bound_run (P := P) hs hz el h1]
  · simp [bndV, evO] at eh
    rcases opdO_some hlo with ⟨rfl, rfl⟩ | ⟨z, dz, rfl, rfl, hz⟩
    · simp [bndV, evO] at el; subst el
      simp [Instr.sliceBounds, bound_run (P := P) hs hy eh h2]
    · simp [bndV, evO] at el
      simp [Instr.sliceBounds, bound_run (P := P) hs hy eh h2, bound_run (P := P) hs hz el h1]

theorem bounds_run3 [LowPred] {isSlice : Bool} {len cap : Nat} {lo hi : Option Operand} {mx : Operand} {dlo dhi : Option DX} {dm : DX} {l h m : Nat} (hs : OpR g ρ tm)
    (hlo : opdO lo = some dlo) (hhi : opdO hi = some dhi) (hmx : opd mx = some dm) (el : bndV 0 (evO tm dlo) = some l) (eh : bndV len (evO tm dhi) = some h) (em : toNatIdx (rdc tm dm) = some m)
    (hh : dhi ≠ none) (h1 : l ≤ h) (h2 : h ≤ m) (h3 : m ≤ cap) (w : World) :
    (Instr.sliceBounds isSlice len cap (lo.map ρ) (hi.map ρ) (some (ρ mx))).run P w = .ok (l, h, m) w := by
  rcases opdO_some hhi with ⟨rfl, rfl⟩ | ⟨y, dy, rfl, rfl, hy⟩
  · exact absurd rfl hh
  · simp [bndV, evO] at eh
    rcases opdO_some hlo with ⟨rfl, rfl⟩ | ⟨z, dz, rfl, rfl, hz⟩
    · simp [bndV, evO] at el; subst el
      simp [Instr.sliceBounds, bound_run (P := P) hs hy eh h2, bound_run (P := P) hs hmx em h3]
    · simp [bndV, evO] at el
      simp [Instr.sliceBounds, bound_run (P := P) hs hy eh h2, bound_run (P := P) hs hz el h1, bound_run (P := P) hs hmx em h3]

theorem extract_toList (s : ByteArray) (l h : Nat) : (s.extract l h).data.toList = (s.data.toList.take h).drop l := by
  simp [ByteArray.data_extract, List.drop_take]

theorem sim_slc_str [LowPred] {o : Oper} {t : TypeId} {x : Operand} {lo hi : Option Operand} {dx : DX} {dlo dhi : Option DX} {v : DV} {n : Nat} (ho : o.op = .slice t x lo hi none) (hs : OpR g ρ tm)
    (hx : opd x = some dx) (hlo : opdO lo = some dlo) (hhi : opdO hi = some dhi) (hu : P.underlying t = some .string)
    (hp : pureOp tm (.slc true n dx dlo dhi none) = some v) : ∃ y, (execOp ρ o).run P w = .ok (.value y) w ∧ VR g y v := by
  have h := hs _ _ hx
  simp only [pureOp] at hp
  unfold slcDV at hp
  split at hp
  all_goals first | (exfalso; simp at *; done) | skip
  rename_i s _ hb
  rw [hb] at h
  obtain ⟨b, e, hl⟩ := vr_str h
  split at hp
  · rename_i l hh el eh _
    split at hp
    · rename_i hle
      cases hp
      have hsz : s.length = b.size := by rw [← hl]; simp
      rw [hsz] at eh
      have hr := bounds_run (P := P) (isSlice := false) (cap := b.size) hs hlo hhi el eh hle.1 (by omega) w
      refine ⟨.string (b.extract l hh), ?_, ?_⟩
      · simp [execOp, ho, Instr.sliceAt, run_underlying hu, Instr.slice, e, hr]
      · have := VR.str (g := g) (b.extract l hh)
        rw [extract_toList, hl] at this
        exact this
    · cases hp
  · cases hp

theorem sim_slc_slice [LowPred] {o : Oper} {t e : TypeId} {x : Operand} {lo hi mx : Option Operand} {dx : DX} {dlo dhi dmx : Option DX} {v : DV} {n : Nat} (ho : o.op = .slice t x lo hi mx) (hs : OpR g ρ tm)
    (hx : opd x = some dx) (hlo : opdO lo = some dlo) (hhi : opdO hi = some dhi) (hmx : opdO mx = some dmx) (hu : P.underlying t = some (.slice e)) (hn : szOf P e = some n) (hhm : dmx ≠ none → dhi ≠ none)
    (hp : pureOp tm (.slc false n dx dlo dhi dmx) = some v) : ∃ y, (execOp ρ o).run P w = .ok (.value y) w ∧ VR g y v := by
  have h := hs _ _ hx
  simp only [pureOp] at hp
  unfold slcDV at hp
  generalize hy : ρ x = y at h
  split at hp
  all_goals first | (exfalso; simp at *; done) | skip
  · -- nil
    rename_i hb
    rw [hb] at h
    cases h
    split at hp
    · rename_i el eh em
      cases hp
      refine ⟨.slice none 0 0, ?_, .nilslice⟩
      rcases opdO_some hmx with ⟨rfl, rfl⟩ | ⟨z, dz, rfl, rfl, hz⟩
      · have hr := bounds_run (P := P) (isSlice := true) (len := 0) (cap := 0) hs hlo hhi el eh (Nat.le_refl _) (Nat.le_refl _) w
        simp [execOp, ho, Instr.sliceAt, run_underlying hu, Instr.slice, hy, hr, run_sizeOf hn]
      · simp [bndV, evO] at em
        rcases opdO_some hhi with ⟨rfl, rfl⟩ | ⟨y2, dy2, rfl, rfl, hy2⟩
        · exact absurd rfl (hhm (by simp))
        · have hr := bounds_run3 (P := P) (isSlice := true) (len := 0) (cap := 0) hs hlo hhi hz el eh em (by simp) (Nat.le_refl _) (Nat.le_refl _) (Nat.le_refl _) w
          simp at hr
          simp [execOp, ho, Instr.sliceAt, run_underlying hu, Instr.slice, hy, hr, run_sizeOf hn]
    · cases hp
  · rename_i fl wd es hb
    split at hp
    · cases hp
    rename_i hwn
    simp at hwn
    subst hwn
    rw [hb] at h
    cases h
    rename_i c i len cap ga h1 h2 h3 h4 h5
    have hlen : ((ga.es.drop i).take len).length = len := by simp; omega
    have hel : ∀ l h, l ≤ h → h ≤ len → ((((ga.es.drop i).take len).take h).drop l) = (ga.es.drop (i + l)).take (h - l) := by
      intro l h a b
      rw [List.take_take, Nat.min_eq_left b, List.drop_take, List.drop_drop]
    have key : ∀ (l h m : Nat) (fl : Fl), l ≤ h → h ≤ len → h ≤ m → m ≤ cap → (fl = .ti → m = h) →
        (Instr.sliceBounds true len cap (lo.map ρ) (hi.map ρ) (mx.map ρ)).run P w = .ok (l, h, m) w →
        ∃ y, (execOp ρ o).run P w = .ok (.value y) w ∧ VR g y (.slice fl ga.wd ((((ga.es.drop i).take len).take h).drop l)) := by
      intro l h m fl a1 a2 a3 a4 a5 hr
      refine ⟨_, by simp [execOp, ho, Instr.sliceAt, run_underlying hu, Instr.slice, hy, hr, run_sizeOf hn]; rfl, ?_⟩
      rw [hel l h a1 a2]
      by_cases hm : m = l
      · subst hm
        have hh : h = m := by omega
        subst hh
        simp only [if_true, Nat.sub_self, List.take_zero]
        have := VR.slice (g := g) c i 0 0 ga fl h1 (by omega) (Nat.le_refl _) (by
          refine Nat.le_trans ?_ h4
          exact Nat.add_le_add_left (Nat.mul_le_mul_right _ (by omega)) _) (fun _ => rfl)
        simpa using this
      · simp only [hm, if_false, addr_add]
        have := VR.slice (g := g) c (i + l) (h - l) (m - l) ga fl h1 (by omega) (by omega) (by
          refine Nat.le_trans ?_ h4
          exact Nat.add_le_add_left (Nat.mul_le_mul_right _ (by omega)) _) (fun e => by rw [a5 e])
        rw [Nat.add_mul, ← Nat.add_assoc] at this
        exact this
    split at hp
    · rename_i l h el eh em
      split at hp
      · rename_i hle
        cases hp
        rw [hlen] at eh hle
        obtain ⟨rfl, _⟩ | ⟨_, _, _, rfl, _⟩ := opdO_some hmx
        · exact key l h cap .sh hle.1 hle.2 (by omega) (Nat.le_refl _) (by intro e; cases e) (bounds_run (P := P) hs hlo hhi el eh hle.1 (by omega) w)
        · simp [evO] at em
      · cases hp
    · rename_i l h m el eh em
      split at hp
      · rename_i hle
        cases hp
        rw [hlen] at eh hle
        obtain ⟨_, rfl⟩ | ⟨z, dz, rfl, rfl, hz⟩ := opdO_some hmx
        · simp [evO] at em
        · simp [evO] at em
          obtain ⟨a1, a2, rfl⟩ := hle
          exact key l m m .ti a1 a2 (Nat.le_refl _) (by omega) (fun _ => rfl) (bounds_run3 (P := P) hs hlo hhi hz el eh em (hhm (by simp)) a1 (Nat.le_refl _) (by omega) w)
      · cases hp
    · cases hp

end Go.Zd
namespace Go.Zd
variable {P : Program} {g : Gh} {tm : List (Nat × DV)} {w : World} {ρ : Operand → Value}

theorem run_isAgg {t : TypeId} {b : Bool} (h : aggO P t = some b) (w : World) : (isAgg t).run P w = .ok b w := by
  unfold aggO at h
  cases hu : P.underlying t with
  | none => rw [hu] at h; cases h
  | some u => rw [hu] at h; cases u <;> cases h <;> simp [isAgg, run_underlying hu]

theorem mkCells_VR {ag : Bool} {cs : List DV} {xs : List Value} {v : DV} (h : VRL g xs cs) (hm : mkCells ag cs = some v) :
    VR g (if ag then .agg xs.toArray else xs.headD undef) v := by
  unfold mkCells at hm
  split at hm
  · rename_i h1; cases hm; simp only [h1, if_true]; exact .agg _ _ (by simpa using h)
  · rename_i h1
    split at hm
    · cases hm
      simp only [h1]
      cases h with
      | cons h1 h2 => exact h1
    · cases hm

theorem sim_fld [LowPred] {o : Oper} {t : TypeId} {x : Operand} {dx : DX} {v : DV} {f : Nat} {fs : Array Field} {fd : Field} {n : Nat} {ag : Bool} (ho : o.op = .field t x f) (hs : OpR g ρ tm) (hx : opd x = some dx)
    (hu : P.underlying t = some (.struct fs)) (hf : fs[f]? = some fd) (hn : szOf P fd.type = some n) (ha : aggO P fd.type = some ag) (hag : (ag || n == 1) = true)
    (hp : pureOp tm (.fld ag n fd.offset dx) = some v) : ∃ y, (execOp ρ o).run P w = .ok (.value y) w ∧ VR g y v := by
  have h := hs _ _ hx
  simp only [pureOp] at hp
  split at hp
  · rename_i ds hb
    rw [hb] at h
    obtain ⟨cs, e, hl⟩ := vr_agg h
    split at hp
    · rename_i hle
      have hsz : cs.size = ds.length := by simpa using hl.length
      have hcs := mkCells_VR (((hl.drop fd.offset).take n).map_clean) hp
      refine ⟨_, ?_, hcs⟩
      cases ag with
      | true =>
        have : ((cs.toList.drop fd.offset).take n).toArray = cs.extract fd.offset (fd.offset + n) := by
          apply Array.ext'
          simp
        simp [execOp, ho, Instr.field, run_underlying hu, hf, e, asAgg, part, run_isAgg ha, run_sizeOf hn, this]
      | false =>
        have hn1 : n = 1 := by simpa using hag
        subst hn1
        have hlt : fd.offset < cs.size := by omega
        have : ((cs.toList.drop fd.offset).take 1).headD undef = cs[fd.offset] := by
          rw [List.drop_eq_getElem_cons (by simpa using hlt)]; simp
        simp [execOp, ho, Instr.field, run_underlying hu, hf, e, asAgg, part, run_isAgg ha, hlt]
        simpa using this.symm
    · cases hp
  · cases hp

theorem max_run [LowPred] : ∀ (xs : List Operand) (ds : List DX) (x : Value) (d v : DV), OpR g ρ tm → opdL xs = some ds → VR g x d → foldDV maxDV tm d ds = some v →
    ∃ y, ((xs.map ρ).foldlM Builtin.max2 x).run P w = .ok y w ∧ VR g y v := by
  intro xs
  induction xs with
  | nil => intro ds x d v hs h hx hf; cases h; cases hf; exact ⟨x, rfl, hx⟩
  | cons z zs ih =>
    intro ds x d v hs h hx hf
    unfold opdL at h
    split at h
    · cases h
      rename_i dz l h1 h2
      have hz := hs _ _ h1
      simp only [foldDV] at hf
      split at hf
      · rename_i u hu
        unfold maxDV at hu
        split at hu
        · rename_i k a k' b hb
          split at hu
          · rename_i hk
            subst hk
            cases hu
            rw [hb] at hz
            have e1 := vr_int hx
            have e2 := vr_int hz
            subst e1
            obtain ⟨y, hy, hv⟩ := ih l _ _ v hs h2 (VR.int (g := g) k (if b > a then b else a)) hf
            refine ⟨y, ?_, hv⟩
            simp only [List.map_cons, List.foldlM_cons, e2, Builtin.max2, Sem.run_bind, Sem.run_pure, Result.andThen_ok]
            exact hy
          · cases hu
        · cases hu
      · cases hf
    · cases h

theorem min_run [LowPred] : ∀ (xs : List Operand) (ds : List DX) (x : Value) (d v : DV), OpR g ρ tm → opdL xs = some ds → VR g x d → foldDV minDV tm d ds = some v →
    ∃ y, ((xs.map ρ).foldlM Builtin.min2 x).run P w = .ok y w ∧ VR g y v := by
  intro xs
  induction xs with
  | nil => intro ds x d v hs h hx hf; cases h; cases hf; exact ⟨x, rfl, hx⟩
  | cons z zs ih =>
    intro ds x d v hs h hx hf
    unfold opdL at h
    split at h
    · cases h
      rename_i dz l h1 h2
      have hz := hs _ _ h1
      simp only [foldDV] at hf
      split at hf
      · rename_i u hu
        unfold minDV at hu
        split at hu
        · rename_i k a k' b hb
          split at hu
          · rename_i hk
            subst hk
            cases hu
            rw [hb] at hz
            have e1 := vr_int hx
            have e2 := vr_int hz
            subst e1
            obtain ⟨y, hy, hv⟩ := ih l _ _ v hs h2 (VR.int (g := g) k (if b < a then b else a)) hf
            refine ⟨y, ?_, hv⟩
            simp only [List.map_cons, List.foldlM_cons, e2, Builtin.min2, Sem.run_bind, Sem.run_pure, Result.andThen_ok]
            exact hy
          · cases hu
        · cases hu
      · cases hf
    · cases h


theorem sim_max [LowPred] {o : Oper} {v : DV} {args : Array Operand} {tys : Array TypeId} {dx : DX} {r : List DX} (ho : o.op = .call { callee := .builtin .max, args, argTypes := tys }) (hs : OpR g ρ tm)
    (ha : opdL args.toList = some (dx :: r)) (hp : pureOp tm (.maxN dx r) = some v) : ∃ y, (execOp ρ o).run P w = .ok (.value y) w ∧ VR g y v := by
  simp only [pureOp] at hp
  cases hl : args.toList with
  | nil => rw [hl] at ha; cases ha
  | cons x xs =>
    rw [hl] at ha
    unfold opdL at ha
    split at ha
    · cases ha
      rename_i h1 h2
      obtain ⟨y, hy, hv⟩ := max_run (P := P) (w := w) xs r (ρ x) _ v hs h2 (hs _ _ h1) hp
      refine ⟨y, ?_, hv⟩
      have : (args.map ρ).toList = ρ x :: xs.map ρ := by simp [hl]
      simp [execOp, ho, resolve, invoke, builtin, Builtin.max_, hl, hy]
    · cases ha

theorem sim_min [LowPred] {o : Oper} {v : DV} {args : Array Operand} {tys : Array TypeId} {dx : DX} {r : List DX} (ho : o.op = .call { callee := .builtin .min, args, argTypes := tys }) (hs : OpR g ρ tm)
    (ha : opdL args.toList = some (dx :: r)) (hp : pureOp tm (.minN dx r) = some v) : ∃ y, (execOp ρ o).run P w = .ok (.value y) w ∧ VR g y v := by
  simp only [pureOp] at hp
  cases hl : args.toList with
  | nil => rw [hl] at ha; cases ha
  | cons x xs =>
    rw [hl] at ha
    unfold opdL at ha
    split at ha
    · cases ha
      rename_i h1 h2
      obtain ⟨y, hy, hv⟩ := min_run (P := P) (w := w) xs r (ρ x) _ v hs h2 (hs _ _ h1) hp
      refine ⟨y, ?_, hv⟩
      simp [execOp, ho, resolve, invoke, builtin, Builtin.min_, hl, hy]
    · cases ha

/-! ## what is built out of parts -/

theorem foldl_put (vs : List Value) : ∀ (k off : Nat) (cs : Array Value), off + k + vs.length ≤ cs.size →
    ((vs.zipIdx k).foldl (fun cs (p : Value × Nat) => cs.setIfInBounds (off + p.2) p.1) cs).toList = cs.toList.take (off + k) ++ vs ++ cs.toList.drop (off + k + vs.length) := by
  induction vs with
  | nil => intro k off cs _; simp
  | cons v vs ih =>
    intro k off cs h
    simp only [List.zipIdx_cons, List.foldl_cons, List.length_cons] at *
    have hsz : off + (k + 1) + vs.length ≤ (cs.setIfInBounds (off + k) v).size := by simp; omega
    rw [ih (k + 1) off _ hsz]
    have hlt : off + k < cs.toList.length := by simp; omega
    have h1 : ((cs.setIfInBounds (off + k) v).toList).take (off + (k + 1)) = cs.toList.take (off + k) ++ [v] := by
      rw [Array.toList_setIfInBounds, List.take_set, ← Nat.add_assoc, List.take_succ_eq_append_getElem hlt, List.set_append_right _ _ (by simp; omega)]
      congr 1
      have : off + k - (cs.toList.take (off + k)).length = 0 := by simp; omega
      rw [this]; rfl
    have h2 : ((cs.setIfInBounds (off + k) v).toList).drop (off + (k + 1) + vs.length) = cs.toList.drop (off + k + (vs.length + 1)) := by
      rw [Array.toList_setIfInBounds, List.drop_set, if_pos (by omega)]
      congr 1; omega
    rw [h1, h2]
    simp

theorem foldl_put_arr [LowPred] (vs : Array Value) (off : Nat) (cs : Array Value) (h : off + vs.size ≤ cs.size) :
    (vs.zipIdx.foldl (fun cs (p : Value × Nat) => cs.setIfInBounds (off + p.2) p.1) cs).toList = cs.toList.take off ++ vs.toList ++ cs.toList.drop (off + vs.size) := by
  have := foldl_put vs.toList 0 off cs (by simpa using h)
  rw [← Array.foldl_toList]
  simpa using this

theorem putAt_VRL {zs : List Value} {zd : List DV} {vs : List Value} {vd : List DV} (h : VRL g zs zd) (hv : VRL g vs vd) (off : Nat) :
    VRL g (zs.take off ++ vs ++ zs.drop (off + vs.length)) (putAt zd off vd) := by
  unfold putAt
  rw [hv.length]
  exact ((h.take off).append hv).append (h.drop _)

/-- the parts of a literal, and ours -/
inductive PartsR (place : Nat → Option (Nat × Nat)) : List (Nat × Operand) → List (Nat × Nat × DX) → Prop
  | nil : PartsR place [] []
  | cons {i : Nat} {x : Operand} {off n : Nat} {dx : DX} {ps : List (Nat × Operand)} {ds : List (Nat × Nat × DX)} (h1 : place i = some (off, n)) (h2 : opd x = some dx) (h : PartsR place ps ds) :
      PartsR place ((i, x) :: ps) ((off, n, dx) :: ds)

theorem isU_ne {d : DV} (h : d.isU = false) : d ≠ .undef := by intro e; subst e; cases h

/-- the model's filling of places, and ours -/
theorem fill_sim [LowPred] {place : Nat → Option (Nat × Nat)} (hs : OpR g ρ tm) {parts : List (Nat × Operand)} {ds : List (Nat × Nat × DX)} (hp : PartsR place parts ds) :
    ∀ {z : Array Value} {zd cs : List DV}, VRL g z.toList zd → buildDV tm zd ds = some cs →
    ∃ cells, Instr.fill place z (parts.map fun p => (p.1, ρ p.2)) = some cells ∧ VRL g cells.toList cs := by
  induction hp with
  | nil => intro z zd cs hz hb; cases hb; exact ⟨z, rfl, hz⟩
  | cons h1 h2 h ih =>
    rename_i i x off n dx ps ds
    intro z zd cs hz hb
    simp only [buildDV] at hb
    split at hb
    · rename_i hc
      have hx := (hs _ _ h2).cells (isU_ne hc.2.2)
      have hl := hx.length
      have hzl := hz.length
      have e1 : (ρ x).cells.size = n := by rw [← hc.1, ← hl]; simp
      have hnot : ¬ ((decide ((ρ x).cells.size ≠ n) || decide (off + (ρ x).cells.size > z.size)) = true) := by
        simp [e1]; simp at hzl; omega
      simp only [List.map_cons, Instr.fill, h1]
      rw [if_neg hnot]
      refine ih ?_ hb
      have hp := foldl_put_arr (ρ x).cells off z (by simp at hzl; omega)
      have hv := putAt_VRL hz hx off
      have e2 : (ρ x).cells.toList.length = (ρ x).cells.size := by simp
      rw [e2] at hv
      rw [← hp] at hv
      exact hv
    · cases hb

theorem fieldParts_R {fs : Array Field} : ∀ {ps : List (Nat × Operand)} {ds : List (Nat × Nat × DX)}, fieldParts P fs ps = some ds →
    PartsR (fun i => (fs[i]?).bind fun f => (szOf P f.type).map fun n => (f.offset, n)) ps ds
  | [], ds, h => by cases h; exact .nil
  | (i, x) :: r, ds, h => by
    unfold fieldParts at h
    split at h
    · rename_i f l hf hr
      split at h
      · rename_i n d hn hd
        cases h
        exact .cons (by simp [hf, hn]) hd (fieldParts_R hr)
      · cases h
    · cases h

theorem PartsR.mono {p p' : Nat → Option (Nat × Nat)} (hp : ∀ i v, p i = some v → p' i = some v) {ps : List (Nat × Operand)} {ds : List (Nat × Nat × DX)} (h : PartsR p ps ds) : PartsR p' ps ds := by
  induction h with
  | nil => exact .nil
  | cons h1 h2 _ ih => exact .cons (hp _ _ h1) h2 ih

theorem places_mapM (fs : List Field) (h : fs.all (fun f => (P.info? f.type).isSome) = true) :
    fs.mapM (fun f => (P.info? f.type).map fun i => (f.offset, i.size)) = some (fs.map fun f => (f.offset, ((P.info? f.type).map (·.size)).getD 0)) := by
  induction fs with
  | nil => rfl
  | cons f fs ih =>
    simp at h
    have h2 := ih (by simpa using h.2)
    obtain ⟨i, hi⟩ := Option.isSome_iff_exists.1 h.1
    rw [List.mapM_cons, h2, hi]
    simp [hi]

theorem sim_build [LowPred] {o : Oper} {t : TypeId} {parts : Array (Nat × Operand)} {ps : List (Nat × Nat × DX)} {fs : Array Field} {it : TypeInfo} {zv : Value} {z : List DV} {v : DV}
    (ho : o.op = .build t parts) (hs : OpR g ρ tm) (hu : P.underlying t = some (.struct fs)) (hi : P.info? t = some it) (hz : it.zero = some zv) (hc : constL zv.cells.toList = some z)
    (hf : fieldParts P fs parts.toList = some ps) (hall : fs.toList.all (fun f => (P.info? f.type).isSome) = true)
    (hp : pureOp tm (.build z ps) = some v) : ∃ y, (execOp ρ o).run P w = .ok (.value y) w ∧ VR g y v := by
  simp only [pureOp] at hp
  split at hp
  · rename_i cs hb
    cases hp
    have hR : PartsR (fun i => ((fs.toList.map fun f => (f.offset, ((P.info? f.type).map (·.size)).getD 0)).toArray)[i]?) parts.toList ps := by
      refine (fieldParts_R hf).mono ?_
      intro i v hv
      cases hfi : fs[i]? with
      | none => simp [hfi] at hv
      | some f =>
        simp [hfi] at hv
        obtain ⟨n, hn, rfl⟩ := hv
        unfold szOf at hn
        simp [hfi, hn]
    obtain ⟨cells, h1, h2⟩ := fill_sim (z := zv.cells) hs hR (constL_VR hc) hb
    refine ⟨.agg cells, ?_, .agg _ _ h2⟩
    have hbuilt : P.built t (parts.map fun (i, x) => (i, ρ x)).toList = some cells := by
      unfold Program.built
      simp only [hi, hu, hz, places_mapM _ hall]
      simpa using h1
    simp only [execOp, ho, Sem.run_bind, run_build w t _ cells hbuilt, Result.andThen_ok]
    rfl
  · cases hp

end Go.Zd
