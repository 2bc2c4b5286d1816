/- Layers of specs, functions of the library, the table, the start. -/
import Derived.Test.YthcoldfgpigdhaaGreatDoorZI
import Derived.Test.YthcoldfgpigdhaaGreatDoorZA
import Derived.Shelf.Strings.Prefix
import Derived.Shelf.Strings.Search3
import Derived.Shelf.Small.Strs
import Derived.Shelf.Pu.ParseUintPublic10
import Derived.Shelf.Strings.OnBuilder
import Derived.Shelf.Strconv.Itoa4
import Derived.Shelf.Strings.Cut
import Derived.Below
namespace Go.Zd

variable {P : Program} {F : Nat → Option DFn} {base : Nat}

theorem Tab.enters [LowPred] (tab : Tab P F base) {f : Nat} {d : DFn} (h : F f = some d) : Enters P f := by
  cases d with
  | spec s => exact (tab.spec f s h).1
  | code body res keep =>
    obtain ⟨fn, ann, hf, hcf, hname⟩ := tab.code f body res keep h
    obtain ⟨c, hbody, _⟩ := compFn_spec hcf
    exact ⟨fn, hf, by rw [hbody]; rfl, hname⟩
  | prim p => exact (tab.prim f p h).1
  | runp pre post hnd res c0 c1 c2 c3 failTy => exact (tab.run f pre post hnd res c0 c1 c2 c3 failTy h).1

theorem Tab.layer [LowPred] (tab : Tab P F base) (sp : Nat → Option Spec)
    (hin : ∀ f s, sp f = some s → (F f).isSome = true)
    (href : ∀ f s, sp f = some s → ∀ PR args H r, s.run PR args H = some r → ∃ k, callD F k PR f args H = some r) : Tab P (layer sp F) base := by
  refine ⟨tab.mixed, ?_, ?_, ?_, ?_⟩
  · intro f body res keep h
    unfold Zd.layer at h
    split at h
    · cases h
    · exact tab.code f body res keep h
  · intro f p h
    unfold Zd.layer at h
    split at h
    · cases h
    · exact tab.prim f p h
  · intro f s h
    unfold Zd.layer at h
    split at h
    · rename_i s' hs
      cases h
      obtain ⟨d, hd⟩ := Option.isSome_iff_exists.1 (hin f s hs)
      refine ⟨tab.enters hd, ?_⟩
      intro PR args H out H' hr
      obtain ⟨k, hk⟩ := href f s hs PR args H _ hr
      exact call_sound tab hk
    · exact tab.spec f s h
  · intro f pre post hnd res c0 c1 c2 c3 failTy h
    unfold Zd.layer at h
    split at h
    · cases h
    · exact tab.run f pre post hnd res c0 c1 c2 c3 failTy h

theorem Inv.grow [LowPred] {w w' : World} {g : Gh} {O : Nat → Loc} {H : List (List DV)} (hI : Inv w g O H base) (h1 : ∀ i, i < w.heap.size → w'.heap[i]? = w.heap[i]?) (h2 : w.heap.size ≤ w'.heap.size) : Inv w' g O H base := by
  have hs : ∀ i o, w.heap[i]? = some o → w'.heap[i]? = some o := fun i o h => by
    rw [h1 i (Array.getElem?_eq_some_iff.1 h).1]; exact h
  refine ⟨hI.num, Nat.le_trans hI.le h2, fun c hc => hI.dom c (Nat.le_trans h2 hc), ?_, ?_, hI.inj, fun i hi => ?_, hI.lowOk⟩
  · intro c ga h
    obtain ⟨cs, E, fr, k1, k2⟩ := hI.arr c ga h
    exact ⟨cs, E, fr, hs c _ k1, k2⟩
  · intro b ds h
    obtain ⟨k1, k2, k3, cs, E, k4, k5⟩ := hI.var b ds h
    exact ⟨k1, k2, k3, cs, E, hs _ _ k4, k5⟩
  · rw [h1 i (Nat.lt_of_lt_of_le hi hI.le)]; exact hI.low i hi

theorem Hist.grow [LowPred] {w w' : World} {g : Gh} {O : Nat → Loc} {H : List (List DV)} {PR : List Nat} (hI : Inv w g O H base) (h1 : ∀ i, i < w.heap.size → w'.heap[i]? = w.heap[i]?) (h2 : w.heap.size ≤ w'.heap.size) (ho : w'.os = w.os) (hu : w'.output = w.output) (ht : w'.tape = w.tape) : Hist w g O base PR w' g O := by
  refine ⟨.refl g, fun _ h => ⟨h, rfl⟩, fun b _ hn => ?_, fun i hi => h1 i (Nat.lt_of_lt_of_le hi hI.le), h2, ho, hu, ht, fun i hi cs E fr h => ⟨cs, by rw [h1 i hi]; exact h, rfl⟩⟩
  have hl : b < H.length := hI.num ▸ hn
  obtain ⟨_, _, _, cs, E, k4, _⟩ := hI.var b H[b] (List.getElem?_eq_getElem hl)
  exact h1 _ (Array.getElem?_eq_some_iff.1 k4).1

/-- a function of the library does what the abstract one does -/
def PrimSim [LowPred] (P : Program) (base f : Nat) (p : Prim) : Prop :=
  Enters P f ∧ ∀ args v, primDV p args = some v → ∀ PR w g O H vals, Inv w g O H base → VRL g vals args → Calls P f vals.toArray w (RetR base PR w g O (.ret v) H)

theorem retR_same [LowPred] {w : World} {g : Gh} {O : Nat → Loc} {H : List (List DV)} {PR : List Nat} {x : Value} {v : DV} {w' : World} (hI : Inv w g O H base) (hw : w' = w) (hv : VR g x v) (ho : isOwn v = false) : RetR base PR w g O (.ret v) H (.returned x) w' := by
  subst hw
  exact ⟨g, O, hI, .refl _ _ _ _ _, x, rfl, hv, fun h => by rw [ho] at h; cases h⟩

theorem retR_grow [LowPred] {w : World} {g : Gh} {O : Nat → Loc} {H : List (List DV)} {PR : List Nat} {x : Value} {v : DV} {w' : World} (hI : Inv w g O H base)
    (h1 : ∀ i, i < w.heap.size → w'.heap[i]? = w.heap[i]?) (h2 : w.heap.size ≤ w'.heap.size) (h3 : w'.os = w.os) (h4 : w'.output = w.output) (h5 : w'.tape = w.tape) (hv : VR g x v) (ho : isOwn v = false) : RetR base PR w g O (.ret v) H (.returned x) w' :=
  ⟨g, O, hI.grow h1 h2, .grow hI h1 h2 h3 h4 h5, x, rfl, hv, fun h => by rw [ho] at h; cases h⟩

end Go.Zd
namespace Go.Zd
open Go.Proofs Go.Shelf Go.RowKit
variable {P : Program} {base : Nat}

theorem vrl1 {g : Gh} {vals : List Value} {s : List UInt8} {r : List DV} (h : VRL g vals (.str s :: r)) : ∃ b xs, vals = .string b :: xs ∧ b.data.toList = s ∧ VRL g xs r := by
  cases h with
  | cons h hs => cases h with
    | str b => exact ⟨b, _, rfl, rfl, hs⟩

theorem vrli {g : Gh} {vals : List Value} {k : IntKind} {n : Int} {r : List DV} (h : VRL g vals (.int k n :: r)) : ∃ xs, vals = .int k n :: xs ∧ VRL g xs r := by
  cases h with
  | cons h hs => cases h with
    | int k n => exact ⟨_, rfl, hs⟩

theorem vrl0 {g : Gh} {vals : List Value} (h : VRL g vals []) : vals = [] := by cases h; rfl

theorem prim_hasPrefix [LowPred] {ρ : Ren} (L : Lays.n99 P ρ) : PrimSim P base (ρ.f 99) .hasPrefix := by
  refine ⟨⟨_, L.f99, by kernel_rfl, by kernel_rfl⟩, ?_⟩
  intro args v h PR w g O H vals hI hv
  unfold primDV at h
  split at h <;> try (cases h; done)
  · rename_i e; cases e
  · cases h
    obtain ⟨s, xs, rfl, rfl, hv1⟩ := vrl1 hv
    obtain ⟨p, ys, rfl, rfl, hv2⟩ := vrl1 hv1
    obtain rfl := vrl0 hv2
    refine (Any.strings_HasPrefix L s p w).mono ?_
    rintro e w' ⟨rfl, hw⟩
    exact retR_same hI hw (.bool _) rfl
  all_goals (rename_i e; cases e)

theorem idxByte_ge (c : Int) : ∀ (l : List UInt8) (i : Int), 0 ≤ i → -1 ≤ idxByte c l i
  | [], i, h => by simp [idxByte]
  | b :: r, i, h => by
    unfold idxByte
    split
    · omega
    · exact idxByte_ge c r (i + 1) (by omega)

theorem idxByte_eq (c : Int) (h0 : 0 ≤ c) (h1 : c < 256) : ∀ (l : List UInt8) (i : Int), 0 ≤ i → idxByte c l i = if Lib.indexByte l c.toNat.toUInt8 = -1 then -1 else i + Lib.indexByte l c.toNat.toUInt8
  | [], i, h => by simp [idxByte, Lib.indexByte]
  | b :: r, i, h => by
    have ih := idxByte_eq c h0 h1 r (i + 1) (by omega)
    have hge := Lib.indexByte_ge r c.toNat.toUInt8
    have hbc : (b == c.toNat.toUInt8) = decide ((b.toNat : Int) = c) := by
      rw [Bool.eq_iff_iff]
      simp only [beq_iff_eq, decide_eq_true_eq]
      constructor
      · rintro rfl
        have : c.toNat < 256 := by omega
        simp [Nat.toUInt8, UInt8.toNat_ofNat', Nat.mod_eq_of_lt this]
        omega
      · rintro rfl
        simp
    unfold idxByte Lib.indexByte
    rw [hbc]
    by_cases hb : (b.toNat : Int) = c
    · simp [hb]
    · simp only [hb, if_false, decide_false, Bool.false_eq_true, ih, beq_iff_eq]
      split
      · simp
      · rw [if_neg (by omega)]; omega

theorem prim_indexByte [LowPred] {ρ : Ren} (L : Lays.n137 P ρ) : PrimSim P base (ρ.f 137) .indexByte := by
  refine ⟨⟨_, L.f137, by kernel_rfl, by kernel_rfl⟩, ?_⟩
  intro args v h PR w g O H vals hI hv
  unfold primDV at h
  split at h <;> try (cases h; done)
  · rename_i s c _
    split at h
    · rename_i hc
      cases h
      obtain ⟨s, xs, rfl, rfl, hv1⟩ := vrl1 hv
      obtain ⟨ys, rfl, hv2⟩ := vrli hv1
      obtain rfl := vrl0 hv2
      refine (Any.strings_IndexByte L s c w).mono ?_
      rintro e w' ⟨rfl, hw⟩
      refine retR_same hI hw ?_ rfl
      rw [idxByte_eq c hc.1 hc.2 _ 0 (by omega)]
      split
      · rename_i h; rw [h]; exact .int _ _
      · rw [Int.zero_add]; exact .int _ _
    · cases h
  all_goals (rename_i e; cases e)

theorem containsL_eq (p : List UInt8) : ∀ s : List UInt8, containsL p s = Lib.contains s p
  | [] => by
    unfold containsL Lib.contains Lib.index
    cases p <;> simp
  | b :: r => by
    have ih := containsL_eq p r
    have hge := Lib.index_ge r p
    unfold containsL
    rw [ih]
    unfold Lib.contains
    rw [show Lib.index (b :: r) p = if p.isPrefixOf (b :: r) then 0 else if Lib.index r p == -1 then -1 else Lib.index r p + 1 from rfl]
    cases hp : p.isPrefixOf (b :: r)
    · simp only [Bool.false_or, Bool.false_eq_true, if_false, beq_iff_eq]
      split
      · rename_i h; rw [h]
      · congr 1
        apply propext
        omega
    · simp

theorem low_cell [LowPred] {w : World} {g : Gh} {O : Nat → Loc} {H : List (List DV)} (hI : Inv w g O H base) {i : Nat} (hi : i < base) {cs : Array Value} {E : TypeId} {fr : Nat × Nat} {v : Value} (h : g.L i = some (.cells cs E fr)) (hv : cs[0]? = some v) : w.cell? ⟨i, 0, none⟩ = some v := by
  have := hI.low i hi
  rw [h] at this
  simp [World.cell?, this, hv]

theorem prim_contains [LowPred] {ρ : Ren} (L : Lays.n144 P ρ) (hlow : ∀ w g O H, Inv w g O H base → ∃ m, w.cell? ⟨ρ.g 1, 0, none⟩ = some (.int .i64 m)) : PrimSim P base (ρ.f 144) .contains := by
  refine ⟨⟨_, L.f144, by kernel_rfl, by kernel_rfl⟩, ?_⟩
  intro args v h PR w g O H vals hI hv
  unfold primDV at h
  split at h <;> try (cases h; done)
  · rename_i e; cases e
  · rename_i e; cases e
  · split at h
    · rename_i hc
      cases h
      obtain ⟨s, xs, rfl, rfl, hv1⟩ := vrl1 hv
      obtain ⟨p, ys, rfl, rfl, hv2⟩ := vrl1 hv1
      obtain rfl := vrl0 hv2
      obtain ⟨m, hm⟩ := hlow w g O H hI
      refine (Any.strings_Contains L s p m w (by rw [Lib.size_eq]; exact hc) hm).mono ?_
      rintro e w' ⟨rfl, hw⟩
      refine retR_same hI hw ?_ rfl
      rw [containsL_eq]
      exact .bool _
    · cases h
  all_goals (rename_i e; cases e)

theorem decimal_eq : ∀ (l : List UInt8) (acc n : Nat), decimal l acc = some n → Lib.parseUintM (2 ^ 64 - 1) acc l = .ok n
  | [], acc, n, h => by simp only [decimal, Option.some.injEq] at h; subst h; rfl
  | c :: r, acc, n, h => by
    unfold decimal at h
    split at h
    · rename_i hc
      unfold Lib.parseUintM
      rw [if_pos ⟨hc.1, hc.2.1⟩, if_neg (by omega), if_neg (by omega)]
      exact decimal_eq r _ n h
    · cases h

theorem prim_parseUint [LowPred] {ρ : Ren} (L : LaysPu.n14 P ρ) : PrimSim P base (ρ.f 14) .parseUint := by
  refine ⟨⟨_, L.f14, by kernel_rfl, by kernel_rfl⟩, ?_⟩
  intro args v h PR w g O H vals hI hv
  unfold primDV at h
  split at h <;> try (cases h; done)
  · rename_i e; cases e
  · rename_i e; cases e
  · rename_i e; cases e
  · split at h
    · rename_i hc
      split at h
      · rename_i n hn
        split at h
        · cases h
        · rename_i he
          cases h
          obtain ⟨s, xs, rfl, rfl, hv1⟩ := vrl1 hv
          obtain ⟨ys, rfl, hv2⟩ := vrli hv1
          obtain ⟨zs, rfl, hv3⟩ := vrli hv2
          obtain rfl := vrl0 hv3
          refine (Any.strconv_ParseUint_10_at64_ok L s (by rw [Lib.size_eq]; exact hc) n ?_ w).mono ?_
          · unfold Lib.parseUintB
            rw [if_neg (by simpa using he)]
            exact decimal_eq _ _ _ hn
          · rintro e w' ⟨rfl, hw⟩
            have hv : VR g (.tuple #[.int .u64 n, .nilIface]) (.tuple [.int .u64 n, .niliface]) := .tuple _ _ (.cons (.int _ _) (.cons .niliface .nil))
            rcases hw with hw | hw
            · exact retR_same hI hw hv rfl
            · subst hw
              exact retR_grow hI (fun i hi => Lib.bytesWorld_at_old w _ s i hi) (by rw [Lib.bytesWorld_size]; omega) (by simp [Lib.bytesWorld, World.freeze, World.alloc, World.drew, -World.alloc_eq, -World.drew_eq]) (by simp [Lib.bytesWorld, World.freeze, World.alloc, World.drew, -World.alloc_eq, -World.drew_eq]) (by simp [Lib.bytesWorld, World.freeze, World.alloc, World.drew, -World.alloc_eq, -World.drew_eq]) hv rfl
      · cases h
    · cases h
  all_goals (rename_i e; cases e)

theorem prim_formatInt [LowPred] {ρ : Ren} (L : Lays.n173 P ρ) : PrimSim P base (ρ.f 173) .formatInt := by
  refine ⟨⟨_, L.f173, by kernel_rfl, by kernel_rfl⟩, ?_⟩
  intro args v h PR w g O H vals hI hv
  replace h : formatDV args = some v := h
  unfold formatDV at h
  split at h
  · rename_i n
    split at h
    · rename_i hc
      cases h
      obtain ⟨ys, rfl, hv1⟩ := vrli hv
      obtain ⟨zs, rfl, hv2⟩ := vrli hv1
      obtain rfl := vrl0 hv2
      obtain ⟨m, rfl⟩ : ∃ m : Nat, n = m := ⟨n.toNat, by omega⟩
      refine (Any.strconv_FormatInt_10_small L m (by omega) w).mono ?_
      rintro e w' ⟨rfl, hw⟩
      refine retR_same hI hw ?_ rfl
      rw [Lib.decDigits, dif_pos (by omega)]
      exact .str _
    · cases h
  · cases h

theorem slice_one [LowPred] {w : World} {g : Gh} {O : Nat → Loc} {H : List (List DV)} (hI : Inv w g O H base) {x : Value} {fl : Fl} {wd : Nat} {s : List UInt8} (h : VR g x (.slice fl wd [.str s])) :
    ∃ c o cap b, x = .slice (some ⟨c, o, none⟩) 1 cap ∧ b.data.toList = s ∧ w.cell? ⟨c, o, none⟩ = some (.string b) := by
  generalize hd : DV.slice fl wd [.str s] = d at h
  cases h with
  | slice c i len cap ga fl h hi hc hz hf =>
    simp only [DV.slice.injEq] at hd
    obtain ⟨_, rfl, hes⟩ := hd
    have hlen : len = 1 := by
      have := congrArg List.length hes
      simp at this; omega
    subst hlen
    have hei : ga.es[i]? = some (.str s) := by
      have := congrArg (·[0]?) hes
      simp at this
      exact this.symm
    have hm := (hI.arr c ga h)
    obtain ⟨cs, E, fr, a1, a2, a3, a4, a5, a6, _⟩ := hm
    have hlen : ∀ v ∈ ga.es, v.cells.length = ga.wd := fun v hv => elemOk_len (a5 v hv)
    have hwd : 1 = ga.wd := hlen _ (List.mem_of_getElem? hei)
    have hi1 : i < ga.es.length := (List.getElem?_eq_some_iff.1 hei).1
    have hcell : VRL g ((cs.toList.drop (ga.st + i * ga.wd)).take ga.wd) (DV.str s).cells := by
      have hmul : (i + 1) * ga.wd ≤ ga.es.length * ga.wd := Nat.mul_le_mul_right _ hi1
      rw [Nat.add_mul, Nat.one_mul] at hmul
      have := (a6.drop (i * ga.wd)).take ga.wd
      rw [flat_get hlen hei] at this
      have e : ((List.drop (i * ga.wd) (List.take (ga.es.length * ga.wd) (List.drop ga.st cs.toList)))).take ga.wd = (cs.toList.drop (ga.st + i * ga.wd)).take ga.wd := by
        rw [List.drop_take, List.drop_drop, List.take_take, Nat.min_eq_left (by omega)]
      rw [e] at this
      exact this
    rw [← hwd, Nat.mul_one] at hcell
    obtain ⟨y, hy, hv⟩ := hcell.get (i := 0) (d := .str s) rfl
    cases hv with
    | str b =>
      refine ⟨c, _, cap, b, rfl, rfl, ?_⟩
      rw [cell_at a1, ← hwd, Nat.mul_one]
      simpa using hy
  | _ => cases hd

theorem prim_join [LowPred] {ρ : Ren} (L : Lays.n156 P ρ) (X : Builder.Extra P ρ) : PrimSim P base (ρ.f 156) .join := by
  refine ⟨⟨_, L.f156, by kernel_rfl, by kernel_rfl⟩, ?_⟩
  intro args v h PR w g O H vals hI hv
  have hs : ∀ {xs : List Value} {sep : List UInt8}, VRL g xs [.str sep] → ∃ b, xs = [.string b] := by
    intro xs sep h
    obtain ⟨b, ys, rfl, _, h1⟩ := vrl1 h
    obtain rfl := vrl0 h1
    exact ⟨b, rfl⟩
  have hnone : ∀ {a : Option Addr} {c : Nat} {sep : ByteArray}, Calls P (ρ.f 156) #[.slice a 0 c, .string sep] w (RetR base PR w g O (.ret (.str [])) H) := by
    intro a c sep
    refine (Any.strings_Join_none L X a c sep w).mono ?_
    rintro e w' ⟨rfl, hw⟩
    exact retR_same hI hw (.str _) rfl
  replace h : joinDV args = some v := h
  unfold joinDV at h
  split at h
  · cases h
    cases hv with
    | cons h1 h2 =>
      obtain ⟨b, rfl⟩ := hs h2
      cases h1
      exact hnone
  · rename_i fl wd sep
    cases h
    cases hv with
    | cons h1 h2 =>
      obtain ⟨b, rfl⟩ := hs h2
      generalize hd : DV.slice fl wd [] = d at h1
      cases h1 with
      | slice c i len cap ga fl h hi hc hz hf =>
        simp only [DV.slice.injEq] at hd
        have hlen : len = 0 := by
          have := congrArg List.length hd.2.2
          simp at this; omega
        subst hlen
        exact hnone
      | _ => cases hd
  · cases h
    cases hv with
    | cons h1 h2 =>
      obtain ⟨b, rfl⟩ := hs h2
      obtain ⟨c, o, cap, s, rfl, rfl, hc⟩ := slice_one hI h1
      refine (Any.strings_Join_one L X c o cap s b w hc).mono ?_
      rintro e w' ⟨rfl, hw⟩
      exact retR_same hI hw (.str _) rfl
  · cases h

theorem idxL_eq (p : List UInt8) : ∀ s : List UInt8, Lib.index s p = match idxL p s with | some i => (i : Int) | none => -1
  | [] => by
    unfold idxL Lib.index
    cases p <;> simp
  | b :: r => by
    have ih := idxL_eq p r
    rw [show Lib.index (b :: r) p = if p.isPrefixOf (b :: r) then 0 else if Lib.index r p == -1 then -1 else Lib.index r p + 1 from rfl]
    unfold idxL
    split
    · rfl
    · rw [ih]
      cases idxL p r with
      | none => rfl
      | some i =>
        simp only [beq_iff_eq]
        rw [if_neg (by omega)]
        omega

theorem prim_cut [LowPred] {ρ : Ren} (L : Lays.n145 P ρ) (hlow : ∀ w g O H, Inv w g O H base → ∃ m, w.cell? ⟨ρ.g 1, 0, none⟩ = some (.int .i64 m)) : PrimSim P base (ρ.f 145) .cut := by
  refine ⟨⟨_, L.f145, by kernel_rfl, by kernel_rfl⟩, ?_⟩
  intro args v h PR w g O H vals hI hv
  replace h : cutDV args = some v := h
  unfold cutDV at h
  split at h
  · rename_i s0 p0
    split at h
    · rename_i hc
      obtain ⟨s, xs, rfl, rfl, hv1⟩ := vrl1 hv
      obtain ⟨p, ys, rfl, rfl, hv2⟩ := vrl1 hv1
      obtain rfl := vrl0 hv2
      obtain ⟨m, hm⟩ := hlow w g O H hI
      refine (Any.strings_Cut L s p m w (by rw [Lib.size_eq]; exact hc) hm).mono ?_
      rintro e w' ⟨rfl, n, rfl⟩
      have hi := idxL_eq p.data.toList s.data.toList
      have hstr : ∀ l : List UInt8, VR g (.string ⟨l.toArray⟩) (.str l) := fun l => VR.str ⟨l.toArray⟩
      cases hx : idxL p.data.toList s.data.toList with
      | none =>
        rw [hx] at h hi
        simp only [] at hi
        cases h
        refine retR_grow hI (fun _ _ => rfl) (Nat.le_refl _) rfl rfl rfl ?_ rfl
        have hcut : Lib.cut s.data.toList p.data.toList = (s.data.toList, [], false) := by
          unfold Lib.cut
          rw [hi, if_neg (by omega)]
        rw [hcut]
        exact .tuple _ _ (.cons (hstr _) (.cons (hstr _) (.cons (.bool _) .nil)))
      | some i =>
        rw [hx] at h hi
        simp only [] at hi
        cases h
        refine retR_grow hI (fun _ _ => rfl) (Nat.le_refl _) rfl rfl rfl ?_ rfl
        have hcut : Lib.cut s.data.toList p.data.toList = (s.data.toList.take i, s.data.toList.drop (i + p.data.toList.length), true) := by
          unfold Lib.cut
          rw [hi, if_pos (by omega)]
          rfl
        rw [hcut]
        exact .tuple _ _ (.cons (hstr _) (.cons (hstr _) (.cons (.bool _) .nil)))
    · cases h
  · cases h

end Go.Zd
namespace Go.Zd
open Go.RowKit

/-- the start: nothing is told of the memory but what it holds -/
def start0 (w : World) : Gh := ⟨fun _ => none, fun _ => 0, 0, fun i => w.heap[i]?⟩

theorem inv_start [LowPred] (w : World) (h : LowPred.Q (fun i => w.heap[i]?)) : Inv w (start0 w) (fun _ => .none) [] w.heap.size := by
  refine ⟨rfl, Nat.le_refl _, fun _ _ => rfl, ?_, ?_, ?_, fun _ _ => rfl, h⟩
  · intro c ga h; cases h
  · intro b ds h; simp at h
  · intro b b' h; simp at h

theorem calls_below [LowPred] {P : Program} {F : Nat → Option DFn} {W : World} (hQ : LowPred.Q (fun i => W.heap[i]?)) (tab : Tab P F W.heap.size) {k f : Nat} {args : List DV} {vals : List Value} {H' : List (List DV)}
    (h : callD F k [] f args [] = some (.ret (.bool true), H')) (hv : VRL (start0 W) vals args) : Calls P f vals.toArray W fun e W' => e = .returned (.bool true) ∧ Below W.heap.size W W' := by
  refine (call_sound tab h W (start0 W) (fun _ => .none) vals (inv_start W hQ) (fun _ _ h => by cases h) (fun _ h => by cases h) hv).mono ?_
  rintro e W' ⟨g', O', hI, hh, x, rfl, hx, _⟩
  cases hx
  exact ⟨rfl, hh.os, hh.tp, hh.out, hh.size, hh.low⟩

/-- the call is true -/
def isTrue : Option (Out × List (List DV)) → Bool
  | some (.ret (.bool true), _) => true
  | _ => false
theorem isTrue_some {o : Option (Out × List (List DV))} (h : isTrue o = true) : ∃ H', o = some (.ret (.bool true), H') := by
  unfold isTrue at h
  split at h
  · exact ⟨_, rfl⟩
  · cases h

end Go.Zd
namespace Go.Zd

inductive Good [LowPred] (P : Program) (base : Nat) : Nat → DFn → Prop
  | code {f : Nat} {d : DFn} {fn : Func} {ann : Ann} {keep : Bool} (h1 : P.funcs[f]? = some fn) (h2 : compFn P ann keep fn = some d) (h3 : (fn.name == "runtime.NumGoroutine") = false) : Good P base f d
  | prim {f : Nat} {p : Prim} (h : PrimSim P base f p) : Good P base f (.prim p)
  | run {f : Nat} {pre : List DCode} {post hnd : DCode} {res : List DRes} {c0 c1 c2 c3 failTy : Nat} (h : RunSim P base f pre post hnd res c0 c1 c2 c3 failTy) : Good P base f (.runp pre post hnd res c0 c1 c2 c3 failTy)

theorem compFn_code {P : Program} {ann : Ann} {keep : Bool} {fn : Func} {d : DFn} (h : compFn P ann keep fn = some d) : ∃ body res, d = .code body res keep := by
  unfold compFn at h
  split at h
  · split at h
    · split at h
      · cases h; exact ⟨_, _, rfl⟩
      · cases h
    · cases h
  · cases h

theorem Tab.of [LowPred] {P : Program} {base : Nat} {T : BT} (hm : P.follows .mixedOrders = true) (h : T.All (Good P base)) : Tab P T.get base := by
  refine ⟨hm, ?_, ?_, ?_, ?_⟩
  · intro f body res keep hf
    cases BT.get_all hf h with
    | code h1 h2 h3 =>
      obtain ⟨_, _, e⟩ := compFn_code h2
      cases e
      exact ⟨_, _, h1, h2, h3⟩
  · intro f p hf
    cases BT.get_all hf h with
    | code h1 h2 h3 => obtain ⟨_, _, e⟩ := compFn_code h2; cases e
    | prim h => exact h
  · intro f s hf
    cases BT.get_all hf h with
    | code h1 h2 h3 => obtain ⟨_, _, e⟩ := compFn_code h2; cases e
  · intro f pre post hnd res c0 c1 c2 c3 failTy hf
    cases BT.get_all hf h with
    | code h1 h2 h3 => obtain ⟨_, _, e⟩ := compFn_code h2; cases e
    | run h => exact h

/-! ## guarded functions -/

def fstOf : Code → Code
  | .seq a _ => a
  | c => c
def sndOf : Code → Code
  | .seq _ b => b
  | c => c
def regOps : Code → Array Oper
  | .region _ ops _ => ops
  | _ => #[]
def regId : Code → Nat
  | .region id _ _ => id
  | _ => 0
def bodyOf (fn : Func) : Code := fn.body.getD .skip

theorem is_of {ops : Array Oper} {i : Nat} {dst : Option Nat} {op : Op} (h : (ops[i]?).map (fun o => (o.op, o.dst, o.guard)) = some (op, dst, none)) : Is ops i dst op := by
  cases ho : ops[i]? with
  | none => rw [ho] at h; cases h
  | some o =>
    rw [ho] at h
    simp only [Option.map_some, Option.some.injEq, Prod.mk.injEq] at h
    exact ⟨o, ho, h.1, h.2.1, h.2.2⟩

theorem compL_of [LowPred] {P : Program} {ann : Ann} {n : Nat} : ∀ {cs : List Code} {ds : List DCode}, compCodes P ann cs = some ds → ds.all (codeOk n) = true → CompL P ann ⟨n, [], fun _ => true, fun _ => undef⟩ cs ds
  | [], ds, h, _ => by cases h; exact .nil
  | c :: r, ds, h, hk => by
    unfold compCodes at h
    split at h
    · rename_i d l h1 h2
      cases h
      simp only [List.all_cons, Bool.and_eq_true] at hk
      exact .cons h1 hk.1 (codeW_all _) (compL_of h2 hk.2)
    · cases h

def handOf (fn : Func) (ann : Ann) (ifTy : TypeId) (it : TypeInfo) (zv : Value) (u : TypeDesc) : HandData :=
  ⟨fn, regOps (fstOf (bodyOf fn)), regId (fstOf (bodyOf fn)), sndOf (bodyOf fn), ann, ifTy, it, zv, u⟩

def runOf (fn : Func) (ann : Ann) (h : Nat) (hand : HandData) : RunData :=
  ⟨fn, [fstOf (bodyOf fn), fstOf (sndOf (bodyOf fn)), fstOf (sndOf (sndOf (bodyOf fn)))], sndOf (sndOf (sndOf (sndOf (bodyOf fn)))), regId (fstOf (sndOf (sndOf (sndOf (bodyOf fn))))), regOps (fstOf (sndOf (sndOf (sndOf (bodyOf fn))))), ann, h, hand⟩

def isIface : TypeDesc → Bool
  | .interface _ => true
  | _ => false

theorem ni_of {u : TypeDesc} (h : isIface u = false) : ∀ ms, u ≠ .interface ms := by
  rintro ms rfl
  cases h

end Go.Zd
