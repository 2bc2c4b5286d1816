/- The program's table: everything that the abstract run takes for the program's is the program's. -/
import Derived.Test.YthcoldfgpigdhaaGreatDoorZPGood
import Derived.Test.YthcoldfgpigdhaaGreatDoorZPLays
import Derived.Test.YthcoldfgpigdhaaGreatDoorZK
import Derived.Test.YthcoldfgpigdhaaGreatDoorZPLeaf
namespace Go.Zd
open Go.Proofs Go.Shelf
set_option maxRecDepth 100000

/-- the variable of the library that says from which length on a search is done otherwise -/
def maxLenAt : Nat := Tryz.lays144_ren.g 1

instance lowTryz : LowPred := ⟨fun L => ∃ m cs E fr, L maxLenAt = some (.cells cs E fr) ∧ cs[0]? = some (.int .i64 m)⟩

theorem low_maxLen {base : Nat} (hb : maxLenAt < base) {w : World} {g : Gh} {O : Nat → Loc} {H : List (List DV)} (hI : Inv w g O H base) : ∃ m, w.cell? ⟨maxLenAt, 0, none⟩ = some (.int .i64 m) := by
  obtain ⟨m, cs, E, fr, h1, h2⟩ := hI.lowOk
  exact ⟨m, low_cell hI hb h1 h2⟩

theorem builderExtra : Builder.Extra Tryz.prog Tryz.lays156_ren := {
  sizeBuilder := by kernel_rfl
  liesBuilder := by kernel_rfl
  t5 := Tryz.underlying5
  a5 := Tryz.isAgg5
  z5 := Tryz.sizeOf5
  v5 := Tryz.zeroValue5
  infoByte := by kernel_rfl
  cellsByte := by kernel_rfl
  sizeByte := by kernel_rfl
  neB5 := by decide }

section
variable {base : Nat}

theorem p128 : PrimSim Tryz.prog base 128 .hasPrefix := prim_hasPrefix Tryz.lays99
theorem p122 : PrimSim Tryz.prog base 122 .indexByte := prim_indexByte Tryz.lays137
theorem p121 (hb : maxLenAt < base) : PrimSim Tryz.prog base 121 .contains := prim_contains Tryz.lays144 fun _ _ _ _ hI => low_maxLen hb hI
theorem p186 (hb : maxLenAt < base) : PrimSim Tryz.prog base 186 .cut := prim_cut Tryz.lays145 fun _ _ _ _ hI => low_maxLen hb hI
theorem p173 : PrimSim Tryz.prog base 173 .parseUint := prim_parseUint Tryz.laysPu14
theorem p56 : PrimSim Tryz.prog base 56 .formatInt := prim_formatInt Tryz.lays173
theorem p120 : PrimSim Tryz.prog base 120 .join := prim_join Tryz.lays156 builderExtra

theorem mixedTryz : Tryz.prog.follows .mixedOrders = true := by kernel_rfl

theorem tabT (hb : maxLenAt < base) : Tab Tryz.prog T.get base := Tab.of mixedTryz ⟨good75, ⟨good39, ⟨good23, ⟨good13, ⟨good9, ⟨good5, ⟨good4, trivial, trivial⟩, ⟨good8, trivial, trivial⟩⟩, ⟨good11, ⟨good10, trivial, trivial⟩, ⟨good12, trivial, trivial⟩⟩⟩, ⟨good19, ⟨good17, ⟨good15, trivial, trivial⟩, ⟨good18, trivial, trivial⟩⟩, ⟨good21, ⟨good20, trivial, trivial⟩, ⟨good22, trivial, trivial⟩⟩⟩⟩, ⟨good32, ⟨good28, ⟨good25, ⟨good24, trivial, trivial⟩, ⟨good27, trivial, trivial⟩⟩, ⟨good30, ⟨good29, trivial, trivial⟩, ⟨good31, trivial, trivial⟩⟩⟩, ⟨good36, ⟨good34, ⟨good33, trivial, trivial⟩, ⟨good35, trivial, trivial⟩⟩, ⟨good38, ⟨good37, trivial, trivial⟩, trivial⟩⟩⟩⟩, ⟨good60, ⟨good48, ⟨good43, ⟨good41, ⟨good40, trivial, trivial⟩, ⟨good42, trivial, trivial⟩⟩, ⟨good46, ⟨good44, trivial, trivial⟩, ⟨good47, trivial, trivial⟩⟩⟩, ⟨good57, ⟨good55, ⟨good49, trivial, trivial⟩, ⟨(Good.prim p56), trivial, trivial⟩⟩, ⟨good59, ⟨good58, trivial, trivial⟩, trivial⟩⟩⟩, ⟨good68, ⟨good64, ⟨good62, ⟨good61, trivial, trivial⟩, ⟨good63, trivial, trivial⟩⟩, ⟨good66, ⟨good65, trivial, trivial⟩, ⟨good67, trivial, trivial⟩⟩⟩, ⟨good72, ⟨good70, ⟨good69, trivial, trivial⟩, ⟨good71, trivial, trivial⟩⟩, ⟨good74, ⟨good73, trivial, trivial⟩, trivial⟩⟩⟩⟩⟩, ⟨good127, ⟨good111, ⟨good83, ⟨good79, ⟨good77, ⟨good76, trivial, trivial⟩, ⟨good78, trivial, trivial⟩⟩, ⟨good81, ⟨good80, trivial, trivial⟩, ⟨good82, trivial, trivial⟩⟩⟩, ⟨good88, ⟨good85, ⟨good84, trivial, trivial⟩, ⟨good86, trivial, trivial⟩⟩, ⟨good110, ⟨good109, trivial, trivial⟩, trivial⟩⟩⟩, ⟨(Good.prim p120), ⟨good115, ⟨good113, ⟨good112, trivial, trivial⟩, ⟨good114, trivial, trivial⟩⟩, ⟨good118, ⟨good117, trivial, trivial⟩, ⟨good119, trivial, trivial⟩⟩⟩, ⟨good124, ⟨(Good.prim p122), ⟨(Good.prim (p121 hb)), trivial, trivial⟩, ⟨good123, trivial, trivial⟩⟩, ⟨good126, ⟨good125, trivial, trivial⟩, trivial⟩⟩⟩⟩, ⟨(Good.prim p173), ⟨good135, ⟨good131, ⟨good129, ⟨(Good.prim p128), trivial, trivial⟩, ⟨good130, trivial, trivial⟩⟩, ⟨good133, ⟨good132, trivial, trivial⟩, ⟨good134, trivial, trivial⟩⟩⟩, ⟨good160, ⟨good158, ⟨good157, trivial, trivial⟩, ⟨good159, trivial, trivial⟩⟩, ⟨good172, ⟨good171, trivial, trivial⟩, trivial⟩⟩⟩, ⟨good215, ⟨good198, ⟨good187, ⟨(Good.prim (p186 hb)), trivial, trivial⟩, ⟨good188, trivial, trivial⟩⟩, ⟨good213, ⟨good204, trivial, trivial⟩, ⟨good214, trivial, trivial⟩⟩⟩, ⟨good227, ⟨good224, ⟨good216, trivial, trivial⟩, ⟨good226, trivial, trivial⟩⟩, ⟨good232, ⟨good228, trivial, trivial⟩, trivial⟩⟩⟩⟩⟩⟩

end
end Go.Zd
namespace Go.Zd
open Go.Zd Fast
set_option maxRecDepth 100000

theorem cond_some {α : Type} {f n : Nat} {a s : α} {r : Option α} (h : cond (Nat.beq f n) (some a) r = some s) : (f = n ∧ s = a) ∨ r = some s := by
  cases hb : Nat.beq f n
  · rw [hb] at h; exact .inr h
  · rw [hb] at h; cases h; exact .inl ⟨Nat.eq_of_beq_eq_true hb, rfl⟩

section
variable {base : Nat}

theorem spA_in {f : Nat} {s : Spec} (h : spA f = some s) : (f = 47 ∧ s = peekS) ∨ (f = 125 ∧ s = letterS) ∨ (f = 127 ∧ s = digitS) := by
  rcases cond_some h with h | h
  · exact .inl h
  · rcases cond_some h with h | h
    · exact .inr (.inl h)
    · rcases cond_some h with h | h
      · exact .inr (.inr h)
      · cases h
theorem spB_in {f : Nat} {s : Spec} (h : spB f = some s) : (f = 72 ∧ s = isS) ∨ (f = 29 ∧ s = posS) ∨ (f = 126 ∧ s = alnumS) := by
  rcases cond_some h with h | h
  · exact .inl h
  · rcases cond_some h with h | h
    · exact .inr (.inl h)
    · rcases cond_some h with h | h
      · exact .inr (.inr h)
      · cases h
theorem spC_in {f : Nat} {s : Spec} (h : spC f = some s) : (f = 30 ∧ s = takeS) ∨ (f = 75 ∧ s = signS) := by
  rcases cond_some h with h | h
  · exact .inl h
  · rcases cond_some h with h | h
    · exact .inr h
    · cases h

theorem tabA (hb : maxLenAt < base) : Tab Go.Proofs.Tryz.prog FA base := by
  refine Tab.layer (tabT hb) spA ?_ ?_
  · intro f s h
    rcases spA_in h with ⟨rfl, _⟩ | ⟨rfl, _⟩ | ⟨rfl, _⟩ <;> rfl
  · intro f s h PR args H r hr
    rcases spA_in h with ⟨rfl, rfl⟩ | ⟨rfl, rfl⟩ | ⟨rfl, rfl⟩
    · exact peekR_ok hr
    · exact letterR_ok hr
    · exact digitR_ok hr
theorem tabB (hb : maxLenAt < base) : Tab Go.Proofs.Tryz.prog FB base := by
  refine Tab.layer (tabA hb) spB ?_ ?_
  · intro f s h
    rcases spB_in h with ⟨rfl, _⟩ | ⟨rfl, _⟩ | ⟨rfl, _⟩ <;> rfl
  · intro f s h PR args H r hr
    rcases spB_in h with ⟨rfl, rfl⟩ | ⟨rfl, rfl⟩ | ⟨rfl, rfl⟩
    · exact isR_ok hr
    · exact posR_ok hr
    · exact alnumR_ok hr
theorem tabC (hb : maxLenAt < base) : Tab Go.Proofs.Tryz.prog FC base := by
  refine Tab.layer (tabB hb) spC ?_ ?_
  · intro f s h
    rcases spC_in h with ⟨rfl, _⟩ | ⟨rfl, _⟩ <;> rfl
  · intro f s h PR args H r hr
    rcases spC_in h with ⟨rfl, rfl⟩ | ⟨rfl, rfl⟩
    · exact takeR_ok hr
    · exact signR_ok hr
end

end Go.Zd
