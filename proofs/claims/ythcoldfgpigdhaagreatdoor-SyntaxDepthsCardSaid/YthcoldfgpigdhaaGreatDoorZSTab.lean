/- The program's table: everything that the abstract run takes for the program's is the program's. -/
import Derived.Test.YthcoldfgpigdhaaGreatDoorZSGood
import Derived.Test.YthcoldfgpigdhaaGreatDoorZPLays
import Derived.Test.YthcoldfgpigdhaaGreatDoorZK
import Derived.Test.YthcoldfgpigdhaaGreatDoorZSClq
namespace Go.Zd
open Go.Proofs Go.Shelf
set_option maxRecDepth 100000

/-- the variable of the library that says from which length on a search is done otherwise -/
def maxLenAt : Nat := Tryz.lays144_ren.g 1

instance lowTryz : LowPred := ⟨fun L => ∃ m cs E fr, L maxLenAt = some (.cells cs E fr) ∧ cs[0]? = some (.int .i64 m)⟩

theorem low_maxLen {base : Nat} (hb : maxLenAt < base) {w : World} {g : Gh} {O : Nat → Loc} {H : List (List DV)} (hI : Inv w g O H base) : ∃ m, w.cell? ⟨maxLenAt, 0, none⟩ = some (.int .i64 m) := by
  obtain ⟨m, cs, E, fr, h1, h2⟩ := hI.lowOk
  exact ⟨m, low_cell hI hb h1 h2⟩

theorem builderExtra : Builder.Extra Tryz.prog Tryz.lays156_ren := {
  sizeBuilder := by kernel_rfl
  liesBuilder := by kernel_rfl
  t5 := Tryz.underlying5
  a5 := Tryz.isAgg5
  z5 := Tryz.sizeOf5
  v5 := Tryz.zeroValue5
  infoByte := by kernel_rfl
  cellsByte := by kernel_rfl
  sizeByte := by kernel_rfl
  neB5 := by decide }

section
variable {base : Nat}

theorem p128 : PrimSim Tryz.prog base 128 .hasPrefix := prim_hasPrefix Tryz.lays99
theorem p122 : PrimSim Tryz.prog base 122 .indexByte := prim_indexByte Tryz.lays137
theorem p121 (hb : maxLenAt < base) : PrimSim Tryz.prog base 121 .contains := prim_contains Tryz.lays144 fun _ _ _ _ hI => low_maxLen hb hI
theorem p186 (hb : maxLenAt < base) : PrimSim Tryz.prog base 186 .cut := prim_cut Tryz.lays145 fun _ _ _ _ hI => low_maxLen hb hI
theorem p173 : PrimSim Tryz.prog base 173 .parseUint := prim_parseUint Tryz.laysPu14
theorem p56 : PrimSim Tryz.prog base 56 .formatInt := prim_formatInt Tryz.lays173
theorem p120 : PrimSim Tryz.prog base 120 .join := prim_join Tryz.lays156 builderExtra

theorem mixedTryz : Tryz.prog.follows .mixedOrders = true := by kernel_rfl

theorem tabT (hb : maxLenAt < base) : Tab Tryz.prog T.get base := Tab.of mixedTryz ⟨good102, ⟨good52, ⟨good33, ⟨good15, ⟨good11, ⟨good6, ⟨good5, ⟨good3, trivial, trivial⟩, trivial⟩, ⟨good7, trivial, trivial⟩⟩, ⟨good13, ⟨good12, trivial, trivial⟩, ⟨good14, trivial, trivial⟩⟩⟩, ⟨good29, ⟨good27, ⟨good25, ⟨good16, trivial, trivial⟩, trivial⟩, ⟨good28, trivial, trivial⟩⟩, ⟨good31, ⟨good30, trivial, trivial⟩, ⟨good32, trivial, trivial⟩⟩⟩⟩, ⟨good42, ⟨good38, ⟨good36, ⟨good35, ⟨good34, trivial, trivial⟩, trivial⟩, ⟨good37, trivial, trivial⟩⟩, ⟨good40, ⟨good39, trivial, trivial⟩, ⟨good41, trivial, trivial⟩⟩⟩, ⟨good48, ⟨good46, ⟨good44, ⟨good43, trivial, trivial⟩, trivial⟩, ⟨good47, trivial, trivial⟩⟩, ⟨good50, ⟨good49, trivial, trivial⟩, ⟨good51, trivial, trivial⟩⟩⟩⟩⟩, ⟨good84, ⟨good75, ⟨good71, ⟨good69, ⟨good54, ⟨good53, trivial, trivial⟩, trivial⟩, ⟨good70, trivial, trivial⟩⟩, ⟨good73, ⟨good72, trivial, trivial⟩, ⟨good74, trivial, trivial⟩⟩⟩, ⟨good80, ⟨good78, ⟨good77, ⟨good76, trivial, trivial⟩, trivial⟩, ⟨good79, trivial, trivial⟩⟩, ⟨good82, ⟨good81, trivial, trivial⟩, ⟨good83, trivial, trivial⟩⟩⟩⟩, ⟨good94, ⟨good90, ⟨good88, ⟨good86, ⟨good85, trivial, trivial⟩, trivial⟩, ⟨good89, trivial, trivial⟩⟩, ⟨good92, ⟨good91, trivial, trivial⟩, ⟨good93, trivial, trivial⟩⟩⟩, ⟨good98, ⟨good96, ⟨good95, trivial, trivial⟩, ⟨good97, trivial, trivial⟩⟩, ⟨good100, ⟨good99, trivial, trivial⟩, ⟨good101, trivial, trivial⟩⟩⟩⟩⟩⟩, ⟨good150, ⟨good132, ⟨good123, ⟨good107, ⟨good105, ⟨good104, ⟨good103, trivial, trivial⟩, trivial⟩, ⟨good106, trivial, trivial⟩⟩, ⟨(Good.prim (p121 hb)), ⟨good108, trivial, trivial⟩, ⟨(Good.prim p122), trivial, trivial⟩⟩⟩, ⟨(Good.prim p128), ⟨good126, ⟨good125, ⟨good124, trivial, trivial⟩, trivial⟩, ⟨good127, trivial, trivial⟩⟩, ⟨good130, ⟨good129, trivial, trivial⟩, ⟨good131, trivial, trivial⟩⟩⟩⟩, ⟨good141, ⟨good137, ⟨good135, ⟨good134, ⟨good133, trivial, trivial⟩, trivial⟩, ⟨good136, trivial, trivial⟩⟩, ⟨good139, ⟨good138, trivial, trivial⟩, ⟨good140, trivial, trivial⟩⟩⟩, ⟨good146, ⟨good144, ⟨good143, ⟨good142, trivial, trivial⟩, trivial⟩, ⟨good145, trivial, trivial⟩⟩, ⟨good148, ⟨good147, trivial, trivial⟩, ⟨good149, trivial, trivial⟩⟩⟩⟩⟩, ⟨good182, ⟨(Good.prim p173), ⟨good155, ⟨good153, ⟨good152, ⟨good151, trivial, trivial⟩, trivial⟩, ⟨good154, trivial, trivial⟩⟩, ⟨good171, ⟨good156, trivial, trivial⟩, ⟨good172, trivial, trivial⟩⟩⟩, ⟨good178, ⟨good176, ⟨good175, ⟨good174, trivial, trivial⟩, trivial⟩, ⟨good177, trivial, trivial⟩⟩, ⟨good180, ⟨good179, trivial, trivial⟩, ⟨good181, trivial, trivial⟩⟩⟩⟩, ⟨good214, ⟨good202, ⟨good185, ⟨good184, ⟨good183, trivial, trivial⟩, trivial⟩, ⟨good198, trivial, trivial⟩⟩, ⟨good204, ⟨good203, trivial, trivial⟩, ⟨good213, trivial, trivial⟩⟩⟩, ⟨good226, ⟨good216, ⟨good215, trivial, trivial⟩, ⟨good224, trivial, trivial⟩⟩, ⟨good228, ⟨good227, trivial, trivial⟩, ⟨good232, trivial, trivial⟩⟩⟩⟩⟩⟩⟩

end
end Go.Zd
namespace Go.Zd
open Go.Zd Fast
set_option maxRecDepth 100000

theorem cond_some {α : Type} {f n : Nat} {a s : α} {r : Option α} (h : cond (Nat.beq f n) (some a) r = some s) : (f = n ∧ s = a) ∨ r = some s := by
  cases hb : Nat.beq f n
  · rw [hb] at h; exact .inr h
  · rw [hb] at h; cases h; exact .inl ⟨Nat.eq_of_beq_eq_true hb, rfl⟩

section
variable {base : Nat}

theorem spA_in {f : Nat} {s : Spec} (h : spA f = some s) : (f = 47 ∧ s = peekS) ∨ (f = 125 ∧ s = letterS) ∨ (f = 127 ∧ s = digitS) := by
  rcases cond_some h with h | h
  · exact .inl h
  · rcases cond_some h with h | h
    · exact .inr (.inl h)
    · rcases cond_some h with h | h
      · exact .inr (.inr h)
      · cases h
theorem spB_in {f : Nat} {s : Spec} (h : spB f = some s) : (f = 72 ∧ s = isS) ∨ (f = 29 ∧ s = posS) ∨ (f = 126 ∧ s = alnumS) := by
  rcases cond_some h with h | h
  · exact .inl h
  · rcases cond_some h with h | h
    · exact .inr (.inl h)
    · rcases cond_some h with h | h
      · exact .inr (.inr h)
      · cases h
theorem spC_in {f : Nat} {s : Spec} (h : spC f = some s) : (f = 30 ∧ s = takeS) ∨ (f = 75 ∧ s = signS) := by
  rcases cond_some h with h | h
  · exact .inl h
  · rcases cond_some h with h | h
    · exact .inr h
    · cases h

theorem tabA (hb : maxLenAt < base) : Tab Go.Proofs.Tryz.prog FA base := by
  refine Tab.layer (tabT hb) spA ?_ ?_
  · intro f s h
    rcases spA_in h with ⟨rfl, _⟩ | ⟨rfl, _⟩ | ⟨rfl, _⟩ <;> rfl
  · intro f s h PR args H r hr
    rcases spA_in h with ⟨rfl, rfl⟩ | ⟨rfl, rfl⟩ | ⟨rfl, rfl⟩
    · exact peekR_ok hr
    · exact letterR_ok hr
    · exact digitR_ok hr
theorem tabB (hb : maxLenAt < base) : Tab Go.Proofs.Tryz.prog FB base := by
  refine Tab.layer (tabA hb) spB ?_ ?_
  · intro f s h
    rcases spB_in h with ⟨rfl, _⟩ | ⟨rfl, _⟩ | ⟨rfl, _⟩ <;> rfl
  · intro f s h PR args H r hr
    rcases spB_in h with ⟨rfl, rfl⟩ | ⟨rfl, rfl⟩ | ⟨rfl, rfl⟩
    · exact isR_ok hr
    · exact posR_ok hr
    · exact alnumR_ok hr
theorem tabC (hb : maxLenAt < base) : Tab Go.Proofs.Tryz.prog FC base := by
  refine Tab.layer (tabB hb) spC ?_ ?_
  · intro f s h
    rcases spC_in h with ⟨rfl, _⟩ | ⟨rfl, _⟩ <;> rfl
  · intro f s h PR args H r hr
    rcases spC_in h with ⟨rfl, rfl⟩ | ⟨rfl, rfl⟩
    · exact takeR_ok hr
    · exact signR_ok hr
theorem spD_in {f : Nat} {s : Spec} (h : spD f = some s) : f = 12 ∧ s = exprS := by
  rcases cond_some h with h | h
  · exact h
  · cases h
theorem tabD (hb : maxLenAt < base) : Tab Go.Proofs.Tryz.prog FD base := by
  refine Tab.layer (tabC hb) spD ?_ ?_
  · intro f s h
    obtain ⟨rfl, _⟩ := spD_in h
    rfl
  · intro f s h PR args H r hr
    obtain ⟨rfl, rfl⟩ := spD_in h
    exact exprR_ok hr
end

end Go.Zd
