/- The law 'PrinterCases' of the program returns true, whatever its three arguments are. Conditions: none beyond the given card's own. -/
import Derived.Test.YthcoldfgpigdhaaGreatDoorZPRow
import Derived.Test.YthcoldfgpigdhaaGreatDoorZPRed
import Derived.Test.YthcoldfgpigdhaaGreatDoorZPEvA
import Derived.Test.YthcoldfgpigdhaaGreatDoorZPEvB
import Derived.Test.YthcoldfgpigdhaaGreatDoorZPEvC
import Derived.Test.YthcoldfgpigdhaaGreatDoorZPEvD
namespace Go.Proofs.YthcoldfgpigdhaaGreatDoor
open Go Go.Zd
set_option maxRecDepth 100000

theorem evAll (r : Nat) (hr : r < 7) (a b : Bool) : ev4 r a b = true := by
  obtain h | h | h | h | h | h | h : r = 0 ∨ r = 1 ∨ r = 2 ∨ r = 3 ∨ r = 4 ∨ r = 5 ∨ r = 6 := by omega
  all_goals subst h
  · cases a <;> cases b
    · exact ev4_0_0
    · exact ev4_0_1
    · exact ev4_0_2
    · exact ev4_0_3
  · cases a <;> cases b
    · exact ev4_1_0
    · exact ev4_1_1
    · exact ev4_1_2
    · exact ev4_1_3
  · cases a <;> cases b
    · exact ev4_2_0
    · exact ev4_2_1
    · exact ev4_2_2
    · exact ev4_2_3
  · cases a <;> cases b
    · exact ev4_3_0
    · exact ev4_3_1
    · exact ev4_3_2
    · exact ev4_3_3
  · cases a <;> cases b
    · exact ev4_4_0
    · exact ev4_4_1
    · exact ev4_4_2
    · exact ev4_4_3
  · cases a <;> cases b
    · exact ev4_5_0
    · exact ev4_5_1
    · exact ev4_5_2
    · exact ev4_5_3
  · cases a <;> cases b
    · exact ev4_6_0
    · exact ev4_6_1
    · exact ev4_6_2
    · exact ev4_6_3

theorem isTrueO_some {o : Option (Out × List (List DV))} (h : isTrueO o = true) : ∃ H', o = some (.ret (.bool true), H') := by
  unfold isTrueO at h
  split at h
  · exact ⟨_, rfl⟩
  · cases h

theorem call4 (n k r : Nat) (hk : k < 256) (hr : k % 7 = r) (a b : Bool) : callD FC (n + 1) [] 4 [.int .u8 k, .bool a, .bool b] [] = callD FC (n + 1) [] 4 [.int .u8 r, .bool a, .bool b] [] := by
  have hF : FC 4 = some (.code (.seq R0 (.seq R1 (.seq R2 rest4))) [.tmp 6] false) := rfl
  have e : ∀ st, exec FC (n + 1) [] (.seq R0 (.seq R1 (.seq R2 rest4))) st = execB FC (exec FC n) [] (.seq R0 (.seq R1 (.seq R2 rest4))) st := fun _ => rfl
  rw [callD_code hF, callD_code hF, e, e, red4 FC _ _ k r hk hr, red4 FC _ _ r r (by omega) (by omega)]

theorem law4 (k : Int) (a b : Bool) (h0 : 0 ≤ k) (h1 : k < 256) : ∃ n H', callD FC n [] 4 [.int .u8 k, .bool a, .bool b] [] = some (.ret (.bool true), H') := by
  obtain ⟨m, rfl⟩ : ∃ m : Nat, k = m := ⟨k.toNat, by omega⟩
  have hev := evAll (m % 7) (Nat.mod_lt _ (by decide)) a b
  unfold ev4 at hev
  rw [Fast.callN_eq] at hev
  obtain ⟨H', hH⟩ := isTrueO_some hev
  exact ⟨99999 + 1, H', (call4 99999 m (m % 7) (by omega) rfl a b).trans hH⟩

theorem printerCases_over : Rows.PrinterCasesSaid :=
  OpenClaim.holds_of_wide 4 Tryz.f4 rfl rfl rfl rfl rfl rfl rfl ⟨rfl, rfl, rfl, rfl, rfl⟩ rfl rfl rfl rfl rfl (by kernel_rfl) Tryz.func4 (by kernel_rfl)
    (of_decide_eq_true (by kernel_rfl)) (by unfold Func.isWrapper; first | (rw [if_pos (by decide +kernel)]; kernel_rfl) | (rw [if_neg (by decide +kernel)]; exact ⟨rfl, rfl⟩))
    (fun os started H enc _ => lifted law4 os started H enc)

/-- the card of the law 'PrinterCases' -/
theorem printerCases_holds : Rows.PrinterCasesCardSaid :=
  Claim7.holds_tied_plain_at .later [] [.data, .data, .data, .sentinel, .sentinel] true (true, "5098df805bf6c56c1de85f79052fde70afafd71ba4ef207c2ed68a35f98e3e5e") true
    printerCases_over (fun _ h => by cases h) (by kernel_rfl) (fun _ h => by cases h) printerCases_row_tie rfl ⟨rfl, rfl⟩ (by kernel_rfl) rfl
    (fun f fn hf hfn => by
      obtain rfl : f = 4 := Option.some.inj ((show Tryz.prog.funcNamed "libevolution/libevolutionlaw03.PrinterCases" = some 4 by kernel_rfl).symm.trans hf) |>.symm
      obtain rfl : fn = Tryz.f4 := (Option.some.inj (Tryz.func4.symm.trans hfn)).symm
      exact ⟨by kernel_rfl, fun j t ht => by
        rw [Tryz.params4] at ht
        have h3 : t = 5 ∨ t = 4 := by
          rcases j with _ | _ | _ | j
          · exact .inl (by simpa using ht.symm)
          · exact .inr (by simpa using ht.symm)
          · exact .inr (by simpa using ht.symm)
          · simp at ht
        rcases h3 with rfl | rfl
        · exact (show Tryz.prog.wantsStandIn 5 = false by kernel_rfl)
        · exact (show Tryz.prog.wantsStandIn 4 = false by kernel_rfl)⟩)
    (by kernel_rfl)
#print axioms printerCases_holds
end Go.Proofs.YthcoldfgpigdhaaGreatDoor
