/- The law 'SyntaxDepths' of the program returns true, whatever its argument is. Conditions: none beyond the given card's own. -/
import Derived.Test.YthcoldfgpigdhaaGreatDoorZSRow
import Derived.Test.YthcoldfgpigdhaaGreatDoorZSRed
import Derived.Test.YthcoldfgpigdhaaGreatDoorZSEvA
import Derived.Test.YthcoldfgpigdhaaGreatDoorZSEvB
import Derived.Test.YthcoldfgpigdhaaGreatDoorZSEvC
import Derived.Test.YthcoldfgpigdhaaGreatDoorZSEvD
import Derived.Test.YthcoldfgpigdhaaGreatDoorZSEvE
import Derived.Test.YthcoldfgpigdhaaGreatDoorZSEvF
import Derived.Test.YthcoldfgpigdhaaGreatDoorZSEvG
import Derived.Test.YthcoldfgpigdhaaGreatDoorZSEvH
namespace Go.Proofs.YthcoldfgpigdhaaGreatDoor
open Go Go.Zd
set_option maxRecDepth 100000

theorem evAll : ∀ r : Nat, r < 50 → ev3 r = true
  | 0, _ => ev3_0
  | 1, _ => ev3_1
  | 2, _ => ev3_2
  | 3, _ => ev3_3
  | 4, _ => ev3_4
  | 5, _ => ev3_5
  | 6, _ => ev3_6
  | 7, _ => ev3_7
  | 8, _ => ev3_8
  | 9, _ => ev3_9
  | 10, _ => ev3_10
  | 11, _ => ev3_11
  | 12, _ => ev3_12
  | 13, _ => ev3_13
  | 14, _ => ev3_14
  | 15, _ => ev3_15
  | 16, _ => ev3_16
  | 17, _ => ev3_17
  | 18, _ => ev3_18
  | 19, _ => ev3_19
  | 20, _ => ev3_20
  | 21, _ => ev3_21
  | 22, _ => ev3_22
  | 23, _ => ev3_23
  | 24, _ => ev3_24
  | 25, _ => ev3_25
  | 26, _ => ev3_26
  | 27, _ => ev3_27
  | 28, _ => ev3_28
  | 29, _ => ev3_29
  | 30, _ => ev3_30
  | 31, _ => ev3_31
  | 32, _ => ev3_32
  | 33, _ => ev3_33
  | 34, _ => ev3_34
  | 35, _ => ev3_35
  | 36, _ => ev3_36
  | 37, _ => ev3_37
  | 38, _ => ev3_38
  | 39, _ => ev3_39
  | 40, _ => ev3_40
  | 41, _ => ev3_41
  | 42, _ => ev3_42
  | 43, _ => ev3_43
  | 44, _ => ev3_44
  | 45, _ => ev3_45
  | 46, _ => ev3_46
  | 47, _ => ev3_47
  | 48, _ => ev3_48
  | 49, _ => ev3_49
  | n + 50, h => absurd h (by omega)

theorem isTrueO_some {o : Option (Out × List (List DV))} (h : isTrueO o = true) : ∃ H', o = some (.ret (.bool true), H') := by
  unfold isTrueO at h
  split at h
  · exact ⟨_, rfl⟩
  · cases h

theorem call3 (n k r : Nat) (hr : k % 50 = r) : callD FD (n + 1) [] 3 [.int .u8 k] [] = callD FD (n + 1) [] 3 [.int .u8 r] [] := by
  have hF : FD 3 = some (.code (.seq R0 (.seq R1 rest3)) [.tmp 2] false) := rfl
  have e : ∀ st, exec FD (n + 1) [] (.seq R0 (.seq R1 rest3)) st = execB FD (exec FD n) [] (.seq R0 (.seq R1 rest3)) st := fun _ => rfl
  rw [callD_code hF, callD_code hF, e, e, red3 FD _ _ k r hr, red3 FD _ _ r r (by omega)]

theorem law3 (k : Int) (h0 : 0 ≤ k) (h1 : k < 256) : ∃ n H', callD FD n [] 3 [.int .u8 k] [] = some (.ret (.bool true), H') := by
  obtain ⟨m, rfl⟩ : ∃ m : Nat, k = m := ⟨k.toNat, by omega⟩
  have hev := evAll (m % 50) (Nat.mod_lt _ (by decide))
  unfold ev3 at hev
  rw [Fast.callN_eq] at hev
  obtain ⟨H', hH⟩ := isTrueO_some hev
  exact ⟨99999 + 1, H', (call3 99999 m (m % 50) rfl).trans hH⟩

theorem syntaxDepths_over : Rows.SyntaxDepthsSaid :=
  OpenClaim.holds_of_wide 3 Tryz.f3 rfl rfl rfl rfl rfl rfl rfl ⟨rfl, rfl, rfl, rfl, rfl⟩ rfl rfl rfl rfl rfl (by kernel_rfl) Tryz.func3 (by kernel_rfl)
    (of_decide_eq_true (by kernel_rfl)) (by unfold Func.isWrapper; first | (rw [if_pos (by decide +kernel)]; kernel_rfl) | (rw [if_neg (by decide +kernel)]; exact ⟨rfl, rfl⟩))
    (fun os started H enc _ => lifted law3 os started H enc)

/-- the card of the law 'SyntaxDepths' -/
theorem syntaxDepths_holds : Rows.SyntaxDepthsCardSaid :=
  Claim7.holds_tied_plain_at .later [] [.data, .data, .data, .sentinel, .sentinel] true (true, "5098df805bf6c56c1de85f79052fde70afafd71ba4ef207c2ed68a35f98e3e5e") true
    syntaxDepths_over (fun _ h => by cases h) (by kernel_rfl) (fun _ h => by cases h) syntaxDepths_row_tie rfl ⟨rfl, rfl⟩ (by kernel_rfl) rfl
    (fun f fn hf hfn => by
      obtain rfl : f = 3 := Option.some.inj ((show Tryz.prog.funcNamed "libevolution/libevolutionlaw02.SyntaxDepths" = some 3 by kernel_rfl).symm.trans hf) |>.symm
      obtain rfl : fn = Tryz.f3 := (Option.some.inj (Tryz.func3.symm.trans hfn)).symm
      exact ⟨by kernel_rfl, fun j t ht => by
        rw [Tryz.params3] at ht
        have h3 : t = 5 := by
          rcases j with _ | j
          · simpa using ht.symm
          · simp at ht
        subst h3
        exact (show Tryz.prog.wantsStandIn 5 = false by kernel_rfl)⟩)
    (by kernel_rfl)
#print axioms syntaxDepths_holds
end Go.Proofs.YthcoldfgpigdhaaGreatDoor
