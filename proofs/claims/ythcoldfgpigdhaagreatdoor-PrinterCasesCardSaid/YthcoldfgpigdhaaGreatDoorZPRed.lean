/- PrinterCases reads its number modulo seven. -/
import Derived.Test.YthcoldfgpigdhaaGreatDoorZPLeaf
namespace Go.Zd
open Go.Zd Fast
set_option maxRecDepth 100000

def R0 : DCode := region [⟨0,some 6,none,.move (.k (.bool false))⟩] (some [0,1,2]) [] false
def R1 : DCode := region [⟨0,some 17,none,.build [.str [],.nilslice] [(0,(1,.k (.str [u 84])))]⟩,⟨1,some 18,none,.build [.str [],.nilslice] [(0,(1,.k (.str [u 73,u 110,u 116])))]⟩,⟨2,some 19,none,.build [.str [],.nilslice] [(0,(1,.k (.str [u 83,u 101,u 108,u 102])))]⟩,⟨3,some 20,none,.build [.str [],.nilslice] [(0,(1,.k (.str [u 103,u 101,u 111,u 46,u 84])))]⟩,⟨4,some 21,none,.build [.str [],.nilslice] [(0,(1,.k (.str [u 73,u 110,u 116])))]⟩,⟨5,some 22,none,.bslice 2 1 (.agg [.str [],.nilslice]) [(0,t 21)]⟩,⟨6,some 23,none,.build [.str [],.nilslice] [(0,(1,.k (.str [u 84]))),(1,(1,t 22))]⟩,⟨7,some 24,none,.build [.str [],.nilslice] [(0,(1,.k (.str [u 84])))]⟩,⟨8,some 25,none,.bslice 2 1 (.agg [.str [],.nilslice]) [(0,t 24)]⟩,⟨9,some 26,none,.build [.str [],.nilslice] [(0,(1,.k (.str [u 103,u 101,u 111,u 46,u 84]))),(1,(1,t 25))]⟩,⟨10,some 27,none,.build [.str [],.nilslice] [(0,(1,.k (.str [u 65,u 114,u 114,u 97,u 121])))]⟩,⟨11,some 28,none,.bslice 2 7 (.agg [.str [],.nilslice]) [(0,t 17),(1,t 18),(2,t 19),(3,t 20),(4,t 23),(5,t 26),(6,t 27)]⟩,⟨12,some 7,none,.move (t 28)⟩] (some [0,1,2,7]) [] false
def R2 : DCode := region [⟨0,some 29,none,.move (t 7)⟩,⟨1,some 30,none,.move (t 0)⟩,⟨2,some 31,none,.conv .i64 (t 30)⟩,⟨3,some 32,none,.move (t 7)⟩,⟨4,some 33,none,.len false (t 32)⟩,⟨5,some 34,none,.bin 0 .rem (t 31) (t 33)⟩,⟨6,some 35,none,.iaddr 2 (t 29) (t 34)⟩,⟨7,some 36,none,.load true 2 (t 35) none⟩,⟨8,some 37,none,.bslice 2 1 (.agg [.str [],.nilslice]) [(0,t 36)]⟩,⟨9,some 38,none,.build [.int .i64 0,.str [],.str [],.int .i64 0,.nilslice,.nilslice,.nilslice,.nilslice,.str [],.nilslice,.int .i64 0] [(0,(1,.k (.int .i64 14))),(2,(1,.k (.str [u 97]))),(4,(1,t 37))]⟩,⟨10,some 8,none,.alloc [.int .i64 0,.str [],.str [],.int .i64 0,.nilslice,.nilslice,.nilslice,.nilslice,.str [],.nilslice,.int .i64 0]⟩,⟨11,none,none,.store 11 (t 8) (t 38) none none⟩] (some [1,2,8]) [] false
def rest4 : DCode := match d4 with
  | .code (.seq _ (.seq _ (.seq _ r))) _ _ => r
  | _ => .skip

theorem d4_eq : d4 = .code (.seq R0 (.seq R1 (.seq R2 rest4))) [.tmp 6] false := rfl

/-- the seven types of the law -/
def ty4 (r : Nat) : DV := .agg ([
  [.str [u 84], .nilslice], [.str [u 73, u 110, u 116], .nilslice], [.str [u 83, u 101, u 108, u 102], .nilslice], [.str [u 103, u 101, u 111, u 46, u 84], .nilslice],
  [.str [u 84], .slice .ti 2 [.agg [.str [u 73, u 110, u 116], .nilslice]]], [.str [u 103, u 101, u 111, u 46, u 84], .slice .ti 2 [.agg [.str [u 84], .nilslice]]], [.str [u 65, u 114, u 114, u 97, u 121], .nilslice]].getD r [])

theorem red4 (F : Nat → Option DFn) (rec : Rec) (c : DCode) (k r : Nat) (hk : k < 256) (hr : k % 7 = r) (a b : Bool) :
    execB F rec [] (.seq R0 (.seq R1 (.seq R2 c))) ⟨enterTm [.int .u8 k, .bool a, .bool b], []⟩ =
      execB F rec [] c ⟨[(1, .bool a), (2, .bool b), (8, .ptr 0 0)], [[.int .i64 14, .str [], .str [u 97], .int .i64 0, .slice .ti 2 [ty4 r], .nilslice, .nilslice, .nilslice, .str [], .nilslice, .int .i64 0]]⟩ := by
  have hw : IntKind.wrap .i64 (k : Int) = k := wrap_nat (by omega)
  have ht : (k : Int).tmod 7 = r := by
    rw [← hr]; rfl
  have hlt : r < 7 := by omega
  obtain h | h | h | h | h | h | h : r = 0 ∨ r = 1 ∨ r = 2 ∨ r = 3 ∨ r = 4 ∨ r = 5 ∨ r = 6 := by omega
  all_goals
    subst h
    simp [R0, R1, R2, ty4, hw, ht, Fast.nat_beq, execB, runIns, stepIns, opDV, pureOp, protL, look, enterTm, rdc, rd, restrict, setDst, putV, loadOp, mayLoad, loadDV, storeTo, storeDV, mkCells, DV.clean1, lift, binDV, intOp, toNatIdx, buildDV, putAt, DV.cells, DV.isU, DV.cellOk, DV.ptrsLt, setElem, DV.elemOk, DV.plain1, protects]

end Go.Zd
