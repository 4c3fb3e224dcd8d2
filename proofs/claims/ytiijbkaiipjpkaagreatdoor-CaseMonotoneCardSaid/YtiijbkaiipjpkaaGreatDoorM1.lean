/- A part of the proof: texts of the walk and of the plain laws, merged. No condition. -/
import Derived.Test.YtiijbkaiipjpkaaGreatDoorChecked
import Derived.KernelRfl
import Derived.WalkKit
import Derived.OrdersHeld
import Derived.Laws.CopyRow
import Derived.Laws.StructEq
import Derived.Maps.AppendAt
import Derived.Laws.MakeOwn
import Derived.Laws.BytesArg
import Derived.Laws.Externs
import Derived.Laws.Cover3
import Derived.MapKept
import Derived.Laws.RangeAny
import Derived.Laws.RangeString
import Derived.Shelf.Slices.In.SortNone
import Derived.Shelf.Sort.Plain
import Derived.Test.YtiijbkaiipjpkaaGreatDoorProg
import Derived.Shelf.SlSortCmp.NoneTotal
import Derived.Ground.SlsfProg
import Derived.ChangeArms
import Derived.DataReads
import GoSem.ClaimJoined
import Derived.Test.YtiijbkaiipjpkaaGreatDoorRows
import Derived.ChangeSame
import Derived.ChangeVars
import Derived.JoinedOf
import Derived.RowKit
import Derived.RowKitTokens
import Derived.LaidLaws
import Derived.LaidHandle
import Derived.Carry
import Derived.Handed
import Derived.ChangeOld
import Derived.SevenTiedAt
import Derived.Test.YtiijbkaiipjpkaaGreatDoorCards
import Derived.Test.YtiijbkaiipjpkaaGreatDoorTie
set_option linter.unusedVariables false
set_option linter.unusedSimpArgs false
set_option maxRecDepth 100000
namespace Go.Proofs.YtiijbkaiipjpkaaGreatDoor
namespace SX
open Go
theorem nd {α : Type} {c : Bool} {a b : Option α} {d : α} {G : Prop} (ha : a = some d → G) (hb : b = some d → G) : cond c a b = some d → G := by cases c <;> assumption
theorem lf {α : Type} {F : Nat → α → Prop} {t k : Nat} {D d : α} (h : F k D) : cond (Nat.beq t k) (some D) none = some d → F t d := by
 cases e : Nat.beq t k
 ·intro h'; cases h'
 ·intro h'; injection h' with h'; subst h'; rw [Nat.eq_of_beq_eq_true e]; exact h
def und (t : Nat) : Option TypeDesc :=
 (cond (Nat.blt t 130) (cond (Nat.blt t 65) (cond (Nat.blt t 32) (cond (Nat.blt t 16) (cond (Nat.blt t 8) (cond (Nat.blt t 4) (cond (Nat.blt t 2) (cond (Nat.blt t 1) (cond (Nat.beq t 0) (some (.tuple #[])) none) (cond (Nat.beq t 1) (some (.func #[] #[] false)) none)) (cond (Nat.blt t 3) (cond (Nat.beq t 2) (some (.int .i64)) none) (cond (Nat.beq t 3) (some (.int .i64)) none))) (cond (Nat.blt t 6) (cond (Nat.blt t 5) (cond (Nat.beq t 4) (some (.bool)) none) (cond (Nat.beq t 5) (some (.int .u8)) none)) (cond (Nat.blt t 7) (cond (Nat.beq t 6) (some (.int .u8)) none) (cond (Nat.beq t 7) (some (.struct #[⟨ "x", 2, 0, false, "", "runtime", 0⟩, ⟨ "y", 3, 1, false, "", "runtime", 8⟩, ⟨ "signed", 4, 2, false, "", "runtime", 16⟩, ⟨ "code", 6, 3, false, "", "runtime", 17⟩])) none)))) (cond (Nat.blt t 12) (cond (Nat.blt t 10) (cond (Nat.blt t 9) (cond (Nat.beq t 8) (some (.struct #[⟨ "x", 2, 0, false, "", "runtime", 0⟩, ⟨ "y", 3, 1, false, "", "runtime", 8⟩, ⟨ "signed", 4, 2, false, "", "runtime", 16⟩, ⟨ "code", 6, 3, false, "", "runtime", 17⟩])) none) (cond (Nat.beq t 9) (some (.string)) none)) (cond (Nat.blt t 11) (cond (Nat.beq t 10) (some (.string)) none) (cond (Nat.beq t 11) (some (.string)) none))) (cond (Nat.blt t 14) (cond (Nat.blt t 13) (cond (Nat.beq t 12) (some (.int .u64)) none) (cond (Nat.beq t 13) (some (.struct #[⟨ "msg", 9, 0, false, "", "runtime", 0⟩, ⟨ "addr", 12, 1, false, "", "runtime", 16⟩])) none)) (cond (Nat.blt t 15) (cond (Nat.beq t 14) (some (.struct #[⟨ "msg", 9, 0, false, "", "runtime", 0⟩, ⟨ "addr", 12, 1, false, "", "runtime", 16⟩])) none) (cond (Nat.beq t 15) (some (.pointer 238)) none))))) (cond (Nat.blt t 24) (cond (Nat.blt t 20) (cond (Nat.blt t 18) (cond (Nat.blt t 17) (cond (Nat.beq t 16) (some (.pointer 241)) none) (cond (Nat.beq t 17) (some (.pointer 249)) none)) (cond (Nat.blt t 19) (cond (Nat.beq t 18) (some (.struct #[⟨ "typ", 17, 0, false, "", "internal/runtime/maps", 0⟩])) none) (cond (Nat.beq t 19) (some (.struct #[⟨ "typ", 17, 0, false, "", "internal/runtime/maps", 0⟩])) none))) (cond (Nat.blt t 22) (cond (Nat.blt t 21) (cond (Nat.beq t 20) (some (.interface #[])) none) (cond (Nat.beq t 21) (some (.int .i32)) none)) (cond (Nat.blt t 23) (cond (Nat.beq t 22) (some (.slice 33)) none) (cond (Nat.beq t 23) (some (.slice 3)) none)))) (cond (Nat.blt t 28) (cond (Nat.blt t 26) (cond (Nat.blt t 25) (cond (Nat.beq t 24) (some (.func #[22] #[22] false)) none) (cond (Nat.beq t 25) (some (.int .i64)) none)) (cond (Nat.blt t 27) (cond (Nat.beq t 26) (some (.func #[22] #[25] false)) none) (cond (Nat.beq t 27) (some (.func #[23] #[22] false)) none))) (cond (Nat.blt t 30) (cond (Nat.blt t 29) (cond (Nat.beq t 28) (some (.func #[] #[4] false)) none) (cond (Nat.beq t 29) (some (.func #[22, 23] #[4] false)) none)) (cond (Nat.blt t 31) (cond (Nat.beq t 30) (some (.slice 9)) none) (cond (Nat.beq t 31) (some (.slice 38)) none)))))) (cond (Nat.blt t 48) (cond (Nat.blt t 40) (cond (Nat.blt t 36) (cond (Nat.blt t 34) (cond (Nat.blt t 33) (cond (Nat.beq t 32) (some (.struct #[⟨ "ID", 3, 0, false, "", "", 0⟩, ⟨ "Kind", 3, 1, false, "", "", 8⟩, ⟨ "Parties", 30, 2, false, "", "", 16⟩, ⟨ "Rules", 31, 3, false, "", "", 40⟩])) none) (cond (Nat.beq t 33) (some (.struct #[⟨ "ID", 3, 0, false, "", "", 0⟩, ⟨ "Kind", 3, 1, false, "", "", 8⟩, ⟨ "Parties", 30, 2, false, "", "", 16⟩, ⟨ "Rules", 31, 3, false, "", "", 40⟩])) none)) (cond (Nat.blt t 35) (cond (Nat.beq t 34) (some (.slice 36)) none) (cond (Nat.beq t 35) (some (.struct #[⟨ "Kind", 3, 0, false, "", "", 0⟩, ⟨ "Digits", 3, 1, false, "", "", 8⟩, ⟨ "Except", 30, 2, false, "", "", 16⟩, ⟨ "Tolerance", 3, 3, false, "", "", 40⟩, ⟨ "Limit", 3, 4, false, "", "", 48⟩, ⟨ "Name", 9, 5, false, "", "", 56⟩, ⟨ "Args", 34, 6, false, "", "", 72⟩])) none))) (cond (Nat.blt t 38) (cond (Nat.blt t 37) (cond (Nat.beq t 36) (some (.struct #[⟨ "Kind", 3, 0, false, "", "", 0⟩, ⟨ "Digits", 3, 1, false, "", "", 8⟩, ⟨ "Except", 30, 2, false, "", "", 16⟩, ⟨ "Tolerance", 3, 3, false, "", "", 40⟩, ⟨ "Limit", 3, 4, false, "", "", 48⟩, ⟨ "Name", 9, 5, false, "", "", 56⟩, ⟨ "Args", 34, 6, false, "", "", 72⟩])) none) (cond (Nat.beq t 37) (some (.struct #[⟨ "Prefix", 9, 0, false, "", "", 0⟩, ⟨ "Rule", 36, 1, false, "", "", 16⟩])) none)) (cond (Nat.blt t 39) (cond (Nat.beq t 38) (some (.struct #[⟨ "Prefix", 9, 0, false, "", "", 0⟩, ⟨ "Rule", 36, 1, false, "", "", 16⟩])) none) (cond (Nat.beq t 39) (some (.func #[3, 3] #[3] false)) none)))) (cond (Nat.blt t 44) (cond (Nat.blt t 42) (cond (Nat.blt t 41) (cond (Nat.beq t 40) (some (.func #[36, 3] #[36] false)) none) (cond (Nat.beq t 41) (some (.int .u64)) none)) (cond (Nat.blt t 43) (cond (Nat.beq t 42) (some (.func #[23, 33, 38, 3, 3, 3] #[4] false)) none) (cond (Nat.beq t 43) (some (.slice 96)) none))) (cond (Nat.blt t 46) (cond (Nat.blt t 45) (cond (Nat.beq t 44) (some (.struct #[⟨ "Code", 9, 0, false, "", "", 0⟩, ⟨ "Price", 3, 1, false, "", "", 16⟩, ⟨ "Obtained", 4, 2, false, "", "", 24⟩, ⟨ "Processes", 30, 3, false, "", "", 32⟩, ⟨ "Inputs", 43, 4, false, "", "", 56⟩])) none) (cond (Nat.beq t 45) (some (.struct #[⟨ "Code", 9, 0, false, "", "", 0⟩, ⟨ "Price", 3, 1, false, "", "", 16⟩, ⟨ "Obtained", 4, 2, false, "", "", 24⟩, ⟨ "Processes", 30, 3, false, "", "", 32⟩, ⟨ "Inputs", 43, 4, false, "", "", 56⟩])) none)) (cond (Nat.blt t 47) (cond (Nat.beq t 46) (some (.func #[23] #[45] false)) none) (cond (Nat.beq t 47) (some (.tuple #[36, 4])) none))))) (cond (Nat.blt t 56) (cond (Nat.blt t 52) (cond (Nat.blt t 50) (cond (Nat.blt t 49) (cond (Nat.beq t 48) (some (.func #[33, 9] #[36, 4] false)) none) (cond (Nat.beq t 49) (some (.func #[36, 36] #[4] false)) none)) (cond (Nat.blt t 51) (cond (Nat.beq t 50) (some (.func #[23, 3, 9, 4, 23] #[4] false)) none) (cond (Nat.beq t 51) (some (.slice 92)) none))) (cond (Nat.blt t 54) (cond (Nat.blt t 53) (cond (Nat.beq t 52) (some (.func #[23] #[51] false)) none) (cond (Nat.beq t 53) (some (.struct #[⟨ "Product", 3, 0, false, "", "", 0⟩, ⟨ "Agreement", 3, 1, false, "", "", 8⟩])) none)) (cond (Nat.blt t 55) (cond (Nat.beq t 54) (some (.struct #[⟨ "Product", 3, 0, false, "", "", 0⟩, ⟨ "Agreement", 3, 1, false, "", "", 8⟩])) none) (cond (Nat.beq t 55) (some (.func #[3] #[9] false)) none)))) (cond (Nat.blt t 60) (cond (Nat.blt t 58) (cond (Nat.blt t 57) (cond (Nat.beq t 56) (some (.func #[] #[30] false)) none) (cond (Nat.beq t 57) (some (.func #[22, 3, 9, 9] #[23] false)) none)) (cond (Nat.blt t 59) (cond (Nat.beq t 58) (some (.func #[51, 22, 9, 54] #[4] false)) none) (cond (Nat.beq t 59) (some (.func #[23, 23] #[4] false)) none))) (cond (Nat.blt t 62) (cond (Nat.blt t 61) (cond (Nat.beq t 60) (some (.tuple #[33, 4])) none) (cond (Nat.beq t 61) (some (.func #[22, 3] #[33, 4] false)) none)) (cond (Nat.blt t 63) (cond (Nat.beq t 62) (some (.func #[30, 9] #[4] false)) none) (cond (Nat.blt t 64) (cond (Nat.beq t 63) (some (.func #[23, 3] #[4] false)) none) (cond (Nat.beq t 64) (some (.func #[23, 23, 3, 3, 3, 3] #[4] false)) none)))))))) (cond (Nat.blt t 97) (cond (Nat.blt t 81) (cond (Nat.blt t 73) (cond (Nat.blt t 69) (cond (Nat.blt t 67) (cond (Nat.blt t 66) (cond (Nat.beq t 65) (some (.func #[51, 22, 3, 3] #[54] false)) none) (cond (Nat.beq t 66) (some (.slice 54)) none)) (cond (Nat.blt t 68) (cond (Nat.beq t 67) (some (.func #[51, 22, 23] #[66] false)) none) (cond (Nat.beq t 68) (some (.tuple #[45, 66])) none))) (cond (Nat.blt t 71) (cond (Nat.blt t 70) (cond (Nat.beq t 69) (some (.func #[51, 22, 9, 54, 66] #[45, 66] false)) none) (cond (Nat.beq t 70) (some (.func #[66, 54] #[4] false)) none)) (cond (Nat.blt t 72) (cond (Nat.beq t 71) (some (.func #[45, 45] #[4] false)) none) (cond (Nat.beq t 72) (some (.func #[66, 66] #[4] false)) none)))) (cond (Nat.blt t 77) (cond (Nat.blt t 75) (cond (Nat.blt t 74) (cond (Nat.beq t 73) (some (.func #[23, 23, 3, 3, 3, 23] #[4] false)) none) (cond (Nat.beq t 74) (some (.func #[45] #[25] false)) none)) (cond (Nat.blt t 76) (cond (Nat.beq t 75) (some (.func #[23] #[36] false)) none) (cond (Nat.beq t 76) (some (.func #[66, 54] #[66] false)) none))) (cond (Nat.blt t 79) (cond (Nat.blt t 78) (cond (Nat.beq t 77) (some (.func #[36, 45] #[4] false)) none) (cond (Nat.beq t 78) (some (.func #[23, 23, 23, 3, 3, 3, 23, 23] #[4] false)) none)) (cond (Nat.blt t 80) (cond (Nat.beq t 79) (some (.func #[30] #[4] false)) none) (cond (Nat.beq t 80) (some (.func #[31] #[25] false)) none))))) (cond (Nat.blt t 89) (cond (Nat.blt t 85) (cond (Nat.blt t 83) (cond (Nat.blt t 82) (cond (Nat.beq t 81) (some (.func #[9] #[4] false)) none) (cond (Nat.beq t 82) (some (.func #[9] #[3] false)) none)) (cond (Nat.blt t 84) (cond (Nat.beq t 83) (some (.func #[36] #[25] false)) none) (cond (Nat.beq t 84) (some (.pointer 87)) none))) (cond (Nat.blt t 87) (cond (Nat.blt t 86) (cond (Nat.beq t 85) (some (.func #[23, 3] #[23] false)) none) (cond (Nat.beq t 86) (some (.struct #[⟨ "L", 23, 0, false, "", "", 0⟩, ⟨ "I", 3, 1, false, "", "", 24⟩])) none)) (cond (Nat.blt t 88) (cond (Nat.beq t 87) (some (.struct #[⟨ "L", 23, 0, false, "", "", 0⟩, ⟨ "I", 3, 1, false, "", "", 24⟩])) none) (cond (Nat.beq t 88) (some (.func #[3] #[3] false)) none)))) (cond (Nat.blt t 93) (cond (Nat.blt t 91) (cond (Nat.blt t 90) (cond (Nat.beq t 89) (some (.func #[3, 3] #[36] false)) none) (cond (Nat.beq t 90) (some (.slice 94)) none)) (cond (Nat.blt t 92) (cond (Nat.beq t 91) (some (.struct #[⟨ "ID", 3, 0, false, "", "", 0⟩, ⟨ "Code", 9, 1, false, "", "", 8⟩, ⟨ "Country", 9, 2, false, "", "", 24⟩, ⟨ "Price", 3, 3, false, "", "", 40⟩, ⟨ "Obtained", 4, 4, false, "", "", 48⟩, ⟨ "Processes", 30, 5, false, "", "", 56⟩, ⟨ "Inputs", 90, 6, false, "", "", 80⟩])) none) (cond (Nat.beq t 92) (some (.struct #[⟨ "ID", 3, 0, false, "", "", 0⟩, ⟨ "Code", 9, 1, false, "", "", 8⟩, ⟨ "Country", 9, 2, false, "", "", 24⟩, ⟨ "Price", 3, 3, false, "", "", 40⟩, ⟨ "Obtained", 4, 4, false, "", "", 48⟩, ⟨ "Processes", 30, 5, false, "", "", 56⟩, ⟨ "Inputs", 90, 6, false, "", "", 80⟩])) none))) (cond (Nat.blt t 95) (cond (Nat.blt t 94) (cond (Nat.beq t 93) (some (.struct #[⟨ "Product", 3, 0, false, "", "", 0⟩, ⟨ "Value", 3, 1, false, "", "", 8⟩])) none) (cond (Nat.beq t 94) (some (.struct #[⟨ "Product", 3, 0, false, "", "", 0⟩, ⟨ "Value", 3, 1, false, "", "", 8⟩])) none)) (cond (Nat.blt t 96) (cond (Nat.beq t 95) (some (.struct #[⟨ "Code", 9, 0, false, "", "", 0⟩, ⟨ "Value", 3, 1, false, "", "", 16⟩, ⟨ "Originating", 4, 2, false, "", "", 24⟩])) none) (cond (Nat.beq t 96) (some (.struct #[⟨ "Code", 9, 0, false, "", "", 0⟩, ⟨ "Value", 3, 1, false, "", "", 16⟩, ⟨ "Originating", 4, 2, false, "", "", 24⟩])) none)))))) (cond (Nat.blt t 113) (cond (Nat.blt t 105) (cond (Nat.blt t 101) (cond (Nat.blt t 99) (cond (Nat.blt t 98) (cond (Nat.beq t 97) (some (.func #[9, 9] #[4] false)) none) (cond (Nat.beq t 98) (some (.func #[36] #[36] false)) none)) (cond (Nat.blt t 100) (cond (Nat.beq t 99) (some (.func #[30, 30] #[4] false)) none) (cond (Nat.beq t 100) (some (.func #[33, 9, 9] #[4] false)) none))) (cond (Nat.blt t 103) (cond (Nat.blt t 102) (cond (Nat.beq t 101) (some (.func #[31, 31] #[4] false)) none) (cond (Nat.beq t 102) (some (.tuple #[92, 4])) none)) (cond (Nat.blt t 104) (cond (Nat.beq t 103) (some (.func #[51, 3] #[92, 4] false)) none) (cond (Nat.beq t 104) (some (.map 54 4)) none)))) (cond (Nat.blt t 109) (cond (Nat.blt t 107) (cond (Nat.blt t 106) (cond (Nat.beq t 105) (some (.struct #[⟨ "partners", 23, 0, false, "", "customs/cumulation", 0⟩, ⟨ "set", 104, 1, false, "", "customs/cumulation", 24⟩])) none) (cond (Nat.beq t 106) (some (.struct #[⟨ "partners", 23, 0, false, "", "customs/cumulation", 0⟩, ⟨ "set", 104, 1, false, "", "customs/cumulation", 24⟩])) none)) (cond (Nat.blt t 108) (cond (Nat.beq t 107) (some (.slice 111)) none) (cond (Nat.beq t 108) (some (.tuple #[107, 30])) none))) (cond (Nat.blt t 111) (cond (Nat.blt t 110) (cond (Nat.beq t 109) (some (.func #[51, 33, 92, 106] #[107, 30] false)) none) (cond (Nat.beq t 110) (some (.interface #[("customs/cumulation.input", 112)])) none)) (cond (Nat.blt t 112) (cond (Nat.beq t 111) (some (.interface #[("customs/cumulation.input", 112)])) none) (cond (Nat.beq t 112) (some (.func #[] #[96] false)) none))))) (cond (Nat.blt t 121) (cond (Nat.blt t 117) (cond (Nat.blt t 115) (cond (Nat.blt t 114) (cond (Nat.beq t 113) (some (.struct #[⟨ "use", 96, 0, false, "", "customs/cumulation", 0⟩, ⟨ "premise", 54, 3, false, "", "customs/cumulation", 32⟩])) none) (cond (Nat.beq t 114) (some (.struct #[⟨ "use", 96, 0, false, "", "customs/cumulation", 0⟩, ⟨ "premise", 54, 3, false, "", "customs/cumulation", 32⟩])) none)) (cond (Nat.blt t 116) (cond (Nat.beq t 115) (some (.tuple #[114, 4])) none) (cond (Nat.beq t 116) (some (.func #[66, 117] #[] false)) none))) (cond (Nat.blt t 119) (cond (Nat.blt t 118) (cond (Nat.beq t 117) (some (.func #[54, 54] #[3] false)) none) (cond (Nat.beq t 118) (some (.func #[66] #[66] false)) none)) (cond (Nat.blt t 120) (cond (Nat.beq t 119) (some (.func #[30, 30] #[30] false)) none) (cond (Nat.beq t 120) (some (.tuple #[54, 4])) none)))) (cond (Nat.blt t 125) (cond (Nat.blt t 123) (cond (Nat.blt t 122) (cond (Nat.beq t 121) (some (.func #[23, 3, 66] #[54, 4] false)) none) (cond (Nat.beq t 122) (some (.int .u64)) none)) (cond (Nat.blt t 124) (cond (Nat.beq t 123) (some (.tuple #[122, 25])) none) (cond (Nat.beq t 124) (some (.func #[122, 122, 122, 3] #[122, 25] false)) none))) (cond (Nat.blt t 127) (cond (Nat.blt t 126) (cond (Nat.beq t 125) (some (.func #[54, 54] #[4] false)) none) (cond (Nat.beq t 126) (some (.tuple #[23, 4])) none)) (cond (Nat.blt t 128) (cond (Nat.beq t 127) (some (.func #[36, 45] #[23, 4] false)) none) (cond (Nat.blt t 129) (cond (Nat.beq t 128) (some (.func #[36] #[3] false)) none) (cond (Nat.beq t 129) (some (.func #[36] #[4] false)) none))))))))) (cond (Nat.blt t 195) (cond (Nat.blt t 162) (cond (Nat.blt t 146) (cond (Nat.blt t 138) (cond (Nat.blt t 134) (cond (Nat.blt t 132) (cond (Nat.blt t 131) (cond (Nat.beq t 130) (some (.func #[] #[3] false)) none) (cond (Nat.beq t 131) (some (.slice 5)) none)) (cond (Nat.blt t 133) (cond (Nat.beq t 132) (some (.func #[36, 3] #[3] false)) none) (cond (Nat.beq t 133) (some (.func #[30] #[30] false)) none))) (cond (Nat.blt t 136) (cond (Nat.blt t 135) (cond (Nat.beq t 134) (some (.func #[22, 135] #[3] false)) none) (cond (Nat.beq t 135) (some (.func #[33] #[4] false)) none)) (cond (Nat.blt t 137) (cond (Nat.beq t 136) (some (.func #[31, 31, 137] #[4] false)) none) (cond (Nat.beq t 137) (some (.func #[38, 38] #[4] false)) none)))) (cond (Nat.blt t 142) (cond (Nat.blt t 140) (cond (Nat.blt t 139) (cond (Nat.beq t 138) (some (.tuple #[3, 4])) none) (cond (Nat.beq t 139) (some (.func #[51, 3] #[3, 4] false)) none)) (cond (Nat.blt t 141) (cond (Nat.beq t 140) (some (.func #[90] #[90] false)) none) (cond (Nat.beq t 141) (some (.func #[92, 3] #[111] false)) none))) (cond (Nat.blt t 144) (cond (Nat.blt t 143) (cond (Nat.beq t 142) (some (.func #[3, 3, 3] #[3] false)) none) (cond (Nat.beq t 143) (some (.func #[66, 3, 3, 3, 117] #[] false)) none)) (cond (Nat.blt t 145) (cond (Nat.beq t 144) (some (.func #[41] #[3] false)) none) (cond (Nat.beq t 145) (some (.func #[23] #[3] true)) none))))) (cond (Nat.blt t 154) (cond (Nat.blt t 150) (cond (Nat.blt t 148) (cond (Nat.blt t 147) (cond (Nat.beq t 146) (some (.func #[30, 9] #[30] false)) none) (cond (Nat.beq t 147) (some (.func #[149, 122, 3] #[122, 25] false)) none)) (cond (Nat.blt t 149) (cond (Nat.beq t 148) (some (.struct #[⟨ "Hi", 122, 0, false, "", "", 0⟩, ⟨ "Lo", 122, 1, false, "", "", 8⟩])) none) (cond (Nat.beq t 149) (some (.struct #[⟨ "Hi", 122, 0, false, "", "", 0⟩, ⟨ "Lo", 122, 1, false, "", "", 8⟩])) none))) (cond (Nat.blt t 152) (cond (Nat.blt t 151) (cond (Nat.beq t 150) (some (.func #[122, 122] #[149] false)) none) (cond (Nat.beq t 151) (some (.interface #[("customs/rule.follow", 250), ("customs/rule.witness", 154)])) none)) (cond (Nat.blt t 153) (cond (Nat.beq t 152) (some (.interface #[("customs/rule.follow", 250), ("customs/rule.witness", 154)])) none) (cond (Nat.beq t 153) (some (.func #[36] #[152] false)) none)))) (cond (Nat.blt t 158) (cond (Nat.blt t 156) (cond (Nat.blt t 155) (cond (Nat.beq t 154) (some (.func #[45] #[23, 4] false)) none) (cond (Nat.beq t 155) (some (.func #[5] #[4] false)) none)) (cond (Nat.blt t 157) (cond (Nat.beq t 156) (some (.array 4 3)) none) (cond (Nat.beq t 157) (some (.func #[9, 9] #[9] false)) none))) (cond (Nat.blt t 160) (cond (Nat.blt t 159) (cond (Nat.beq t 158) (some (.func #[3] #[4] false)) none) (cond (Nat.beq t 159) (some (.func #[30, 9] #[3] false)) none)) (cond (Nat.blt t 161) (cond (Nat.beq t 160) (some (.func #[34, 34, 49] #[4] false)) none) (cond (Nat.beq t 161) (some (.func #[51, 3, 162] #[3, 4] false)) none)))))) (cond (Nat.blt t 178) (cond (Nat.blt t 170) (cond (Nat.blt t 166) (cond (Nat.blt t 164) (cond (Nat.blt t 163) (cond (Nat.beq t 162) (some (.func #[92, 3] #[3] false)) none) (cond (Nat.beq t 163) (some (.func #[195] #[30] true)) none)) (cond (Nat.blt t 165) (cond (Nat.beq t 164) (some (.func #[30] #[] false)) none) (cond (Nat.beq t 165) (some (.struct #[⟨ "use", 96, 0, false, "", "customs/cumulation", 0⟩])) none))) (cond (Nat.blt t 168) (cond (Nat.blt t 167) (cond (Nat.beq t 166) (some (.struct #[⟨ "use", 96, 0, false, "", "customs/cumulation", 0⟩])) none) (cond (Nat.beq t 167) (some (.func #[122, 122, 122, 168] #[122, 25] false)) none)) (cond (Nat.blt t 169) (cond (Nat.beq t 168) (some (.int .i64)) none) (cond (Nat.beq t 169) (some (.func #[66, 3, 3, 117] #[] false)) none)))) (cond (Nat.blt t 174) (cond (Nat.blt t 172) (cond (Nat.blt t 171) (cond (Nat.beq t 170) (some (.int .i64)) none) (cond (Nat.beq t 171) (some (.tuple #[3, 170])) none)) (cond (Nat.blt t 173) (cond (Nat.beq t 172) (some (.func #[66, 3, 3, 117] #[3, 170] false)) none) (cond (Nat.beq t 173) (some (.func #[66, 3, 3, 117] #[4] false)) none))) (cond (Nat.blt t 176) (cond (Nat.blt t 175) (cond (Nat.beq t 174) (some (.func #[66, 3, 3, 3, 117] #[3] false)) none) (cond (Nat.beq t 175) (some (.func #[66, 3, 3, 3, 117] #[3, 4] false)) none)) (cond (Nat.blt t 177) (cond (Nat.beq t 176) (some (.func #[177] #[3] false)) none) (cond (Nat.beq t 177) (some (.int .u32)) none))))) (cond (Nat.blt t 186) (cond (Nat.blt t 182) (cond (Nat.blt t 180) (cond (Nat.blt t 179) (cond (Nat.beq t 178) (some (.func #[122] #[3] false)) none) (cond (Nat.beq t 179) (some (.tuple #[149, 122])) none)) (cond (Nat.blt t 181) (cond (Nat.beq t 180) (some (.func #[149, 122] #[149, 122] false)) none) (cond (Nat.beq t 181) (some (.tuple #[149, 4])) none))) (cond (Nat.blt t 184) (cond (Nat.blt t 183) (cond (Nat.beq t 182) (some (.func #[149, 149] #[149, 4] false)) none) (cond (Nat.beq t 183) (some (.slice 152)) none)) (cond (Nat.blt t 185) (cond (Nat.beq t 184) (some (.slice 152)) none) (cond (Nat.beq t 185) (some (.slice 152)) none)))) (cond (Nat.blt t 190) (cond (Nat.blt t 188) (cond (Nat.blt t 187) (cond (Nat.beq t 186) (some (.struct #[⟨ "rule", 36, 0, false, "", "customs/rule", 0⟩])) none) (cond (Nat.beq t 187) (some (.struct #[⟨ "rule", 36, 0, false, "", "customs/rule", 0⟩])) none)) (cond (Nat.blt t 189) (cond (Nat.beq t 188) (some (.func #[9, 5] #[9] false)) none) (cond (Nat.beq t 189) (some (.array 256 4)) none))) (cond (Nat.blt t 192) (cond (Nat.blt t 191) (cond (Nat.beq t 190) (some (.array 256 4)) none) (cond (Nat.beq t 191) (some (.tuple #[190, 4])) none)) (cond (Nat.blt t 193) (cond (Nat.beq t 192) (some (.func #[9] #[190, 4] false)) none) (cond (Nat.blt t 194) (cond (Nat.beq t 193) (some (.func #[9, 194] #[9] false)) none) (cond (Nat.beq t 194) (some (.pointer 190)) none)))))))) (cond (Nat.blt t 228) (cond (Nat.blt t 211) (cond (Nat.blt t 203) (cond (Nat.blt t 199) (cond (Nat.blt t 197) (cond (Nat.blt t 196) (cond (Nat.beq t 195) (some (.slice 30)) none) (cond (Nat.beq t 196) (some (.func #[30, 3] #[30] false)) none)) (cond (Nat.blt t 198) (cond (Nat.beq t 197) (some (.func #[30, 3, 3, 3] #[] false)) none) (cond (Nat.beq t 198) (some (.func #[199, 122, 168] #[122, 25] false)) none))) (cond (Nat.blt t 201) (cond (Nat.blt t 200) (cond (Nat.beq t 199) (some (.struct #[⟨ "Hi", 122, 0, false, "", "", 0⟩, ⟨ "Lo", 122, 1, false, "", "", 8⟩])) none) (cond (Nat.beq t 200) (some (.func #[122, 122] #[199] false)) none)) (cond (Nat.blt t 202) (cond (Nat.beq t 201) (some (.int .u64)) none) (cond (Nat.beq t 202) (some (.func #[3] #[41] false)) none)))) (cond (Nat.blt t 207) (cond (Nat.blt t 205) (cond (Nat.blt t 204) (cond (Nat.beq t 203) (some (.func #[] #[122] false)) none) (cond (Nat.beq t 204) (some (.func #[66, 3, 205, 117] #[3] false)) none)) (cond (Nat.blt t 206) (cond (Nat.beq t 205) (some (.pointer 3)) none) (cond (Nat.beq t 206) (some (.func #[66, 3, 3, 3, 205, 117] #[3] false)) none))) (cond (Nat.blt t 209) (cond (Nat.blt t 208) (cond (Nat.beq t 207) (some (.tuple #[21, 3])) none) (cond (Nat.beq t 208) (some (.func #[9] #[21, 3] false)) none)) (cond (Nat.blt t 210) (cond (Nat.beq t 209) (some (.func #[9, 21] #[4] false)) none) (cond (Nat.beq t 210) (some (.func #[30, 3, 3] #[] false)) none))))) (cond (Nat.blt t 219) (cond (Nat.blt t 215) (cond (Nat.blt t 213) (cond (Nat.blt t 212) (cond (Nat.beq t 211) (some (.func #[30, 3, 3] #[3, 170] false)) none) (cond (Nat.beq t 212) (some (.func #[30, 3, 3] #[4] false)) none)) (cond (Nat.blt t 214) (cond (Nat.beq t 213) (some (.func #[30, 3, 3, 3] #[3] false)) none) (cond (Nat.beq t 214) (some (.func #[30, 3, 3, 3] #[3, 4] false)) none))) (cond (Nat.blt t 217) (cond (Nat.blt t 216) (cond (Nat.beq t 215) (some (.tuple #[122, 122])) none) (cond (Nat.beq t 216) (some (.func #[122, 122, 122] #[122, 122] false)) none)) (cond (Nat.blt t 218) (cond (Nat.beq t 217) (some (.func #[122, 122, 122, 168] #[4] false)) none) (cond (Nat.beq t 218) (some (.func #[122, 122] #[122, 122] false)) none)))) (cond (Nat.blt t 223) (cond (Nat.blt t 221) (cond (Nat.blt t 220) (cond (Nat.beq t 219) (some (.pointer 201)) none) (cond (Nat.beq t 220) (some (.tuple #[3, 3])) none)) (cond (Nat.blt t 222) (cond (Nat.beq t 221) (some (.func #[66, 3, 3, 205, 117] #[3, 3] false)) none) (cond (Nat.beq t 222) (some (.func #[9, 21] #[3] false)) none))) (cond (Nat.blt t 225) (cond (Nat.blt t 224) (cond (Nat.beq t 223) (some (.func #[30, 3, 205] #[3] false)) none) (cond (Nat.beq t 224) (some (.func #[30, 3, 3, 3, 205] #[3] false)) none)) (cond (Nat.blt t 226) (cond (Nat.beq t 225) (some (.interface #[("Error", 236)])) none) (cond (Nat.blt t 227) (cond (Nat.beq t 226) (some (.interface #[("Error", 236)])) none) (cond (Nat.beq t 227) (some (.array 256 5)) none))))))) (cond (Nat.blt t 244) (cond (Nat.blt t 236) (cond (Nat.blt t 232) (cond (Nat.blt t 230) (cond (Nat.blt t 229) (cond (Nat.beq t 228) (some (.struct #[⟨ "lo", 5, 0, false, "", "unicode/utf8", 0⟩, ⟨ "hi", 5, 1, false, "", "unicode/utf8", 1⟩])) none) (cond (Nat.beq t 229) (some (.struct #[⟨ "lo", 5, 0, false, "", "unicode/utf8", 0⟩, ⟨ "hi", 5, 1, false, "", "unicode/utf8", 1⟩])) none)) (cond (Nat.blt t 231) (cond (Nat.beq t 230) (some (.array 16 229)) none) (cond (Nat.beq t 231) (some (.func #[9, 5] #[3] false)) none))) (cond (Nat.blt t 234) (cond (Nat.blt t 233) (cond (Nat.beq t 232) (some (.func #[21] #[4] false)) none) (cond (Nat.beq t 233) (some (.func #[9, 9] #[3] false)) none)) (cond (Nat.blt t 235) (cond (Nat.beq t 234) (some (.func #[30, 3, 3, 205] #[3, 3] false)) none) (cond (Nat.beq t 235) (some (.pointer 259)) none)))) (cond (Nat.blt t 240) (cond (Nat.blt t 238) (cond (Nat.blt t 237) (cond (Nat.beq t 236) (some (.func #[] #[9] false)) none) (cond (Nat.beq t 237) (some (.struct #[⟨ "_interface", 17, 0, false, "", "runtime", 0⟩, ⟨ "concrete", 17, 1, false, "", "runtime", 8⟩, ⟨ "asserted", 17, 2, false, "", "runtime", 16⟩, ⟨ "missingMethod", 9, 3, false, "", "runtime", 24⟩])) none)) (cond (Nat.blt t 239) (cond (Nat.beq t 238) (some (.struct #[⟨ "_interface", 17, 0, false, "", "runtime", 0⟩, ⟨ "concrete", 17, 1, false, "", "runtime", 8⟩, ⟨ "asserted", 17, 2, false, "", "runtime", 16⟩, ⟨ "missingMethod", 9, 3, false, "", "runtime", 24⟩])) none) (cond (Nat.beq t 239) (some (.array 0 16)) none))) (cond (Nat.blt t 242) (cond (Nat.blt t 241) (cond (Nat.beq t 240) (some (.struct #[⟨ "_", 239, 0, false, "", "runtime", 0⟩])) none) (cond (Nat.beq t 241) (some (.struct #[⟨ "_", 239, 0, false, "", "runtime", 0⟩])) none)) (cond (Nat.blt t 243) (cond (Nat.beq t 242) (some (.int .u8)) none) (cond (Nat.beq t 243) (some (.int .u8)) none))))) (cond (Nat.blt t 252) (cond (Nat.blt t 248) (cond (Nat.blt t 246) (cond (Nat.blt t 245) (cond (Nat.beq t 244) (some (.func #[260, 260] #[4] false)) none) (cond (Nat.beq t 245) (some (.pointer 5)) none)) (cond (Nat.blt t 247) (cond (Nat.beq t 246) (some (.int .i32)) none) (cond (Nat.beq t 247) (some (.int .i32)) none))) (cond (Nat.blt t 250) (cond (Nat.blt t 249) (cond (Nat.beq t 248) (some (.struct #[⟨ "Size_", 12, 0, false, "", "", 0⟩, ⟨ "PtrBytes", 12, 1, false, "", "", 8⟩, ⟨ "Hash", 177, 2, false, "", "", 16⟩, ⟨ "TFlag", 242, 3, false, "", "", 20⟩, ⟨ "Align_", 5, 4, false, "", "", 21⟩, ⟨ "FieldAlign_", 5, 5, false, "", "", 22⟩, ⟨ "Kind_", 243, 6, false, "", "", 23⟩, ⟨ "Equal", 244, 7, false, "", "", 24⟩, ⟨ "GCData", 245, 8, false, "", "", 32⟩, ⟨ "Str", 246, 9, false, "", "", 40⟩, ⟨ "PtrToThis", 247, 10, false, "", "", 44⟩])) none) (cond (Nat.beq t 249) (some (.struct #[⟨ "Size_", 12, 0, false, "", "", 0⟩, ⟨ "PtrBytes", 12, 1, false, "", "", 8⟩, ⟨ "Hash", 177, 2, false, "", "", 16⟩, ⟨ "TFlag", 242, 3, false, "", "", 20⟩, ⟨ "Align_", 5, 4, false, "", "", 21⟩, ⟨ "FieldAlign_", 5, 5, false, "", "", 22⟩, ⟨ "Kind_", 243, 6, false, "", "", 23⟩, ⟨ "Equal", 244, 7, false, "", "", 24⟩, ⟨ "GCData", 245, 8, false, "", "", 32⟩, ⟨ "Str", 246, 9, false, "", "", 40⟩, ⟨ "PtrToThis", 247, 10, false, "", "", 44⟩])) none)) (cond (Nat.blt t 251) (cond (Nat.beq t 250) (some (.func #[45, 23] #[23, 4] false)) none) (cond (Nat.beq t 251) (some (.func #[252] #[23] true)) none)))) (cond (Nat.blt t 256) (cond (Nat.blt t 254) (cond (Nat.blt t 253) (cond (Nat.beq t 252) (some (.slice 23)) none) (cond (Nat.beq t 253) (some (.func #[36, 9, 9] #[4] false)) none)) (cond (Nat.blt t 255) (cond (Nat.beq t 254) (some (.func #[3, 3, 3] #[4] false)) none) (cond (Nat.beq t 255) (some (.func #[30, 81] #[4] false)) none))) (cond (Nat.blt t 258) (cond (Nat.blt t 257) (cond (Nat.beq t 256) (some (.func #[199, 199] #[3] false)) none) (cond (Nat.beq t 257) (some (.func #[30, 81] #[3] false)) none)) (cond (Nat.blt t 259) (cond (Nat.beq t 258) (some (.struct #[⟨ "s", 9, 0, false, "", "errors", 0⟩])) none) (cond (Nat.blt t 260) (cond (Nat.beq t 259) (some (.struct #[⟨ "s", 9, 0, false, "", "errors", 0⟩])) none) (cond (Nat.beq t 260) (some (.unsafePointer)) none))))))))))
theorem lf1 {t k : Nat} {D d : _} (h : (fun t d => Tryz.prog.underlying t = some d) k D) : cond (Nat.beq t k) (some D) none = some d → (fun t d => Tryz.prog.underlying t = some d) t d := lf (F := fun t d => Tryz.prog.underlying t = some d) h
theorem und_ok {t : Nat} {d : TypeDesc} : und t = some d → Tryz.prog.underlying t = some d :=
 (nd (nd (nd (nd (nd (nd (nd (nd (lf1 Tryz.underlying0) (lf1 Tryz.underlying1)) (nd (lf1 Tryz.underlying2) (lf1 Tryz.underlying3))) (nd (nd (lf1 Tryz.underlying4) (lf1 Tryz.underlying5)) (nd (lf1 Tryz.underlying6) (lf1 Tryz.underlying7)))) (nd (nd (nd (lf1 Tryz.underlying8) (lf1 Tryz.underlying9)) (nd (lf1 Tryz.underlying10) (lf1 Tryz.underlying11))) (nd (nd (lf1 Tryz.underlying12) (lf1 Tryz.underlying13)) (nd (lf1 Tryz.underlying14) (lf1 Tryz.underlying15))))) (nd (nd (nd (nd (lf1 Tryz.underlying16) (lf1 Tryz.underlying17)) (nd (lf1 Tryz.underlying18) (lf1 Tryz.underlying19))) (nd (nd (lf1 Tryz.underlying20) (lf1 Tryz.underlying21)) (nd (lf1 Tryz.underlying22) (lf1 Tryz.underlying23)))) (nd (nd (nd (lf1 Tryz.underlying24) (lf1 Tryz.underlying25)) (nd (lf1 Tryz.underlying26) (lf1 Tryz.underlying27))) (nd (nd (lf1 Tryz.underlying28) (lf1 Tryz.underlying29)) (nd (lf1 Tryz.underlying30) (lf1 Tryz.underlying31)))))) (nd (nd (nd (nd (nd (lf1 Tryz.underlying32) (lf1 Tryz.underlying33)) (nd (lf1 Tryz.underlying34) (lf1 Tryz.underlying35))) (nd (nd (lf1 Tryz.underlying36) (lf1 Tryz.underlying37)) (nd (lf1 Tryz.underlying38) (lf1 Tryz.underlying39)))) (nd (nd (nd (lf1 Tryz.underlying40) (lf1 Tryz.underlying41)) (nd (lf1 Tryz.underlying42) (lf1 Tryz.underlying43))) (nd (nd (lf1 Tryz.underlying44) (lf1 Tryz.underlying45)) (nd (lf1 Tryz.underlying46) (lf1 Tryz.underlying47))))) (nd (nd (nd (nd (lf1 Tryz.underlying48) (lf1 Tryz.underlying49)) (nd (lf1 Tryz.underlying50) (lf1 Tryz.underlying51))) (nd (nd (lf1 Tryz.underlying52) (lf1 Tryz.underlying53)) (nd (lf1 Tryz.underlying54) (lf1 Tryz.underlying55)))) (nd (nd (nd (lf1 Tryz.underlying56) (lf1 Tryz.underlying57)) (nd (lf1 Tryz.underlying58) (lf1 Tryz.underlying59))) (nd (nd (lf1 Tryz.underlying60) (lf1 Tryz.underlying61)) (nd (lf1 Tryz.underlying62) (nd (lf1 Tryz.underlying63) (lf1 Tryz.underlying64)))))))) (nd (nd (nd (nd (nd (nd (lf1 Tryz.underlying65) (lf1 Tryz.underlying66)) (nd (lf1 Tryz.underlying67) (lf1 Tryz.underlying68))) (nd (nd (lf1 Tryz.underlying69) (lf1 Tryz.underlying70)) (nd (lf1 Tryz.underlying71) (lf1 Tryz.underlying72)))) (nd (nd (nd (lf1 Tryz.underlying73) (lf1 Tryz.underlying74)) (nd (lf1 Tryz.underlying75) (lf1 Tryz.underlying76))) (nd (nd (lf1 Tryz.underlying77) (lf1 Tryz.underlying78)) (nd (lf1 Tryz.underlying79) (lf1 Tryz.underlying80))))) (nd (nd (nd (nd (lf1 Tryz.underlying81) (lf1 Tryz.underlying82)) (nd (lf1 Tryz.underlying83) (lf1 Tryz.underlying84))) (nd (nd (lf1 Tryz.underlying85) (lf1 Tryz.underlying86)) (nd (lf1 Tryz.underlying87) (lf1 Tryz.underlying88)))) (nd (nd (nd (lf1 Tryz.underlying89) (lf1 Tryz.underlying90)) (nd (lf1 Tryz.underlying91) (lf1 Tryz.underlying92))) (nd (nd (lf1 Tryz.underlying93) (lf1 Tryz.underlying94)) (nd (lf1 Tryz.underlying95) (lf1 Tryz.underlying96)))))) (nd (nd (nd (nd (nd (lf1 Tryz.underlying97) (lf1 Tryz.underlying98)) (nd (lf1 Tryz.underlying99) (lf1 Tryz.underlying100))) (nd (nd (lf1 Tryz.underlying101) (lf1 Tryz.underlying102)) (nd (lf1 Tryz.underlying103) (lf1 Tryz.underlying104)))) (nd (nd (nd (lf1 Tryz.underlying105) (lf1 Tryz.underlying106)) (nd (lf1 Tryz.underlying107) (lf1 Tryz.underlying108))) (nd (nd (lf1 Tryz.underlying109) (lf1 Tryz.underlying110)) (nd (lf1 Tryz.underlying111) (lf1 Tryz.underlying112))))) (nd (nd (nd (nd (lf1 Tryz.underlying113) (lf1 Tryz.underlying114)) (nd (lf1 Tryz.underlying115) (lf1 Tryz.underlying116))) (nd (nd (lf1 Tryz.underlying117) (lf1 Tryz.underlying118)) (nd (lf1 Tryz.underlying119) (lf1 Tryz.underlying120)))) (nd (nd (nd (lf1 Tryz.underlying121) (lf1 Tryz.underlying122)) (nd (lf1 Tryz.underlying123) (lf1 Tryz.underlying124))) (nd (nd (lf1 Tryz.underlying125) (lf1 Tryz.underlying126)) (nd (lf1 Tryz.underlying127) (nd (lf1 Tryz.underlying128) (lf1 Tryz.underlying129))))))))) (nd (nd (nd (nd (nd (nd (nd (lf1 Tryz.underlying130) (lf1 Tryz.underlying131)) (nd (lf1 Tryz.underlying132) (lf1 Tryz.underlying133))) (nd (nd (lf1 Tryz.underlying134) (lf1 Tryz.underlying135)) (nd (lf1 Tryz.underlying136) (lf1 Tryz.underlying137)))) (nd (nd (nd (lf1 Tryz.underlying138) (lf1 Tryz.underlying139)) (nd (lf1 Tryz.underlying140) (lf1 Tryz.underlying141))) (nd (nd (lf1 Tryz.underlying142) (lf1 Tryz.underlying143)) (nd (lf1 Tryz.underlying144) (lf1 Tryz.underlying145))))) (nd (nd (nd (nd (lf1 Tryz.underlying146) (lf1 Tryz.underlying147)) (nd (lf1 Tryz.underlying148) (lf1 Tryz.underlying149))) (nd (nd (lf1 Tryz.underlying150) (lf1 Tryz.underlying151)) (nd (lf1 Tryz.underlying152) (lf1 Tryz.underlying153)))) (nd (nd (nd (lf1 Tryz.underlying154) (lf1 Tryz.underlying155)) (nd (lf1 Tryz.underlying156) (lf1 Tryz.underlying157))) (nd (nd (lf1 Tryz.underlying158) (lf1 Tryz.underlying159)) (nd (lf1 Tryz.underlying160) (lf1 Tryz.underlying161)))))) (nd (nd (nd (nd (nd (lf1 Tryz.underlying162) (lf1 Tryz.underlying163)) (nd (lf1 Tryz.underlying164) (lf1 Tryz.underlying165))) (nd (nd (lf1 Tryz.underlying166) (lf1 Tryz.underlying167)) (nd (lf1 Tryz.underlying168) (lf1 Tryz.underlying169)))) (nd (nd (nd (lf1 Tryz.underlying170) (lf1 Tryz.underlying171)) (nd (lf1 Tryz.underlying172) (lf1 Tryz.underlying173))) (nd (nd (lf1 Tryz.underlying174) (lf1 Tryz.underlying175)) (nd (lf1 Tryz.underlying176) (lf1 Tryz.underlying177))))) (nd (nd (nd (nd (lf1 Tryz.underlying178) (lf1 Tryz.underlying179)) (nd (lf1 Tryz.underlying180) (lf1 Tryz.underlying181))) (nd (nd (lf1 Tryz.underlying182) (lf1 Tryz.underlying183)) (nd (lf1 Tryz.underlying184) (lf1 Tryz.underlying185)))) (nd (nd (nd (lf1 Tryz.underlying186) (lf1 Tryz.underlying187)) (nd (lf1 Tryz.underlying188) (lf1 Tryz.underlying189))) (nd (nd (lf1 Tryz.underlying190) (lf1 Tryz.underlying191)) (nd (lf1 Tryz.underlying192) (nd (lf1 Tryz.underlying193) (lf1 Tryz.underlying194)))))))) (nd (nd (nd (nd (nd (nd (lf1 Tryz.underlying195) (lf1 Tryz.underlying196)) (nd (lf1 Tryz.underlying197) (lf1 Tryz.underlying198))) (nd (nd (lf1 Tryz.underlying199) (lf1 Tryz.underlying200)) (nd (lf1 Tryz.underlying201) (lf1 Tryz.underlying202)))) (nd (nd (nd (lf1 Tryz.underlying203) (lf1 Tryz.underlying204)) (nd (lf1 Tryz.underlying205) (lf1 Tryz.underlying206))) (nd (nd (lf1 Tryz.underlying207) (lf1 Tryz.underlying208)) (nd (lf1 Tryz.underlying209) (lf1 Tryz.underlying210))))) (nd (nd (nd (nd (lf1 Tryz.underlying211) (lf1 Tryz.underlying212)) (nd (lf1 Tryz.underlying213) (lf1 Tryz.underlying214))) (nd (nd (lf1 Tryz.underlying215) (lf1 Tryz.underlying216)) (nd (lf1 Tryz.underlying217) (lf1 Tryz.underlying218)))) (nd (nd (nd (lf1 Tryz.underlying219) (lf1 Tryz.underlying220)) (nd (lf1 Tryz.underlying221) (lf1 Tryz.underlying222))) (nd (nd (lf1 Tryz.underlying223) (lf1 Tryz.underlying224)) (nd (lf1 Tryz.underlying225) (nd (lf1 Tryz.underlying226) (lf1 Tryz.underlying227))))))) (nd (nd (nd (nd (nd (lf1 Tryz.underlying228) (lf1 Tryz.underlying229)) (nd (lf1 Tryz.underlying230) (lf1 Tryz.underlying231))) (nd (nd (lf1 Tryz.underlying232) (lf1 Tryz.underlying233)) (nd (lf1 Tryz.underlying234) (lf1 Tryz.underlying235)))) (nd (nd (nd (lf1 Tryz.underlying236) (lf1 Tryz.underlying237)) (nd (lf1 Tryz.underlying238) (lf1 Tryz.underlying239))) (nd (nd (lf1 Tryz.underlying240) (lf1 Tryz.underlying241)) (nd (lf1 Tryz.underlying242) (lf1 Tryz.underlying243))))) (nd (nd (nd (nd (lf1 Tryz.underlying244) (lf1 Tryz.underlying245)) (nd (lf1 Tryz.underlying246) (lf1 Tryz.underlying247))) (nd (nd (lf1 Tryz.underlying248) (lf1 Tryz.underlying249)) (nd (lf1 Tryz.underlying250) (lf1 Tryz.underlying251)))) (nd (nd (nd (lf1 Tryz.underlying252) (lf1 Tryz.underlying253)) (nd (lf1 Tryz.underlying254) (lf1 Tryz.underlying255))) (nd (nd (lf1 Tryz.underlying256) (lf1 Tryz.underlying257)) (nd (lf1 Tryz.underlying258) (nd (lf1 Tryz.underlying259) (lf1 Tryz.underlying260))))))))))
def inf (t : Nat) : Option (Value × Nat × Nat) :=
 (cond (Nat.blt t 131) (cond (Nat.blt t 63) (cond (Nat.blt t 31) (cond (Nat.blt t 16) (cond (Nat.blt t 8) (cond (Nat.blt t 4) (cond (Nat.blt t 2) (cond (Nat.beq t 1) (some (.nilFunc, 1, 8)) none) (cond (Nat.blt t 3) (cond (Nat.beq t 2) (some (.int .i64 0, 1, 8)) none) (cond (Nat.beq t 3) (some (.int .i64 0, 1, 8)) none))) (cond (Nat.blt t 6) (cond (Nat.blt t 5) (cond (Nat.beq t 4) (some (.bool false, 1, 1)) none) (cond (Nat.beq t 5) (some (.int .u8 0, 1, 1)) none)) (cond (Nat.blt t 7) (cond (Nat.beq t 6) (some (.int .u8 0, 1, 1)) none) (cond (Nat.beq t 7) (some (.agg #[.int .i64 0, .int .i64 0, .bool false, .int .u8 0], 4, 24)) none)))) (cond (Nat.blt t 12) (cond (Nat.blt t 10) (cond (Nat.blt t 9) (cond (Nat.beq t 8) (some (.agg #[.int .i64 0, .int .i64 0, .bool false, .int .u8 0], 4, 24)) none) (cond (Nat.beq t 9) (some (.string ByteArray.empty, 1, 16)) none)) (cond (Nat.blt t 11) (cond (Nat.beq t 10) (some (.string ByteArray.empty, 1, 16)) none) (cond (Nat.beq t 11) (some (.string ByteArray.empty, 1, 16)) none))) (cond (Nat.blt t 14) (cond (Nat.blt t 13) (cond (Nat.beq t 12) (some (.int .u64 0, 1, 8)) none) (cond (Nat.beq t 13) (some (.agg #[.string ByteArray.empty, .int .u64 0], 2, 24)) none)) (cond (Nat.blt t 15) (cond (Nat.beq t 14) (some (.agg #[.string ByteArray.empty, .int .u64 0], 2, 24)) none) (cond (Nat.beq t 15) (some (.pointer none, 1, 8)) none))))) (cond (Nat.blt t 23) (cond (Nat.blt t 19) (cond (Nat.blt t 17) (cond (Nat.beq t 16) (some (.pointer none, 1, 8)) none) (cond (Nat.blt t 18) (cond (Nat.beq t 17) (some (.pointer none, 1, 8)) none) (cond (Nat.beq t 18) (some (.agg #[.pointer none], 1, 8)) none))) (cond (Nat.blt t 21) (cond (Nat.blt t 20) (cond (Nat.beq t 19) (some (.agg #[.pointer none], 1, 8)) none) (cond (Nat.beq t 20) (some (.nilIface, 1, 16)) none)) (cond (Nat.blt t 22) (cond (Nat.beq t 21) (some (.int .i32 0, 1, 4)) none) (cond (Nat.beq t 22) (some (.slice none 0 0, 1, 24)) none)))) (cond (Nat.blt t 27) (cond (Nat.blt t 25) (cond (Nat.blt t 24) (cond (Nat.beq t 23) (some (.slice none 0 0, 1, 24)) none) (cond (Nat.beq t 24) (some (.nilFunc, 1, 8)) none)) (cond (Nat.blt t 26) (cond (Nat.beq t 25) (some (.int .i64 0, 1, 8)) none) (cond (Nat.beq t 26) (some (.nilFunc, 1, 8)) none))) (cond (Nat.blt t 29) (cond (Nat.blt t 28) (cond (Nat.beq t 27) (some (.nilFunc, 1, 8)) none) (cond (Nat.beq t 28) (some (.nilFunc, 1, 8)) none)) (cond (Nat.blt t 30) (cond (Nat.beq t 29) (some (.nilFunc, 1, 8)) none) (cond (Nat.beq t 30) (some (.slice none 0 0, 1, 24)) none)))))) (cond (Nat.blt t 46) (cond (Nat.blt t 38) (cond (Nat.blt t 34) (cond (Nat.blt t 32) (cond (Nat.beq t 31) (some (.slice none 0 0, 1, 24)) none) (cond (Nat.blt t 33) (cond (Nat.beq t 32) (some (.agg #[.int .i64 0, .int .i64 0, .slice none 0 0, .slice none 0 0], 4, 64)) none) (cond (Nat.beq t 33) (some (.agg #[.int .i64 0, .int .i64 0, .slice none 0 0, .slice none 0 0], 4, 64)) none))) (cond (Nat.blt t 36) (cond (Nat.blt t 35) (cond (Nat.beq t 34) (some (.slice none 0 0, 1, 24)) none) (cond (Nat.beq t 35) (some (.agg #[.int .i64 0, .int .i64 0, .slice none 0 0, .int .i64 0, .int .i64 0, .string ByteArray.empty, .slice none 0 0], 7, 96)) none)) (cond (Nat.blt t 37) (cond (Nat.beq t 36) (some (.agg #[.int .i64 0, .int .i64 0, .slice none 0 0, .int .i64 0, .int .i64 0, .string ByteArray.empty, .slice none 0 0], 7, 96)) none) (cond (Nat.beq t 37) (some (.agg #[.string ByteArray.empty, .int .i64 0, .int .i64 0, .slice none 0 0, .int .i64 0, .int .i64 0, .string ByteArray.empty, .slice none 0 0], 8, 112)) none)))) (cond (Nat.blt t 42) (cond (Nat.blt t 40) (cond (Nat.blt t 39) (cond (Nat.beq t 38) (some (.agg #[.string ByteArray.empty, .int .i64 0, .int .i64 0, .slice none 0 0, .int .i64 0, .int .i64 0, .string ByteArray.empty, .slice none 0 0], 8, 112)) none) (cond (Nat.beq t 39) (some (.nilFunc, 1, 8)) none)) (cond (Nat.blt t 41) (cond (Nat.beq t 40) (some (.nilFunc, 1, 8)) none) (cond (Nat.beq t 41) (some (.int .u64 0, 1, 8)) none))) (cond (Nat.blt t 44) (cond (Nat.blt t 43) (cond (Nat.beq t 42) (some (.nilFunc, 1, 8)) none) (cond (Nat.beq t 43) (some (.slice none 0 0, 1, 24)) none)) (cond (Nat.blt t 45) (cond (Nat.beq t 44) (some (.agg #[.string ByteArray.empty, .int .i64 0, .bool false, .slice none 0 0, .slice none 0 0], 5, 80)) none) (cond (Nat.beq t 45) (some (.agg #[.string ByteArray.empty, .int .i64 0, .bool false, .slice none 0 0, .slice none 0 0], 5, 80)) none))))) (cond (Nat.blt t 54) (cond (Nat.blt t 50) (cond (Nat.blt t 48) (cond (Nat.beq t 46) (some (.nilFunc, 1, 8)) none) (cond (Nat.blt t 49) (cond (Nat.beq t 48) (some (.nilFunc, 1, 8)) none) (cond (Nat.beq t 49) (some (.nilFunc, 1, 8)) none))) (cond (Nat.blt t 52) (cond (Nat.blt t 51) (cond (Nat.beq t 50) (some (.nilFunc, 1, 8)) none) (cond (Nat.beq t 51) (some (.slice none 0 0, 1, 24)) none)) (cond (Nat.blt t 53) (cond (Nat.beq t 52) (some (.nilFunc, 1, 8)) none) (cond (Nat.beq t 53) (some (.agg #[.int .i64 0, .int .i64 0], 2, 16)) none)))) (cond (Nat.blt t 58) (cond (Nat.blt t 56) (cond (Nat.blt t 55) (cond (Nat.beq t 54) (some (.agg #[.int .i64 0, .int .i64 0], 2, 16)) none) (cond (Nat.beq t 55) (some (.nilFunc, 1, 8)) none)) (cond (Nat.blt t 57) (cond (Nat.beq t 56) (some (.nilFunc, 1, 8)) none) (cond (Nat.beq t 57) (some (.nilFunc, 1, 8)) none))) (cond (Nat.blt t 61) (cond (Nat.blt t 59) (cond (Nat.beq t 58) (some (.nilFunc, 1, 8)) none) (cond (Nat.beq t 59) (some (.nilFunc, 1, 8)) none)) (cond (Nat.blt t 62) (cond (Nat.beq t 61) (some (.nilFunc, 1, 8)) none) (cond (Nat.beq t 62) (some (.nilFunc, 1, 8)) none))))))) (cond (Nat.blt t 94) (cond (Nat.blt t 79) (cond (Nat.blt t 71) (cond (Nat.blt t 66) (cond (Nat.blt t 64) (cond (Nat.beq t 63) (some (.nilFunc, 1, 8)) none) (cond (Nat.blt t 65) (cond (Nat.beq t 64) (some (.nilFunc, 1, 8)) none) (cond (Nat.beq t 65) (some (.nilFunc, 1, 8)) none))) (cond (Nat.blt t 69) (cond (Nat.blt t 67) (cond (Nat.beq t 66) (some (.slice none 0 0, 1, 24)) none) (cond (Nat.beq t 67) (some (.nilFunc, 1, 8)) none)) (cond (Nat.blt t 70) (cond (Nat.beq t 69) (some (.nilFunc, 1, 8)) none) (cond (Nat.beq t 70) (some (.nilFunc, 1, 8)) none)))) (cond (Nat.blt t 75) (cond (Nat.blt t 73) (cond (Nat.blt t 72) (cond (Nat.beq t 71) (some (.nilFunc, 1, 8)) none) (cond (Nat.beq t 72) (some (.nilFunc, 1, 8)) none)) (cond (Nat.blt t 74) (cond (Nat.beq t 73) (some (.nilFunc, 1, 8)) none) (cond (Nat.beq t 74) (some (.nilFunc, 1, 8)) none))) (cond (Nat.blt t 77) (cond (Nat.blt t 76) (cond (Nat.beq t 75) (some (.nilFunc, 1, 8)) none) (cond (Nat.beq t 76) (some (.nilFunc, 1, 8)) none)) (cond (Nat.blt t 78) (cond (Nat.beq t 77) (some (.nilFunc, 1, 8)) none) (cond (Nat.beq t 78) (some (.nilFunc, 1, 8)) none))))) (cond (Nat.blt t 86) (cond (Nat.blt t 82) (cond (Nat.blt t 80) (cond (Nat.beq t 79) (some (.nilFunc, 1, 8)) none) (cond (Nat.blt t 81) (cond (Nat.beq t 80) (some (.nilFunc, 1, 8)) none) (cond (Nat.beq t 81) (some (.nilFunc, 1, 8)) none))) (cond (Nat.blt t 84) (cond (Nat.blt t 83) (cond (Nat.beq t 82) (some (.nilFunc, 1, 8)) none) (cond (Nat.beq t 83) (some (.nilFunc, 1, 8)) none)) (cond (Nat.blt t 85) (cond (Nat.beq t 84) (some (.pointer none, 1, 8)) none) (cond (Nat.beq t 85) (some (.nilFunc, 1, 8)) none)))) (cond (Nat.blt t 90) (cond (Nat.blt t 88) (cond (Nat.blt t 87) (cond (Nat.beq t 86) (some (.agg #[.slice none 0 0, .int .i64 0], 2, 32)) none) (cond (Nat.beq t 87) (some (.agg #[.slice none 0 0, .int .i64 0], 2, 32)) none)) (cond (Nat.blt t 89) (cond (Nat.beq t 88) (some (.nilFunc, 1, 8)) none) (cond (Nat.beq t 89) (some (.nilFunc, 1, 8)) none))) (cond (Nat.blt t 92) (cond (Nat.blt t 91) (cond (Nat.beq t 90) (some (.slice none 0 0, 1, 24)) none) (cond (Nat.beq t 91) (some (.agg #[.int .i64 0, .string ByteArray.empty, .string ByteArray.empty, .int .i64 0, .bool false, .slice none 0 0, .slice none 0 0], 7, 104)) none)) (cond (Nat.blt t 93) (cond (Nat.beq t 92) (some (.agg #[.int .i64 0, .string ByteArray.empty, .string ByteArray.empty, .int .i64 0, .bool false, .slice none 0 0, .slice none 0 0], 7, 104)) none) (cond (Nat.beq t 93) (some (.agg #[.int .i64 0, .int .i64 0], 2, 16)) none)))))) (cond (Nat.blt t 111) (cond (Nat.blt t 101) (cond (Nat.blt t 97) (cond (Nat.blt t 95) (cond (Nat.beq t 94) (some (.agg #[.int .i64 0, .int .i64 0], 2, 16)) none) (cond (Nat.blt t 96) (cond (Nat.beq t 95) (some (.agg #[.string ByteArray.empty, .int .i64 0, .bool false], 3, 32)) none) (cond (Nat.beq t 96) (some (.agg #[.string ByteArray.empty, .int .i64 0, .bool false], 3, 32)) none))) (cond (Nat.blt t 99) (cond (Nat.blt t 98) (cond (Nat.beq t 97) (some (.nilFunc, 1, 8)) none) (cond (Nat.beq t 98) (some (.nilFunc, 1, 8)) none)) (cond (Nat.blt t 100) (cond (Nat.beq t 99) (some (.nilFunc, 1, 8)) none) (cond (Nat.beq t 100) (some (.nilFunc, 1, 8)) none)))) (cond (Nat.blt t 106) (cond (Nat.blt t 104) (cond (Nat.blt t 103) (cond (Nat.beq t 101) (some (.nilFunc, 1, 8)) none) (cond (Nat.beq t 103) (some (.nilFunc, 1, 8)) none)) (cond (Nat.blt t 105) (cond (Nat.beq t 104) (some (.map none, 1, 8)) none) (cond (Nat.beq t 105) (some (.agg #[.slice none 0 0, .map none], 2, 32)) none))) (cond (Nat.blt t 109) (cond (Nat.blt t 107) (cond (Nat.beq t 106) (some (.agg #[.slice none 0 0, .map none], 2, 32)) none) (cond (Nat.beq t 107) (some (.slice none 0 0, 1, 24)) none)) (cond (Nat.blt t 110) (cond (Nat.beq t 109) (some (.nilFunc, 1, 8)) none) (cond (Nat.beq t 110) (some (.nilIface, 1, 16)) none))))) (cond (Nat.blt t 121) (cond (Nat.blt t 116) (cond (Nat.blt t 113) (cond (Nat.blt t 112) (cond (Nat.beq t 111) (some (.nilIface, 1, 16)) none) (cond (Nat.beq t 112) (some (.nilFunc, 1, 8)) none)) (cond (Nat.blt t 114) (cond (Nat.beq t 113) (some (.agg #[.string ByteArray.empty, .int .i64 0, .bool false, .int .i64 0, .int .i64 0], 5, 48)) none) (cond (Nat.beq t 114) (some (.agg #[.string ByteArray.empty, .int .i64 0, .bool false, .int .i64 0, .int .i64 0], 5, 48)) none))) (cond (Nat.blt t 118) (cond (Nat.blt t 117) (cond (Nat.beq t 116) (some (.nilFunc, 1, 8)) none) (cond (Nat.beq t 117) (some (.nilFunc, 1, 8)) none)) (cond (Nat.blt t 119) (cond (Nat.beq t 118) (some (.nilFunc, 1, 8)) none) (cond (Nat.beq t 119) (some (.nilFunc, 1, 8)) none)))) (cond (Nat.blt t 127) (cond (Nat.blt t 124) (cond (Nat.blt t 122) (cond (Nat.beq t 121) (some (.nilFunc, 1, 8)) none) (cond (Nat.beq t 122) (some (.int .u64 0, 1, 8)) none)) (cond (Nat.blt t 125) (cond (Nat.beq t 124) (some (.nilFunc, 1, 8)) none) (cond (Nat.beq t 125) (some (.nilFunc, 1, 8)) none))) (cond (Nat.blt t 129) (cond (Nat.blt t 128) (cond (Nat.beq t 127) (some (.nilFunc, 1, 8)) none) (cond (Nat.beq t 128) (some (.nilFunc, 1, 8)) none)) (cond (Nat.blt t 130) (cond (Nat.beq t 129) (some (.nilFunc, 1, 8)) none) (cond (Nat.beq t 130) (some (.nilFunc, 1, 8)) none)))))))) (cond (Nat.blt t 197) (cond (Nat.blt t 162) (cond (Nat.blt t 147) (cond (Nat.blt t 139) (cond (Nat.blt t 134) (cond (Nat.blt t 132) (cond (Nat.beq t 131) (some (.slice none 0 0, 1, 24)) none) (cond (Nat.blt t 133) (cond (Nat.beq t 132) (some (.nilFunc, 1, 8)) none) (cond (Nat.beq t 133) (some (.nilFunc, 1, 8)) none))) (cond (Nat.blt t 136) (cond (Nat.blt t 135) (cond (Nat.beq t 134) (some (.nilFunc, 1, 8)) none) (cond (Nat.beq t 135) (some (.nilFunc, 1, 8)) none)) (cond (Nat.blt t 137) (cond (Nat.beq t 136) (some (.nilFunc, 1, 8)) none) (cond (Nat.beq t 137) (some (.nilFunc, 1, 8)) none)))) (cond (Nat.blt t 143) (cond (Nat.blt t 141) (cond (Nat.blt t 140) (cond (Nat.beq t 139) (some (.nilFunc, 1, 8)) none) (cond (Nat.beq t 140) (some (.nilFunc, 1, 8)) none)) (cond (Nat.blt t 142) (cond (Nat.beq t 141) (some (.nilFunc, 1, 8)) none) (cond (Nat.beq t 142) (some (.nilFunc, 1, 8)) none))) (cond (Nat.blt t 145) (cond (Nat.blt t 144) (cond (Nat.beq t 143) (some (.nilFunc, 1, 8)) none) (cond (Nat.beq t 144) (some (.nilFunc, 1, 8)) none)) (cond (Nat.blt t 146) (cond (Nat.beq t 145) (some (.nilFunc, 1, 8)) none) (cond (Nat.beq t 146) (some (.nilFunc, 1, 8)) none))))) (cond (Nat.blt t 154) (cond (Nat.blt t 150) (cond (Nat.blt t 148) (cond (Nat.beq t 147) (some (.nilFunc, 1, 8)) none) (cond (Nat.blt t 149) (cond (Nat.beq t 148) (some (.agg #[.int .u64 0, .int .u64 0], 2, 16)) none) (cond (Nat.beq t 149) (some (.agg #[.int .u64 0, .int .u64 0], 2, 16)) none))) (cond (Nat.blt t 152) (cond (Nat.blt t 151) (cond (Nat.beq t 150) (some (.nilFunc, 1, 8)) none) (cond (Nat.beq t 151) (some (.nilIface, 1, 16)) none)) (cond (Nat.blt t 153) (cond (Nat.beq t 152) (some (.nilIface, 1, 16)) none) (cond (Nat.beq t 153) (some (.nilFunc, 1, 8)) none)))) (cond (Nat.blt t 158) (cond (Nat.blt t 156) (cond (Nat.blt t 155) (cond (Nat.beq t 154) (some (.nilFunc, 1, 8)) none) (cond (Nat.beq t 155) (some (.nilFunc, 1, 8)) none)) (cond (Nat.blt t 157) (cond (Nat.beq t 156) (some (.agg #[.int .i64 0, .int .i64 0, .int .i64 0, .int .i64 0], 4, 32)) none) (cond (Nat.beq t 157) (some (.nilFunc, 1, 8)) none))) (cond (Nat.blt t 160) (cond (Nat.blt t 159) (cond (Nat.beq t 158) (some (.nilFunc, 1, 8)) none) (cond (Nat.beq t 159) (some (.nilFunc, 1, 8)) none)) (cond (Nat.blt t 161) (cond (Nat.beq t 160) (some (.nilFunc, 1, 8)) none) (cond (Nat.beq t 161) (some (.nilFunc, 1, 8)) none)))))) (cond (Nat.blt t 178) (cond (Nat.blt t 169) (cond (Nat.blt t 165) (cond (Nat.blt t 163) (cond (Nat.beq t 162) (some (.nilFunc, 1, 8)) none) (cond (Nat.blt t 164) (cond (Nat.beq t 163) (some (.nilFunc, 1, 8)) none) (cond (Nat.beq t 164) (some (.nilFunc, 1, 8)) none))) (cond (Nat.blt t 167) (cond (Nat.blt t 166) (cond (Nat.beq t 165) (some (.agg #[.string ByteArray.empty, .int .i64 0, .bool false], 3, 32)) none) (cond (Nat.beq t 166) (some (.agg #[.string ByteArray.empty, .int .i64 0, .bool false], 3, 32)) none)) (cond (Nat.blt t 168) (cond (Nat.beq t 167) (some (.nilFunc, 1, 8)) none) (cond (Nat.beq t 168) (some (.int .i64 0, 1, 8)) none)))) (cond (Nat.blt t 174) (cond (Nat.blt t 172) (cond (Nat.blt t 170) (cond (Nat.beq t 169) (some (.nilFunc, 1, 8)) none) (cond (Nat.beq t 170) (some (.int .i64 0, 1, 8)) none)) (cond (Nat.blt t 173) (cond (Nat.beq t 172) (some (.nilFunc, 1, 8)) none) (cond (Nat.beq t 173) (some (.nilFunc, 1, 8)) none))) (cond (Nat.blt t 176) (cond (Nat.blt t 175) (cond (Nat.beq t 174) (some (.nilFunc, 1, 8)) none) (cond (Nat.beq t 175) (some (.nilFunc, 1, 8)) none)) (cond (Nat.blt t 177) (cond (Nat.beq t 176) (some (.nilFunc, 1, 8)) none) (cond (Nat.beq t 177) (some (.int .u32 0, 1, 4)) none))))) (cond (Nat.blt t 188) (cond (Nat.blt t 184) (cond (Nat.blt t 182) (cond (Nat.blt t 180) (cond (Nat.beq t 178) (some (.nilFunc, 1, 8)) none) (cond (Nat.beq t 180) (some (.nilFunc, 1, 8)) none)) (cond (Nat.blt t 183) (cond (Nat.beq t 182) (some (.nilFunc, 1, 8)) none) (cond (Nat.beq t 183) (some (.slice none 0 0, 1, 24)) none))) (cond (Nat.blt t 186) (cond (Nat.blt t 185) (cond (Nat.beq t 184) (some (.slice none 0 0, 1, 24)) none) (cond (Nat.beq t 185) (some (.slice none 0 0, 1, 24)) none)) (cond (Nat.blt t 187) (cond (Nat.beq t 186) (some (.agg #[.int .i64 0, .int .i64 0, .slice none 0 0, .int .i64 0, .int .i64 0, .string ByteArray.empty, .slice none 0 0], 7, 96)) none) (cond (Nat.beq t 187) (some (.agg #[.int .i64 0, .int .i64 0, .slice none 0 0, .int .i64 0, .int .i64 0, .string ByteArray.empty, .slice none 0 0], 7, 96)) none)))) (cond (Nat.blt t 193) (cond (Nat.blt t 190) (cond (Nat.blt t 189) (cond (Nat.beq t 188) (some (.nilFunc, 1, 8)) none) (cond (Nat.beq t 189) (some (.agg (List.replicate 256 (.bool false)).toArray, 256, 256)) none)) (cond (Nat.blt t 192) (cond (Nat.beq t 190) (some (.agg (List.replicate 256 (.bool false)).toArray, 256, 256)) none) (cond (Nat.beq t 192) (some (.nilFunc, 1, 8)) none))) (cond (Nat.blt t 195) (cond (Nat.blt t 194) (cond (Nat.beq t 193) (some (.nilFunc, 1, 8)) none) (cond (Nat.beq t 194) (some (.pointer none, 1, 8)) none)) (cond (Nat.blt t 196) (cond (Nat.beq t 195) (some (.slice none 0 0, 1, 24)) none) (cond (Nat.beq t 196) (some (.nilFunc, 1, 8)) none))))))) (cond (Nat.blt t 230) (cond (Nat.blt t 213) (cond (Nat.blt t 204) (cond (Nat.blt t 200) (cond (Nat.blt t 198) (cond (Nat.beq t 197) (some (.nilFunc, 1, 8)) none) (cond (Nat.blt t 199) (cond (Nat.beq t 198) (some (.nilFunc, 1, 8)) none) (cond (Nat.beq t 199) (some (.agg #[.int .u64 0, .int .u64 0], 2, 16)) none))) (cond (Nat.blt t 202) (cond (Nat.blt t 201) (cond (Nat.beq t 200) (some (.nilFunc, 1, 8)) none) (cond (Nat.beq t 201) (some (.int .u64 0, 1, 8)) none)) (cond (Nat.blt t 203) (cond (Nat.beq t 202) (some (.nilFunc, 1, 8)) none) (cond (Nat.beq t 203) (some (.nilFunc, 1, 8)) none)))) (cond (Nat.blt t 209) (cond (Nat.blt t 206) (cond (Nat.blt t 205) (cond (Nat.beq t 204) (some (.nilFunc, 1, 8)) none) (cond (Nat.beq t 205) (some (.pointer none, 1, 8)) none)) (cond (Nat.blt t 208) (cond (Nat.beq t 206) (some (.nilFunc, 1, 8)) none) (cond (Nat.beq t 208) (some (.nilFunc, 1, 8)) none))) (cond (Nat.blt t 211) (cond (Nat.blt t 210) (cond (Nat.beq t 209) (some (.nilFunc, 1, 8)) none) (cond (Nat.beq t 210) (some (.nilFunc, 1, 8)) none)) (cond (Nat.blt t 212) (cond (Nat.beq t 211) (some (.nilFunc, 1, 8)) none) (cond (Nat.beq t 212) (some (.nilFunc, 1, 8)) none))))) (cond (Nat.blt t 222) (cond (Nat.blt t 217) (cond (Nat.blt t 214) (cond (Nat.beq t 213) (some (.nilFunc, 1, 8)) none) (cond (Nat.blt t 216) (cond (Nat.beq t 214) (some (.nilFunc, 1, 8)) none) (cond (Nat.beq t 216) (some (.nilFunc, 1, 8)) none))) (cond (Nat.blt t 219) (cond (Nat.blt t 218) (cond (Nat.beq t 217) (some (.nilFunc, 1, 8)) none) (cond (Nat.beq t 218) (some (.nilFunc, 1, 8)) none)) (cond (Nat.blt t 221) (cond (Nat.beq t 219) (some (.pointer none, 1, 8)) none) (cond (Nat.beq t 221) (some (.nilFunc, 1, 8)) none)))) (cond (Nat.blt t 226) (cond (Nat.blt t 224) (cond (Nat.blt t 223) (cond (Nat.beq t 222) (some (.nilFunc, 1, 8)) none) (cond (Nat.beq t 223) (some (.nilFunc, 1, 8)) none)) (cond (Nat.blt t 225) (cond (Nat.beq t 224) (some (.nilFunc, 1, 8)) none) (cond (Nat.beq t 225) (some (.nilIface, 1, 16)) none))) (cond (Nat.blt t 228) (cond (Nat.blt t 227) (cond (Nat.beq t 226) (some (.nilIface, 1, 16)) none) (cond (Nat.beq t 227) (some (.agg (List.replicate 256 (.int .u8 0)).toArray, 256, 256)) none)) (cond (Nat.blt t 229) (cond (Nat.beq t 228) (some (.agg #[.int .u8 0, .int .u8 0], 2, 2)) none) (cond (Nat.beq t 229) (some (.agg #[.int .u8 0, .int .u8 0], 2, 2)) none)))))) (cond (Nat.blt t 245) (cond (Nat.blt t 237) (cond (Nat.blt t 233) (cond (Nat.blt t 231) (cond (Nat.beq t 230) (some (.agg #[.int .u8 0, .int .u8 0, .int .u8 0, .int .u8 0, .int .u8 0, .int .u8 0, .int .u8 0, .int .u8 0, .int .u8 0, .int .u8 0, .int .u8 0, .int .u8 0, .int .u8 0, .int .u8 0, .int .u8 0, .int .u8 0, .int .u8 0, .int .u8 0, .int .u8 0, .int .u8 0, .int .u8 0, .int .u8 0, .int .u8 0, .int .u8 0, .int .u8 0, .int .u8 0, .int .u8 0, .int .u8 0, .int .u8 0, .int .u8 0, .int .u8 0, .int .u8 0], 32, 32)) none) (cond (Nat.blt t 232) (cond (Nat.beq t 231) (some (.nilFunc, 1, 8)) none) (cond (Nat.beq t 232) (some (.nilFunc, 1, 8)) none))) (cond (Nat.blt t 235) (cond (Nat.blt t 234) (cond (Nat.beq t 233) (some (.nilFunc, 1, 8)) none) (cond (Nat.beq t 234) (some (.nilFunc, 1, 8)) none)) (cond (Nat.blt t 236) (cond (Nat.beq t 235) (some (.pointer none, 1, 8)) none) (cond (Nat.beq t 236) (some (.nilFunc, 1, 8)) none)))) (cond (Nat.blt t 241) (cond (Nat.blt t 239) (cond (Nat.blt t 238) (cond (Nat.beq t 237) (some (.agg #[.pointer none, .pointer none, .pointer none, .string ByteArray.empty], 4, 40)) none) (cond (Nat.beq t 238) (some (.agg #[.pointer none, .pointer none, .pointer none, .string ByteArray.empty], 4, 40)) none)) (cond (Nat.blt t 240) (cond (Nat.beq t 239) (some (.agg #[], 0, 0)) none) (cond (Nat.beq t 240) (some (.agg #[], 0, 0)) none))) (cond (Nat.blt t 243) (cond (Nat.blt t 242) (cond (Nat.beq t 241) (some (.agg #[], 0, 0)) none) (cond (Nat.beq t 242) (some (.int .u8 0, 1, 1)) none)) (cond (Nat.blt t 244) (cond (Nat.beq t 243) (some (.int .u8 0, 1, 1)) none) (cond (Nat.beq t 244) (some (.nilFunc, 1, 8)) none))))) (cond (Nat.blt t 253) (cond (Nat.blt t 249) (cond (Nat.blt t 247) (cond (Nat.blt t 246) (cond (Nat.beq t 245) (some (.pointer none, 1, 8)) none) (cond (Nat.beq t 246) (some (.int .i32 0, 1, 4)) none)) (cond (Nat.blt t 248) (cond (Nat.beq t 247) (some (.int .i32 0, 1, 4)) none) (cond (Nat.beq t 248) (some (.agg #[.int .u64 0, .int .u64 0, .int .u32 0, .int .u8 0, .int .u8 0, .int .u8 0, .int .u8 0, .nilFunc, .pointer none, .int .i32 0, .int .i32 0], 11, 48)) none))) (cond (Nat.blt t 251) (cond (Nat.blt t 250) (cond (Nat.beq t 249) (some (.agg #[.int .u64 0, .int .u64 0, .int .u32 0, .int .u8 0, .int .u8 0, .int .u8 0, .int .u8 0, .nilFunc, .pointer none, .int .i32 0, .int .i32 0], 11, 48)) none) (cond (Nat.beq t 250) (some (.nilFunc, 1, 8)) none)) (cond (Nat.blt t 252) (cond (Nat.beq t 251) (some (.nilFunc, 1, 8)) none) (cond (Nat.beq t 252) (some (.slice none 0 0, 1, 24)) none)))) (cond (Nat.blt t 257) (cond (Nat.blt t 255) (cond (Nat.blt t 254) (cond (Nat.beq t 253) (some (.nilFunc, 1, 8)) none) (cond (Nat.beq t 254) (some (.nilFunc, 1, 8)) none)) (cond (Nat.blt t 256) (cond (Nat.beq t 255) (some (.nilFunc, 1, 8)) none) (cond (Nat.beq t 256) (some (.nilFunc, 1, 8)) none))) (cond (Nat.blt t 259) (cond (Nat.blt t 258) (cond (Nat.beq t 257) (some (.nilFunc, 1, 8)) none) (cond (Nat.beq t 258) (some (.agg #[.string ByteArray.empty], 1, 16)) none)) (cond (Nat.blt t 260) (cond (Nat.beq t 259) (some (.agg #[.string ByteArray.empty], 1, 16)) none) (cond (Nat.beq t 260) (some (.pointer none, 1, 8)) none)))))))))
theorem inf1 : (Tryz.prog.info? 1).map (fun i => (i.zero, i.size, i.bytes)) = some (some (.nilFunc), 1, 8) := by kernel_rfl
theorem inf2 : (Tryz.prog.info? 2).map (fun i => (i.zero, i.size, i.bytes)) = some (some (.int .i64 0), 1, 8) := by kernel_rfl
theorem inf3 : (Tryz.prog.info? 3).map (fun i => (i.zero, i.size, i.bytes)) = some (some (.int .i64 0), 1, 8) := by kernel_rfl
theorem inf4 : (Tryz.prog.info? 4).map (fun i => (i.zero, i.size, i.bytes)) = some (some (.bool false), 1, 1) := by kernel_rfl
theorem inf5 : (Tryz.prog.info? 5).map (fun i => (i.zero, i.size, i.bytes)) = some (some (.int .u8 0), 1, 1) := by kernel_rfl
theorem inf6 : (Tryz.prog.info? 6).map (fun i => (i.zero, i.size, i.bytes)) = some (some (.int .u8 0), 1, 1) := by kernel_rfl
theorem inf7 : (Tryz.prog.info? 7).map (fun i => (i.zero, i.size, i.bytes)) = some (some (.agg #[.int .i64 0, .int .i64 0, .bool false, .int .u8 0]), 4, 24) := by kernel_rfl
theorem inf8 : (Tryz.prog.info? 8).map (fun i => (i.zero, i.size, i.bytes)) = some (some (.agg #[.int .i64 0, .int .i64 0, .bool false, .int .u8 0]), 4, 24) := by kernel_rfl
theorem inf9 : (Tryz.prog.info? 9).map (fun i => (i.zero, i.size, i.bytes)) = some (some (.string ByteArray.empty), 1, 16) := by kernel_rfl
theorem inf10 : (Tryz.prog.info? 10).map (fun i => (i.zero, i.size, i.bytes)) = some (some (.string ByteArray.empty), 1, 16) := by kernel_rfl
theorem inf11 : (Tryz.prog.info? 11).map (fun i => (i.zero, i.size, i.bytes)) = some (some (.string ByteArray.empty), 1, 16) := by kernel_rfl
theorem inf12 : (Tryz.prog.info? 12).map (fun i => (i.zero, i.size, i.bytes)) = some (some (.int .u64 0), 1, 8) := by kernel_rfl
theorem inf13 : (Tryz.prog.info? 13).map (fun i => (i.zero, i.size, i.bytes)) = some (some (.agg #[.string ByteArray.empty, .int .u64 0]), 2, 24) := by kernel_rfl
theorem inf14 : (Tryz.prog.info? 14).map (fun i => (i.zero, i.size, i.bytes)) = some (some (.agg #[.string ByteArray.empty, .int .u64 0]), 2, 24) := by kernel_rfl
theorem inf15 : (Tryz.prog.info? 15).map (fun i => (i.zero, i.size, i.bytes)) = some (some (.pointer none), 1, 8) := by kernel_rfl
theorem inf16 : (Tryz.prog.info? 16).map (fun i => (i.zero, i.size, i.bytes)) = some (some (.pointer none), 1, 8) := by kernel_rfl
theorem inf17 : (Tryz.prog.info? 17).map (fun i => (i.zero, i.size, i.bytes)) = some (some (.pointer none), 1, 8) := by kernel_rfl
theorem inf18 : (Tryz.prog.info? 18).map (fun i => (i.zero, i.size, i.bytes)) = some (some (.agg #[.pointer none]), 1, 8) := by kernel_rfl
theorem inf19 : (Tryz.prog.info? 19).map (fun i => (i.zero, i.size, i.bytes)) = some (some (.agg #[.pointer none]), 1, 8) := by kernel_rfl
theorem inf20 : (Tryz.prog.info? 20).map (fun i => (i.zero, i.size, i.bytes)) = some (some (.nilIface), 1, 16) := by kernel_rfl
theorem inf21 : (Tryz.prog.info? 21).map (fun i => (i.zero, i.size, i.bytes)) = some (some (.int .i32 0), 1, 4) := by kernel_rfl
theorem inf22 : (Tryz.prog.info? 22).map (fun i => (i.zero, i.size, i.bytes)) = some (some (.slice none 0 0), 1, 24) := by kernel_rfl
theorem inf23 : (Tryz.prog.info? 23).map (fun i => (i.zero, i.size, i.bytes)) = some (some (.slice none 0 0), 1, 24) := by kernel_rfl
theorem inf24 : (Tryz.prog.info? 24).map (fun i => (i.zero, i.size, i.bytes)) = some (some (.nilFunc), 1, 8) := by kernel_rfl
theorem inf25 : (Tryz.prog.info? 25).map (fun i => (i.zero, i.size, i.bytes)) = some (some (.int .i64 0), 1, 8) := by kernel_rfl
theorem inf26 : (Tryz.prog.info? 26).map (fun i => (i.zero, i.size, i.bytes)) = some (some (.nilFunc), 1, 8) := by kernel_rfl
theorem inf27 : (Tryz.prog.info? 27).map (fun i => (i.zero, i.size, i.bytes)) = some (some (.nilFunc), 1, 8) := by kernel_rfl
theorem inf28 : (Tryz.prog.info? 28).map (fun i => (i.zero, i.size, i.bytes)) = some (some (.nilFunc), 1, 8) := by kernel_rfl
theorem inf29 : (Tryz.prog.info? 29).map (fun i => (i.zero, i.size, i.bytes)) = some (some (.nilFunc), 1, 8) := by kernel_rfl
theorem inf30 : (Tryz.prog.info? 30).map (fun i => (i.zero, i.size, i.bytes)) = some (some (.slice none 0 0), 1, 24) := by kernel_rfl
theorem inf31 : (Tryz.prog.info? 31).map (fun i => (i.zero, i.size, i.bytes)) = some (some (.slice none 0 0), 1, 24) := by kernel_rfl
theorem inf32 : (Tryz.prog.info? 32).map (fun i => (i.zero, i.size, i.bytes)) = some (some (.agg #[.int .i64 0, .int .i64 0, .slice none 0 0, .slice none 0 0]), 4, 64) := by kernel_rfl
theorem inf33 : (Tryz.prog.info? 33).map (fun i => (i.zero, i.size, i.bytes)) = some (some (.agg #[.int .i64 0, .int .i64 0, .slice none 0 0, .slice none 0 0]), 4, 64) := by kernel_rfl
theorem inf34 : (Tryz.prog.info? 34).map (fun i => (i.zero, i.size, i.bytes)) = some (some (.slice none 0 0), 1, 24) := by kernel_rfl
theorem inf35 : (Tryz.prog.info? 35).map (fun i => (i.zero, i.size, i.bytes)) = some (some (.agg #[.int .i64 0, .int .i64 0, .slice none 0 0, .int .i64 0, .int .i64 0, .string ByteArray.empty, .slice none 0 0]), 7, 96) := by kernel_rfl
theorem inf36 : (Tryz.prog.info? 36).map (fun i => (i.zero, i.size, i.bytes)) = some (some (.agg #[.int .i64 0, .int .i64 0, .slice none 0 0, .int .i64 0, .int .i64 0, .string ByteArray.empty, .slice none 0 0]), 7, 96) := by kernel_rfl
theorem inf37 : (Tryz.prog.info? 37).map (fun i => (i.zero, i.size, i.bytes)) = some (some (.agg #[.string ByteArray.empty, .int .i64 0, .int .i64 0, .slice none 0 0, .int .i64 0, .int .i64 0, .string ByteArray.empty, .slice none 0 0]), 8, 112) := by kernel_rfl
theorem inf38 : (Tryz.prog.info? 38).map (fun i => (i.zero, i.size, i.bytes)) = some (some (.agg #[.string ByteArray.empty, .int .i64 0, .int .i64 0, .slice none 0 0, .int .i64 0, .int .i64 0, .string ByteArray.empty, .slice none 0 0]), 8, 112) := by kernel_rfl
theorem inf39 : (Tryz.prog.info? 39).map (fun i => (i.zero, i.size, i.bytes)) = some (some (.nilFunc), 1, 8) := by kernel_rfl
theorem inf40 : (Tryz.prog.info? 40).map (fun i => (i.zero, i.size, i.bytes)) = some (some (.nilFunc), 1, 8) := by kernel_rfl
theorem inf41 : (Tryz.prog.info? 41).map (fun i => (i.zero, i.size, i.bytes)) = some (some (.int .u64 0), 1, 8) := by kernel_rfl
theorem inf42 : (Tryz.prog.info? 42).map (fun i => (i.zero, i.size, i.bytes)) = some (some (.nilFunc), 1, 8) := by kernel_rfl
theorem inf43 : (Tryz.prog.info? 43).map (fun i => (i.zero, i.size, i.bytes)) = some (some (.slice none 0 0), 1, 24) := by kernel_rfl
theorem inf44 : (Tryz.prog.info? 44).map (fun i => (i.zero, i.size, i.bytes)) = some (some (.agg #[.string ByteArray.empty, .int .i64 0, .bool false, .slice none 0 0, .slice none 0 0]), 5, 80) := by kernel_rfl
theorem inf45 : (Tryz.prog.info? 45).map (fun i => (i.zero, i.size, i.bytes)) = some (some (.agg #[.string ByteArray.empty, .int .i64 0, .bool false, .slice none 0 0, .slice none 0 0]), 5, 80) := by kernel_rfl
theorem inf46 : (Tryz.prog.info? 46).map (fun i => (i.zero, i.size, i.bytes)) = some (some (.nilFunc), 1, 8) := by kernel_rfl
theorem inf48 : (Tryz.prog.info? 48).map (fun i => (i.zero, i.size, i.bytes)) = some (some (.nilFunc), 1, 8) := by kernel_rfl
theorem inf49 : (Tryz.prog.info? 49).map (fun i => (i.zero, i.size, i.bytes)) = some (some (.nilFunc), 1, 8) := by kernel_rfl
theorem inf50 : (Tryz.prog.info? 50).map (fun i => (i.zero, i.size, i.bytes)) = some (some (.nilFunc), 1, 8) := by kernel_rfl
theorem inf51 : (Tryz.prog.info? 51).map (fun i => (i.zero, i.size, i.bytes)) = some (some (.slice none 0 0), 1, 24) := by kernel_rfl
theorem inf52 : (Tryz.prog.info? 52).map (fun i => (i.zero, i.size, i.bytes)) = some (some (.nilFunc), 1, 8) := by kernel_rfl
theorem inf53 : (Tryz.prog.info? 53).map (fun i => (i.zero, i.size, i.bytes)) = some (some (.agg #[.int .i64 0, .int .i64 0]), 2, 16) := by kernel_rfl
theorem inf54 : (Tryz.prog.info? 54).map (fun i => (i.zero, i.size, i.bytes)) = some (some (.agg #[.int .i64 0, .int .i64 0]), 2, 16) := by kernel_rfl
theorem inf55 : (Tryz.prog.info? 55).map (fun i => (i.zero, i.size, i.bytes)) = some (some (.nilFunc), 1, 8) := by kernel_rfl
theorem inf56 : (Tryz.prog.info? 56).map (fun i => (i.zero, i.size, i.bytes)) = some (some (.nilFunc), 1, 8) := by kernel_rfl
theorem inf57 : (Tryz.prog.info? 57).map (fun i => (i.zero, i.size, i.bytes)) = some (some (.nilFunc), 1, 8) := by kernel_rfl
theorem inf58 : (Tryz.prog.info? 58).map (fun i => (i.zero, i.size, i.bytes)) = some (some (.nilFunc), 1, 8) := by kernel_rfl
theorem inf59 : (Tryz.prog.info? 59).map (fun i => (i.zero, i.size, i.bytes)) = some (some (.nilFunc), 1, 8) := by kernel_rfl
theorem inf61 : (Tryz.prog.info? 61).map (fun i => (i.zero, i.size, i.bytes)) = some (some (.nilFunc), 1, 8) := by kernel_rfl
theorem inf62 : (Tryz.prog.info? 62).map (fun i => (i.zero, i.size, i.bytes)) = some (some (.nilFunc), 1, 8) := by kernel_rfl
theorem inf63 : (Tryz.prog.info? 63).map (fun i => (i.zero, i.size, i.bytes)) = some (some (.nilFunc), 1, 8) := by kernel_rfl
theorem inf64 : (Tryz.prog.info? 64).map (fun i => (i.zero, i.size, i.bytes)) = some (some (.nilFunc), 1, 8) := by kernel_rfl
theorem inf65 : (Tryz.prog.info? 65).map (fun i => (i.zero, i.size, i.bytes)) = some (some (.nilFunc), 1, 8) := by kernel_rfl
theorem inf66 : (Tryz.prog.info? 66).map (fun i => (i.zero, i.size, i.bytes)) = some (some (.slice none 0 0), 1, 24) := by kernel_rfl
theorem inf67 : (Tryz.prog.info? 67).map (fun i => (i.zero, i.size, i.bytes)) = some (some (.nilFunc), 1, 8) := by kernel_rfl
theorem inf69 : (Tryz.prog.info? 69).map (fun i => (i.zero, i.size, i.bytes)) = some (some (.nilFunc), 1, 8) := by kernel_rfl
theorem inf70 : (Tryz.prog.info? 70).map (fun i => (i.zero, i.size, i.bytes)) = some (some (.nilFunc), 1, 8) := by kernel_rfl
theorem inf71 : (Tryz.prog.info? 71).map (fun i => (i.zero, i.size, i.bytes)) = some (some (.nilFunc), 1, 8) := by kernel_rfl
theorem inf72 : (Tryz.prog.info? 72).map (fun i => (i.zero, i.size, i.bytes)) = some (some (.nilFunc), 1, 8) := by kernel_rfl
theorem inf73 : (Tryz.prog.info? 73).map (fun i => (i.zero, i.size, i.bytes)) = some (some (.nilFunc), 1, 8) := by kernel_rfl
theorem inf74 : (Tryz.prog.info? 74).map (fun i => (i.zero, i.size, i.bytes)) = some (some (.nilFunc), 1, 8) := by kernel_rfl
theorem inf75 : (Tryz.prog.info? 75).map (fun i => (i.zero, i.size, i.bytes)) = some (some (.nilFunc), 1, 8) := by kernel_rfl
theorem inf76 : (Tryz.prog.info? 76).map (fun i => (i.zero, i.size, i.bytes)) = some (some (.nilFunc), 1, 8) := by kernel_rfl
theorem inf77 : (Tryz.prog.info? 77).map (fun i => (i.zero, i.size, i.bytes)) = some (some (.nilFunc), 1, 8) := by kernel_rfl
theorem inf78 : (Tryz.prog.info? 78).map (fun i => (i.zero, i.size, i.bytes)) = some (some (.nilFunc), 1, 8) := by kernel_rfl
theorem inf79 : (Tryz.prog.info? 79).map (fun i => (i.zero, i.size, i.bytes)) = some (some (.nilFunc), 1, 8) := by kernel_rfl
theorem inf80 : (Tryz.prog.info? 80).map (fun i => (i.zero, i.size, i.bytes)) = some (some (.nilFunc), 1, 8) := by kernel_rfl
theorem inf81 : (Tryz.prog.info? 81).map (fun i => (i.zero, i.size, i.bytes)) = some (some (.nilFunc), 1, 8) := by kernel_rfl
theorem inf82 : (Tryz.prog.info? 82).map (fun i => (i.zero, i.size, i.bytes)) = some (some (.nilFunc), 1, 8) := by kernel_rfl
theorem inf83 : (Tryz.prog.info? 83).map (fun i => (i.zero, i.size, i.bytes)) = some (some (.nilFunc), 1, 8) := by kernel_rfl
theorem inf84 : (Tryz.prog.info? 84).map (fun i => (i.zero, i.size, i.bytes)) = some (some (.pointer none), 1, 8) := by kernel_rfl
theorem inf85 : (Tryz.prog.info? 85).map (fun i => (i.zero, i.size, i.bytes)) = some (some (.nilFunc), 1, 8) := by kernel_rfl
theorem inf86 : (Tryz.prog.info? 86).map (fun i => (i.zero, i.size, i.bytes)) = some (some (.agg #[.slice none 0 0, .int .i64 0]), 2, 32) := by kernel_rfl
theorem inf87 : (Tryz.prog.info? 87).map (fun i => (i.zero, i.size, i.bytes)) = some (some (.agg #[.slice none 0 0, .int .i64 0]), 2, 32) := by kernel_rfl
theorem inf88 : (Tryz.prog.info? 88).map (fun i => (i.zero, i.size, i.bytes)) = some (some (.nilFunc), 1, 8) := by kernel_rfl
theorem inf89 : (Tryz.prog.info? 89).map (fun i => (i.zero, i.size, i.bytes)) = some (some (.nilFunc), 1, 8) := by kernel_rfl
theorem inf90 : (Tryz.prog.info? 90).map (fun i => (i.zero, i.size, i.bytes)) = some (some (.slice none 0 0), 1, 24) := by kernel_rfl
theorem inf91 : (Tryz.prog.info? 91).map (fun i => (i.zero, i.size, i.bytes)) = some (some (.agg #[.int .i64 0, .string ByteArray.empty, .string ByteArray.empty, .int .i64 0, .bool false, .slice none 0 0, .slice none 0 0]), 7, 104) := by kernel_rfl
theorem inf92 : (Tryz.prog.info? 92).map (fun i => (i.zero, i.size, i.bytes)) = some (some (.agg #[.int .i64 0, .string ByteArray.empty, .string ByteArray.empty, .int .i64 0, .bool false, .slice none 0 0, .slice none 0 0]), 7, 104) := by kernel_rfl
theorem inf93 : (Tryz.prog.info? 93).map (fun i => (i.zero, i.size, i.bytes)) = some (some (.agg #[.int .i64 0, .int .i64 0]), 2, 16) := by kernel_rfl
theorem inf94 : (Tryz.prog.info? 94).map (fun i => (i.zero, i.size, i.bytes)) = some (some (.agg #[.int .i64 0, .int .i64 0]), 2, 16) := by kernel_rfl
theorem inf95 : (Tryz.prog.info? 95).map (fun i => (i.zero, i.size, i.bytes)) = some (some (.agg #[.string ByteArray.empty, .int .i64 0, .bool false]), 3, 32) := by kernel_rfl
theorem inf96 : (Tryz.prog.info? 96).map (fun i => (i.zero, i.size, i.bytes)) = some (some (.agg #[.string ByteArray.empty, .int .i64 0, .bool false]), 3, 32) := by kernel_rfl
theorem inf97 : (Tryz.prog.info? 97).map (fun i => (i.zero, i.size, i.bytes)) = some (some (.nilFunc), 1, 8) := by kernel_rfl
theorem inf98 : (Tryz.prog.info? 98).map (fun i => (i.zero, i.size, i.bytes)) = some (some (.nilFunc), 1, 8) := by kernel_rfl
theorem inf99 : (Tryz.prog.info? 99).map (fun i => (i.zero, i.size, i.bytes)) = some (some (.nilFunc), 1, 8) := by kernel_rfl
theorem inf100 : (Tryz.prog.info? 100).map (fun i => (i.zero, i.size, i.bytes)) = some (some (.nilFunc), 1, 8) := by kernel_rfl
theorem inf101 : (Tryz.prog.info? 101).map (fun i => (i.zero, i.size, i.bytes)) = some (some (.nilFunc), 1, 8) := by kernel_rfl
theorem inf103 : (Tryz.prog.info? 103).map (fun i => (i.zero, i.size, i.bytes)) = some (some (.nilFunc), 1, 8) := by kernel_rfl
theorem inf104 : (Tryz.prog.info? 104).map (fun i => (i.zero, i.size, i.bytes)) = some (some (.map none), 1, 8) := by kernel_rfl
theorem inf105 : (Tryz.prog.info? 105).map (fun i => (i.zero, i.size, i.bytes)) = some (some (.agg #[.slice none 0 0, .map none]), 2, 32) := by kernel_rfl
theorem inf106 : (Tryz.prog.info? 106).map (fun i => (i.zero, i.size, i.bytes)) = some (some (.agg #[.slice none 0 0, .map none]), 2, 32) := by kernel_rfl
theorem inf107 : (Tryz.prog.info? 107).map (fun i => (i.zero, i.size, i.bytes)) = some (some (.slice none 0 0), 1, 24) := by kernel_rfl
theorem inf109 : (Tryz.prog.info? 109).map (fun i => (i.zero, i.size, i.bytes)) = some (some (.nilFunc), 1, 8) := by kernel_rfl
theorem inf110 : (Tryz.prog.info? 110).map (fun i => (i.zero, i.size, i.bytes)) = some (some (.nilIface), 1, 16) := by kernel_rfl
theorem inf111 : (Tryz.prog.info? 111).map (fun i => (i.zero, i.size, i.bytes)) = some (some (.nilIface), 1, 16) := by kernel_rfl
theorem inf112 : (Tryz.prog.info? 112).map (fun i => (i.zero, i.size, i.bytes)) = some (some (.nilFunc), 1, 8) := by kernel_rfl
theorem inf113 : (Tryz.prog.info? 113).map (fun i => (i.zero, i.size, i.bytes)) = some (some (.agg #[.string ByteArray.empty, .int .i64 0, .bool false, .int .i64 0, .int .i64 0]), 5, 48) := by kernel_rfl
theorem inf114 : (Tryz.prog.info? 114).map (fun i => (i.zero, i.size, i.bytes)) = some (some (.agg #[.string ByteArray.empty, .int .i64 0, .bool false, .int .i64 0, .int .i64 0]), 5, 48) := by kernel_rfl
theorem inf116 : (Tryz.prog.info? 116).map (fun i => (i.zero, i.size, i.bytes)) = some (some (.nilFunc), 1, 8) := by kernel_rfl
theorem inf117 : (Tryz.prog.info? 117).map (fun i => (i.zero, i.size, i.bytes)) = some (some (.nilFunc), 1, 8) := by kernel_rfl
theorem inf118 : (Tryz.prog.info? 118).map (fun i => (i.zero, i.size, i.bytes)) = some (some (.nilFunc), 1, 8) := by kernel_rfl
theorem inf119 : (Tryz.prog.info? 119).map (fun i => (i.zero, i.size, i.bytes)) = some (some (.nilFunc), 1, 8) := by kernel_rfl
theorem inf121 : (Tryz.prog.info? 121).map (fun i => (i.zero, i.size, i.bytes)) = some (some (.nilFunc), 1, 8) := by kernel_rfl
theorem inf122 : (Tryz.prog.info? 122).map (fun i => (i.zero, i.size, i.bytes)) = some (some (.int .u64 0), 1, 8) := by kernel_rfl
theorem inf124 : (Tryz.prog.info? 124).map (fun i => (i.zero, i.size, i.bytes)) = some (some (.nilFunc), 1, 8) := by kernel_rfl
theorem inf125 : (Tryz.prog.info? 125).map (fun i => (i.zero, i.size, i.bytes)) = some (some (.nilFunc), 1, 8) := by kernel_rfl
theorem inf127 : (Tryz.prog.info? 127).map (fun i => (i.zero, i.size, i.bytes)) = some (some (.nilFunc), 1, 8) := by kernel_rfl
theorem inf128 : (Tryz.prog.info? 128).map (fun i => (i.zero, i.size, i.bytes)) = some (some (.nilFunc), 1, 8) := by kernel_rfl
theorem inf129 : (Tryz.prog.info? 129).map (fun i => (i.zero, i.size, i.bytes)) = some (some (.nilFunc), 1, 8) := by kernel_rfl
theorem inf130 : (Tryz.prog.info? 130).map (fun i => (i.zero, i.size, i.bytes)) = some (some (.nilFunc), 1, 8) := by kernel_rfl
theorem inf131 : (Tryz.prog.info? 131).map (fun i => (i.zero, i.size, i.bytes)) = some (some (.slice none 0 0), 1, 24) := by kernel_rfl
theorem inf132 : (Tryz.prog.info? 132).map (fun i => (i.zero, i.size, i.bytes)) = some (some (.nilFunc), 1, 8) := by kernel_rfl
theorem inf133 : (Tryz.prog.info? 133).map (fun i => (i.zero, i.size, i.bytes)) = some (some (.nilFunc), 1, 8) := by kernel_rfl
theorem inf134 : (Tryz.prog.info? 134).map (fun i => (i.zero, i.size, i.bytes)) = some (some (.nilFunc), 1, 8) := by kernel_rfl
theorem inf135 : (Tryz.prog.info? 135).map (fun i => (i.zero, i.size, i.bytes)) = some (some (.nilFunc), 1, 8) := by kernel_rfl
theorem inf136 : (Tryz.prog.info? 136).map (fun i => (i.zero, i.size, i.bytes)) = some (some (.nilFunc), 1, 8) := by kernel_rfl
theorem inf137 : (Tryz.prog.info? 137).map (fun i => (i.zero, i.size, i.bytes)) = some (some (.nilFunc), 1, 8) := by kernel_rfl
theorem inf139 : (Tryz.prog.info? 139).map (fun i => (i.zero, i.size, i.bytes)) = some (some (.nilFunc), 1, 8) := by kernel_rfl
theorem inf140 : (Tryz.prog.info? 140).map (fun i => (i.zero, i.size, i.bytes)) = some (some (.nilFunc), 1, 8) := by kernel_rfl
theorem inf141 : (Tryz.prog.info? 141).map (fun i => (i.zero, i.size, i.bytes)) = some (some (.nilFunc), 1, 8) := by kernel_rfl
theorem inf142 : (Tryz.prog.info? 142).map (fun i => (i.zero, i.size, i.bytes)) = some (some (.nilFunc), 1, 8) := by kernel_rfl
theorem inf143 : (Tryz.prog.info? 143).map (fun i => (i.zero, i.size, i.bytes)) = some (some (.nilFunc), 1, 8) := by kernel_rfl
theorem inf144 : (Tryz.prog.info? 144).map (fun i => (i.zero, i.size, i.bytes)) = some (some (.nilFunc), 1, 8) := by kernel_rfl
theorem inf145 : (Tryz.prog.info? 145).map (fun i => (i.zero, i.size, i.bytes)) = some (some (.nilFunc), 1, 8) := by kernel_rfl
theorem inf146 : (Tryz.prog.info? 146).map (fun i => (i.zero, i.size, i.bytes)) = some (some (.nilFunc), 1, 8) := by kernel_rfl
theorem inf147 : (Tryz.prog.info? 147).map (fun i => (i.zero, i.size, i.bytes)) = some (some (.nilFunc), 1, 8) := by kernel_rfl
theorem inf148 : (Tryz.prog.info? 148).map (fun i => (i.zero, i.size, i.bytes)) = some (some (.agg #[.int .u64 0, .int .u64 0]), 2, 16) := by kernel_rfl
theorem inf149 : (Tryz.prog.info? 149).map (fun i => (i.zero, i.size, i.bytes)) = some (some (.agg #[.int .u64 0, .int .u64 0]), 2, 16) := by kernel_rfl
theorem inf150 : (Tryz.prog.info? 150).map (fun i => (i.zero, i.size, i.bytes)) = some (some (.nilFunc), 1, 8) := by kernel_rfl
theorem inf151 : (Tryz.prog.info? 151).map (fun i => (i.zero, i.size, i.bytes)) = some (some (.nilIface), 1, 16) := by kernel_rfl
theorem inf152 : (Tryz.prog.info? 152).map (fun i => (i.zero, i.size, i.bytes)) = some (some (.nilIface), 1, 16) := by kernel_rfl
theorem inf153 : (Tryz.prog.info? 153).map (fun i => (i.zero, i.size, i.bytes)) = some (some (.nilFunc), 1, 8) := by kernel_rfl
theorem inf154 : (Tryz.prog.info? 154).map (fun i => (i.zero, i.size, i.bytes)) = some (some (.nilFunc), 1, 8) := by kernel_rfl
theorem inf155 : (Tryz.prog.info? 155).map (fun i => (i.zero, i.size, i.bytes)) = some (some (.nilFunc), 1, 8) := by kernel_rfl
theorem inf156 : (Tryz.prog.info? 156).map (fun i => (i.zero, i.size, i.bytes)) = some (some (.agg #[.int .i64 0, .int .i64 0, .int .i64 0, .int .i64 0]), 4, 32) := by kernel_rfl
theorem inf157 : (Tryz.prog.info? 157).map (fun i => (i.zero, i.size, i.bytes)) = some (some (.nilFunc), 1, 8) := by kernel_rfl
theorem inf158 : (Tryz.prog.info? 158).map (fun i => (i.zero, i.size, i.bytes)) = some (some (.nilFunc), 1, 8) := by kernel_rfl
theorem inf159 : (Tryz.prog.info? 159).map (fun i => (i.zero, i.size, i.bytes)) = some (some (.nilFunc), 1, 8) := by kernel_rfl
theorem inf160 : (Tryz.prog.info? 160).map (fun i => (i.zero, i.size, i.bytes)) = some (some (.nilFunc), 1, 8) := by kernel_rfl
theorem inf161 : (Tryz.prog.info? 161).map (fun i => (i.zero, i.size, i.bytes)) = some (some (.nilFunc), 1, 8) := by kernel_rfl
theorem inf162 : (Tryz.prog.info? 162).map (fun i => (i.zero, i.size, i.bytes)) = some (some (.nilFunc), 1, 8) := by kernel_rfl
theorem inf163 : (Tryz.prog.info? 163).map (fun i => (i.zero, i.size, i.bytes)) = some (some (.nilFunc), 1, 8) := by kernel_rfl
theorem inf164 : (Tryz.prog.info? 164).map (fun i => (i.zero, i.size, i.bytes)) = some (some (.nilFunc), 1, 8) := by kernel_rfl
theorem inf165 : (Tryz.prog.info? 165).map (fun i => (i.zero, i.size, i.bytes)) = some (some (.agg #[.string ByteArray.empty, .int .i64 0, .bool false]), 3, 32) := by kernel_rfl
theorem inf166 : (Tryz.prog.info? 166).map (fun i => (i.zero, i.size, i.bytes)) = some (some (.agg #[.string ByteArray.empty, .int .i64 0, .bool false]), 3, 32) := by kernel_rfl
theorem inf167 : (Tryz.prog.info? 167).map (fun i => (i.zero, i.size, i.bytes)) = some (some (.nilFunc), 1, 8) := by kernel_rfl
theorem inf168 : (Tryz.prog.info? 168).map (fun i => (i.zero, i.size, i.bytes)) = some (some (.int .i64 0), 1, 8) := by kernel_rfl
theorem inf169 : (Tryz.prog.info? 169).map (fun i => (i.zero, i.size, i.bytes)) = some (some (.nilFunc), 1, 8) := by kernel_rfl
theorem inf170 : (Tryz.prog.info? 170).map (fun i => (i.zero, i.size, i.bytes)) = some (some (.int .i64 0), 1, 8) := by kernel_rfl
theorem inf172 : (Tryz.prog.info? 172).map (fun i => (i.zero, i.size, i.bytes)) = some (some (.nilFunc), 1, 8) := by kernel_rfl
theorem inf173 : (Tryz.prog.info? 173).map (fun i => (i.zero, i.size, i.bytes)) = some (some (.nilFunc), 1, 8) := by kernel_rfl
theorem inf174 : (Tryz.prog.info? 174).map (fun i => (i.zero, i.size, i.bytes)) = some (some (.nilFunc), 1, 8) := by kernel_rfl
theorem inf175 : (Tryz.prog.info? 175).map (fun i => (i.zero, i.size, i.bytes)) = some (some (.nilFunc), 1, 8) := by kernel_rfl
theorem inf176 : (Tryz.prog.info? 176).map (fun i => (i.zero, i.size, i.bytes)) = some (some (.nilFunc), 1, 8) := by kernel_rfl
theorem inf177 : (Tryz.prog.info? 177).map (fun i => (i.zero, i.size, i.bytes)) = some (some (.int .u32 0), 1, 4) := by kernel_rfl
theorem inf178 : (Tryz.prog.info? 178).map (fun i => (i.zero, i.size, i.bytes)) = some (some (.nilFunc), 1, 8) := by kernel_rfl
theorem inf180 : (Tryz.prog.info? 180).map (fun i => (i.zero, i.size, i.bytes)) = some (some (.nilFunc), 1, 8) := by kernel_rfl
theorem inf182 : (Tryz.prog.info? 182).map (fun i => (i.zero, i.size, i.bytes)) = some (some (.nilFunc), 1, 8) := by kernel_rfl
theorem inf183 : (Tryz.prog.info? 183).map (fun i => (i.zero, i.size, i.bytes)) = some (some (.slice none 0 0), 1, 24) := by kernel_rfl
theorem inf184 : (Tryz.prog.info? 184).map (fun i => (i.zero, i.size, i.bytes)) = some (some (.slice none 0 0), 1, 24) := by kernel_rfl
theorem inf185 : (Tryz.prog.info? 185).map (fun i => (i.zero, i.size, i.bytes)) = some (some (.slice none 0 0), 1, 24) := by kernel_rfl
theorem inf186 : (Tryz.prog.info? 186).map (fun i => (i.zero, i.size, i.bytes)) = some (some (.agg #[.int .i64 0, .int .i64 0, .slice none 0 0, .int .i64 0, .int .i64 0, .string ByteArray.empty, .slice none 0 0]), 7, 96) := by kernel_rfl
theorem inf187 : (Tryz.prog.info? 187).map (fun i => (i.zero, i.size, i.bytes)) = some (some (.agg #[.int .i64 0, .int .i64 0, .slice none 0 0, .int .i64 0, .int .i64 0, .string ByteArray.empty, .slice none 0 0]), 7, 96) := by kernel_rfl
theorem inf188 : (Tryz.prog.info? 188).map (fun i => (i.zero, i.size, i.bytes)) = some (some (.nilFunc), 1, 8) := by kernel_rfl
theorem inf189 : (Tryz.prog.info? 189).map (fun i => (i.zero, i.size, i.bytes)) = some (some (.agg (List.replicate 256 (.bool false)).toArray), 256, 256) := by kernel_rfl
theorem inf190 : (Tryz.prog.info? 190).map (fun i => (i.zero, i.size, i.bytes)) = some (some (.agg (List.replicate 256 (.bool false)).toArray), 256, 256) := by kernel_rfl
theorem inf192 : (Tryz.prog.info? 192).map (fun i => (i.zero, i.size, i.bytes)) = some (some (.nilFunc), 1, 8) := by kernel_rfl
theorem inf193 : (Tryz.prog.info? 193).map (fun i => (i.zero, i.size, i.bytes)) = some (some (.nilFunc), 1, 8) := by kernel_rfl
theorem inf194 : (Tryz.prog.info? 194).map (fun i => (i.zero, i.size, i.bytes)) = some (some (.pointer none), 1, 8) := by kernel_rfl
theorem inf195 : (Tryz.prog.info? 195).map (fun i => (i.zero, i.size, i.bytes)) = some (some (.slice none 0 0), 1, 24) := by kernel_rfl
theorem inf196 : (Tryz.prog.info? 196).map (fun i => (i.zero, i.size, i.bytes)) = some (some (.nilFunc), 1, 8) := by kernel_rfl
theorem inf197 : (Tryz.prog.info? 197).map (fun i => (i.zero, i.size, i.bytes)) = some (some (.nilFunc), 1, 8) := by kernel_rfl
theorem inf198 : (Tryz.prog.info? 198).map (fun i => (i.zero, i.size, i.bytes)) = some (some (.nilFunc), 1, 8) := by kernel_rfl
theorem inf199 : (Tryz.prog.info? 199).map (fun i => (i.zero, i.size, i.bytes)) = some (some (.agg #[.int .u64 0, .int .u64 0]), 2, 16) := by kernel_rfl
theorem inf200 : (Tryz.prog.info? 200).map (fun i => (i.zero, i.size, i.bytes)) = some (some (.nilFunc), 1, 8) := by kernel_rfl
theorem inf201 : (Tryz.prog.info? 201).map (fun i => (i.zero, i.size, i.bytes)) = some (some (.int .u64 0), 1, 8) := by kernel_rfl
theorem inf202 : (Tryz.prog.info? 202).map (fun i => (i.zero, i.size, i.bytes)) = some (some (.nilFunc), 1, 8) := by kernel_rfl
theorem inf203 : (Tryz.prog.info? 203).map (fun i => (i.zero, i.size, i.bytes)) = some (some (.nilFunc), 1, 8) := by kernel_rfl
theorem inf204 : (Tryz.prog.info? 204).map (fun i => (i.zero, i.size, i.bytes)) = some (some (.nilFunc), 1, 8) := by kernel_rfl
theorem inf205 : (Tryz.prog.info? 205).map (fun i => (i.zero, i.size, i.bytes)) = some (some (.pointer none), 1, 8) := by kernel_rfl
theorem inf206 : (Tryz.prog.info? 206).map (fun i => (i.zero, i.size, i.bytes)) = some (some (.nilFunc), 1, 8) := by kernel_rfl
theorem inf208 : (Tryz.prog.info? 208).map (fun i => (i.zero, i.size, i.bytes)) = some (some (.nilFunc), 1, 8) := by kernel_rfl
theorem inf209 : (Tryz.prog.info? 209).map (fun i => (i.zero, i.size, i.bytes)) = some (some (.nilFunc), 1, 8) := by kernel_rfl
theorem inf210 : (Tryz.prog.info? 210).map (fun i => (i.zero, i.size, i.bytes)) = some (some (.nilFunc), 1, 8) := by kernel_rfl
theorem inf211 : (Tryz.prog.info? 211).map (fun i => (i.zero, i.size, i.bytes)) = some (some (.nilFunc), 1, 8) := by kernel_rfl
theorem inf212 : (Tryz.prog.info? 212).map (fun i => (i.zero, i.size, i.bytes)) = some (some (.nilFunc), 1, 8) := by kernel_rfl
theorem inf213 : (Tryz.prog.info? 213).map (fun i => (i.zero, i.size, i.bytes)) = some (some (.nilFunc), 1, 8) := by kernel_rfl
theorem inf214 : (Tryz.prog.info? 214).map (fun i => (i.zero, i.size, i.bytes)) = some (some (.nilFunc), 1, 8) := by kernel_rfl
theorem inf216 : (Tryz.prog.info? 216).map (fun i => (i.zero, i.size, i.bytes)) = some (some (.nilFunc), 1, 8) := by kernel_rfl
theorem inf217 : (Tryz.prog.info? 217).map (fun i => (i.zero, i.size, i.bytes)) = some (some (.nilFunc), 1, 8) := by kernel_rfl
theorem inf218 : (Tryz.prog.info? 218).map (fun i => (i.zero, i.size, i.bytes)) = some (some (.nilFunc), 1, 8) := by kernel_rfl
theorem inf219 : (Tryz.prog.info? 219).map (fun i => (i.zero, i.size, i.bytes)) = some (some (.pointer none), 1, 8) := by kernel_rfl
theorem inf221 : (Tryz.prog.info? 221).map (fun i => (i.zero, i.size, i.bytes)) = some (some (.nilFunc), 1, 8) := by kernel_rfl
theorem inf222 : (Tryz.prog.info? 222).map (fun i => (i.zero, i.size, i.bytes)) = some (some (.nilFunc), 1, 8) := by kernel_rfl
theorem inf223 : (Tryz.prog.info? 223).map (fun i => (i.zero, i.size, i.bytes)) = some (some (.nilFunc), 1, 8) := by kernel_rfl
theorem inf224 : (Tryz.prog.info? 224).map (fun i => (i.zero, i.size, i.bytes)) = some (some (.nilFunc), 1, 8) := by kernel_rfl
theorem inf225 : (Tryz.prog.info? 225).map (fun i => (i.zero, i.size, i.bytes)) = some (some (.nilIface), 1, 16) := by kernel_rfl
theorem inf226 : (Tryz.prog.info? 226).map (fun i => (i.zero, i.size, i.bytes)) = some (some (.nilIface), 1, 16) := by kernel_rfl
theorem inf227 : (Tryz.prog.info? 227).map (fun i => (i.zero, i.size, i.bytes)) = some (some (.agg (List.replicate 256 (.int .u8 0)).toArray), 256, 256) := by kernel_rfl
theorem inf228 : (Tryz.prog.info? 228).map (fun i => (i.zero, i.size, i.bytes)) = some (some (.agg #[.int .u8 0, .int .u8 0]), 2, 2) := by kernel_rfl
theorem inf229 : (Tryz.prog.info? 229).map (fun i => (i.zero, i.size, i.bytes)) = some (some (.agg #[.int .u8 0, .int .u8 0]), 2, 2) := by kernel_rfl
theorem inf230 : (Tryz.prog.info? 230).map (fun i => (i.zero, i.size, i.bytes)) = some (some (.agg #[.int .u8 0, .int .u8 0, .int .u8 0, .int .u8 0, .int .u8 0, .int .u8 0, .int .u8 0, .int .u8 0, .int .u8 0, .int .u8 0, .int .u8 0, .int .u8 0, .int .u8 0, .int .u8 0, .int .u8 0, .int .u8 0, .int .u8 0, .int .u8 0, .int .u8 0, .int .u8 0, .int .u8 0, .int .u8 0, .int .u8 0, .int .u8 0, .int .u8 0, .int .u8 0, .int .u8 0, .int .u8 0, .int .u8 0, .int .u8 0, .int .u8 0, .int .u8 0]), 32, 32) := by kernel_rfl
theorem inf231 : (Tryz.prog.info? 231).map (fun i => (i.zero, i.size, i.bytes)) = some (some (.nilFunc), 1, 8) := by kernel_rfl
theorem inf232 : (Tryz.prog.info? 232).map (fun i => (i.zero, i.size, i.bytes)) = some (some (.nilFunc), 1, 8) := by kernel_rfl
theorem inf233 : (Tryz.prog.info? 233).map (fun i => (i.zero, i.size, i.bytes)) = some (some (.nilFunc), 1, 8) := by kernel_rfl
theorem inf234 : (Tryz.prog.info? 234).map (fun i => (i.zero, i.size, i.bytes)) = some (some (.nilFunc), 1, 8) := by kernel_rfl
theorem inf235 : (Tryz.prog.info? 235).map (fun i => (i.zero, i.size, i.bytes)) = some (some (.pointer none), 1, 8) := by kernel_rfl
theorem inf236 : (Tryz.prog.info? 236).map (fun i => (i.zero, i.size, i.bytes)) = some (some (.nilFunc), 1, 8) := by kernel_rfl
theorem inf237 : (Tryz.prog.info? 237).map (fun i => (i.zero, i.size, i.bytes)) = some (some (.agg #[.pointer none, .pointer none, .pointer none, .string ByteArray.empty]), 4, 40) := by kernel_rfl
theorem inf238 : (Tryz.prog.info? 238).map (fun i => (i.zero, i.size, i.bytes)) = some (some (.agg #[.pointer none, .pointer none, .pointer none, .string ByteArray.empty]), 4, 40) := by kernel_rfl
theorem inf239 : (Tryz.prog.info? 239).map (fun i => (i.zero, i.size, i.bytes)) = some (some (.agg #[]), 0, 0) := by kernel_rfl
theorem inf240 : (Tryz.prog.info? 240).map (fun i => (i.zero, i.size, i.bytes)) = some (some (.agg #[]), 0, 0) := by kernel_rfl
theorem inf241 : (Tryz.prog.info? 241).map (fun i => (i.zero, i.size, i.bytes)) = some (some (.agg #[]), 0, 0) := by kernel_rfl
theorem inf242 : (Tryz.prog.info? 242).map (fun i => (i.zero, i.size, i.bytes)) = some (some (.int .u8 0), 1, 1) := by kernel_rfl
theorem inf243 : (Tryz.prog.info? 243).map (fun i => (i.zero, i.size, i.bytes)) = some (some (.int .u8 0), 1, 1) := by kernel_rfl
theorem inf244 : (Tryz.prog.info? 244).map (fun i => (i.zero, i.size, i.bytes)) = some (some (.nilFunc), 1, 8) := by kernel_rfl
theorem inf245 : (Tryz.prog.info? 245).map (fun i => (i.zero, i.size, i.bytes)) = some (some (.pointer none), 1, 8) := by kernel_rfl
theorem inf246 : (Tryz.prog.info? 246).map (fun i => (i.zero, i.size, i.bytes)) = some (some (.int .i32 0), 1, 4) := by kernel_rfl
theorem inf247 : (Tryz.prog.info? 247).map (fun i => (i.zero, i.size, i.bytes)) = some (some (.int .i32 0), 1, 4) := by kernel_rfl
theorem inf248 : (Tryz.prog.info? 248).map (fun i => (i.zero, i.size, i.bytes)) = some (some (.agg #[.int .u64 0, .int .u64 0, .int .u32 0, .int .u8 0, .int .u8 0, .int .u8 0, .int .u8 0, .nilFunc, .pointer none, .int .i32 0, .int .i32 0]), 11, 48) := by kernel_rfl
theorem inf249 : (Tryz.prog.info? 249).map (fun i => (i.zero, i.size, i.bytes)) = some (some (.agg #[.int .u64 0, .int .u64 0, .int .u32 0, .int .u8 0, .int .u8 0, .int .u8 0, .int .u8 0, .nilFunc, .pointer none, .int .i32 0, .int .i32 0]), 11, 48) := by kernel_rfl
theorem inf250 : (Tryz.prog.info? 250).map (fun i => (i.zero, i.size, i.bytes)) = some (some (.nilFunc), 1, 8) := by kernel_rfl
theorem inf251 : (Tryz.prog.info? 251).map (fun i => (i.zero, i.size, i.bytes)) = some (some (.nilFunc), 1, 8) := by kernel_rfl
theorem inf252 : (Tryz.prog.info? 252).map (fun i => (i.zero, i.size, i.bytes)) = some (some (.slice none 0 0), 1, 24) := by kernel_rfl
theorem inf253 : (Tryz.prog.info? 253).map (fun i => (i.zero, i.size, i.bytes)) = some (some (.nilFunc), 1, 8) := by kernel_rfl
theorem inf254 : (Tryz.prog.info? 254).map (fun i => (i.zero, i.size, i.bytes)) = some (some (.nilFunc), 1, 8) := by kernel_rfl
theorem inf255 : (Tryz.prog.info? 255).map (fun i => (i.zero, i.size, i.bytes)) = some (some (.nilFunc), 1, 8) := by kernel_rfl
theorem inf256 : (Tryz.prog.info? 256).map (fun i => (i.zero, i.size, i.bytes)) = some (some (.nilFunc), 1, 8) := by kernel_rfl
theorem inf257 : (Tryz.prog.info? 257).map (fun i => (i.zero, i.size, i.bytes)) = some (some (.nilFunc), 1, 8) := by kernel_rfl
theorem inf258 : (Tryz.prog.info? 258).map (fun i => (i.zero, i.size, i.bytes)) = some (some (.agg #[.string ByteArray.empty]), 1, 16) := by kernel_rfl
theorem inf259 : (Tryz.prog.info? 259).map (fun i => (i.zero, i.size, i.bytes)) = some (some (.agg #[.string ByteArray.empty]), 1, 16) := by kernel_rfl
theorem inf260 : (Tryz.prog.info? 260).map (fun i => (i.zero, i.size, i.bytes)) = some (some (.pointer none), 1, 8) := by kernel_rfl
theorem lf2 {t k : Nat} {D d : _} (h : (fun t (d : Value × Nat × Nat) => (Tryz.prog.info? t).map (fun i => (i.zero, i.size, i.bytes)) = some (some d.1, d.2.1, d.2.2)) k D) : cond (Nat.beq t k) (some D) none = some d → (fun t (d : Value × Nat × Nat) => (Tryz.prog.info? t).map (fun i => (i.zero, i.size, i.bytes)) = some (some d.1, d.2.1, d.2.2)) t d := lf (F := fun t (d : Value × Nat × Nat) => (Tryz.prog.info? t).map (fun i => (i.zero, i.size, i.bytes)) = some (some d.1, d.2.1, d.2.2)) h
theorem inf_ok {t : Nat} {d : Value × Nat × Nat} : inf t = some d → (Tryz.prog.info? t).map (fun i => (i.zero, i.size, i.bytes)) = some (some d.1, d.2.1, d.2.2) :=
 (nd (nd (nd (nd (nd (nd (nd (lf2 inf1) (nd (lf2 inf2) (lf2 inf3))) (nd (nd (lf2 inf4) (lf2 inf5)) (nd (lf2 inf6) (lf2 inf7)))) (nd (nd (nd (lf2 inf8) (lf2 inf9)) (nd (lf2 inf10) (lf2 inf11))) (nd (nd (lf2 inf12) (lf2 inf13)) (nd (lf2 inf14) (lf2 inf15))))) (nd (nd (nd (lf2 inf16) (nd (lf2 inf17) (lf2 inf18))) (nd (nd (lf2 inf19) (lf2 inf20)) (nd (lf2 inf21) (lf2 inf22)))) (nd (nd (nd (lf2 inf23) (lf2 inf24)) (nd (lf2 inf25) (lf2 inf26))) (nd (nd (lf2 inf27) (lf2 inf28)) (nd (lf2 inf29) (lf2 inf30)))))) (nd (nd (nd (nd (lf2 inf31) (nd (lf2 inf32) (lf2 inf33))) (nd (nd (lf2 inf34) (lf2 inf35)) (nd (lf2 inf36) (lf2 inf37)))) (nd (nd (nd (lf2 inf38) (lf2 inf39)) (nd (lf2 inf40) (lf2 inf41))) (nd (nd (lf2 inf42) (lf2 inf43)) (nd (lf2 inf44) (lf2 inf45))))) (nd (nd (nd (lf2 inf46) (nd (lf2 inf48) (lf2 inf49))) (nd (nd (lf2 inf50) (lf2 inf51)) (nd (lf2 inf52) (lf2 inf53)))) (nd (nd (nd (lf2 inf54) (lf2 inf55)) (nd (lf2 inf56) (lf2 inf57))) (nd (nd (lf2 inf58) (lf2 inf59)) (nd (lf2 inf61) (lf2 inf62))))))) (nd (nd (nd (nd (nd (lf2 inf63) (nd (lf2 inf64) (lf2 inf65))) (nd (nd (lf2 inf66) (lf2 inf67)) (nd (lf2 inf69) (lf2 inf70)))) (nd (nd (nd (lf2 inf71) (lf2 inf72)) (nd (lf2 inf73) (lf2 inf74))) (nd (nd (lf2 inf75) (lf2 inf76)) (nd (lf2 inf77) (lf2 inf78))))) (nd (nd (nd (lf2 inf79) (nd (lf2 inf80) (lf2 inf81))) (nd (nd (lf2 inf82) (lf2 inf83)) (nd (lf2 inf84) (lf2 inf85)))) (nd (nd (nd (lf2 inf86) (lf2 inf87)) (nd (lf2 inf88) (lf2 inf89))) (nd (nd (lf2 inf90) (lf2 inf91)) (nd (lf2 inf92) (lf2 inf93)))))) (nd (nd (nd (nd (lf2 inf94) (nd (lf2 inf95) (lf2 inf96))) (nd (nd (lf2 inf97) (lf2 inf98)) (nd (lf2 inf99) (lf2 inf100)))) (nd (nd (nd (lf2 inf101) (lf2 inf103)) (nd (lf2 inf104) (lf2 inf105))) (nd (nd (lf2 inf106) (lf2 inf107)) (nd (lf2 inf109) (lf2 inf110))))) (nd (nd (nd (nd (lf2 inf111) (lf2 inf112)) (nd (lf2 inf113) (lf2 inf114))) (nd (nd (lf2 inf116) (lf2 inf117)) (nd (lf2 inf118) (lf2 inf119)))) (nd (nd (nd (lf2 inf121) (lf2 inf122)) (nd (lf2 inf124) (lf2 inf125))) (nd (nd (lf2 inf127) (lf2 inf128)) (nd (lf2 inf129) (lf2 inf130)))))))) (nd (nd (nd (nd (nd (nd (lf2 inf131) (nd (lf2 inf132) (lf2 inf133))) (nd (nd (lf2 inf134) (lf2 inf135)) (nd (lf2 inf136) (lf2 inf137)))) (nd (nd (nd (lf2 inf139) (lf2 inf140)) (nd (lf2 inf141) (lf2 inf142))) (nd (nd (lf2 inf143) (lf2 inf144)) (nd (lf2 inf145) (lf2 inf146))))) (nd (nd (nd (lf2 inf147) (nd (lf2 inf148) (lf2 inf149))) (nd (nd (lf2 inf150) (lf2 inf151)) (nd (lf2 inf152) (lf2 inf153)))) (nd (nd (nd (lf2 inf154) (lf2 inf155)) (nd (lf2 inf156) (lf2 inf157))) (nd (nd (lf2 inf158) (lf2 inf159)) (nd (lf2 inf160) (lf2 inf161)))))) (nd (nd (nd (nd (lf2 inf162) (nd (lf2 inf163) (lf2 inf164))) (nd (nd (lf2 inf165) (lf2 inf166)) (nd (lf2 inf167) (lf2 inf168)))) (nd (nd (nd (lf2 inf169) (lf2 inf170)) (nd (lf2 inf172) (lf2 inf173))) (nd (nd (lf2 inf174) (lf2 inf175)) (nd (lf2 inf176) (lf2 inf177))))) (nd (nd (nd (nd (lf2 inf178) (lf2 inf180)) (nd (lf2 inf182) (lf2 inf183))) (nd (nd (lf2 inf184) (lf2 inf185)) (nd (lf2 inf186) (lf2 inf187)))) (nd (nd (nd (lf2 inf188) (lf2 inf189)) (nd (lf2 inf190) (lf2 inf192))) (nd (nd (lf2 inf193) (lf2 inf194)) (nd (lf2 inf195) (lf2 inf196))))))) (nd (nd (nd (nd (nd (lf2 inf197) (nd (lf2 inf198) (lf2 inf199))) (nd (nd (lf2 inf200) (lf2 inf201)) (nd (lf2 inf202) (lf2 inf203)))) (nd (nd (nd (lf2 inf204) (lf2 inf205)) (nd (lf2 inf206) (lf2 inf208))) (nd (nd (lf2 inf209) (lf2 inf210)) (nd (lf2 inf211) (lf2 inf212))))) (nd (nd (nd (lf2 inf213) (nd (lf2 inf214) (lf2 inf216))) (nd (nd (lf2 inf217) (lf2 inf218)) (nd (lf2 inf219) (lf2 inf221)))) (nd (nd (nd (lf2 inf222) (lf2 inf223)) (nd (lf2 inf224) (lf2 inf225))) (nd (nd (lf2 inf226) (lf2 inf227)) (nd (lf2 inf228) (lf2 inf229)))))) (nd (nd (nd (nd (lf2 inf230) (nd (lf2 inf231) (lf2 inf232))) (nd (nd (lf2 inf233) (lf2 inf234)) (nd (lf2 inf235) (lf2 inf236)))) (nd (nd (nd (lf2 inf237) (lf2 inf238)) (nd (lf2 inf239) (lf2 inf240))) (nd (nd (lf2 inf241) (lf2 inf242)) (nd (lf2 inf243) (lf2 inf244))))) (nd (nd (nd (nd (lf2 inf245) (lf2 inf246)) (nd (lf2 inf247) (lf2 inf248))) (nd (nd (lf2 inf249) (lf2 inf250)) (nd (lf2 inf251) (lf2 inf252)))) (nd (nd (nd (lf2 inf253) (lf2 inf254)) (nd (lf2 inf255) (lf2 inf256))) (nd (nd (lf2 inf257) (lf2 inf258)) (nd (lf2 inf259) (lf2 inf260)))))))))
def fldL (t : Nat) : Option (List (Nat × Nat)) :=
 (cond (Nat.blt t 95) (cond (Nat.blt t 38) (cond (Nat.blt t 19) (cond (Nat.blt t 13) (cond (Nat.blt t 8) (cond (Nat.beq t 7) (some [(0, 2), (1, 3), (2, 4), (3, 6)]) none) (cond (Nat.beq t 8) (some [(0, 2), (1, 3), (2, 4), (3, 6)]) none)) (cond (Nat.blt t 14) (cond (Nat.beq t 13) (some [(0, 9), (1, 12)]) none) (cond (Nat.blt t 18) (cond (Nat.beq t 14) (some [(0, 9), (1, 12)]) none) (cond (Nat.beq t 18) (some [(0, 17)]) none)))) (cond (Nat.blt t 35) (cond (Nat.blt t 32) (cond (Nat.beq t 19) (some [(0, 17)]) none) (cond (Nat.blt t 33) (cond (Nat.beq t 32) (some [(0, 3), (1, 3), (2, 30), (3, 31)]) none) (cond (Nat.beq t 33) (some [(0, 3), (1, 3), (2, 30), (3, 31)]) none))) (cond (Nat.blt t 36) (cond (Nat.beq t 35) (some [(0, 3), (1, 3), (2, 30), (3, 3), (4, 3), (5, 9), (6, 34)]) none) (cond (Nat.blt t 37) (cond (Nat.beq t 36) (some [(0, 3), (1, 3), (2, 30), (3, 3), (4, 3), (5, 9), (6, 34)]) none) (cond (Nat.beq t 37) (some [(0, 9), (1, 36)]) none))))) (cond (Nat.blt t 86) (cond (Nat.blt t 45) (cond (Nat.blt t 44) (cond (Nat.beq t 38) (some [(0, 9), (1, 36)]) none) (cond (Nat.beq t 44) (some [(0, 9), (1, 3), (2, 4), (3, 30), (4, 43)]) none)) (cond (Nat.blt t 53) (cond (Nat.beq t 45) (some [(0, 9), (1, 3), (2, 4), (3, 30), (4, 43)]) none) (cond (Nat.blt t 54) (cond (Nat.beq t 53) (some [(0, 3), (1, 3)]) none) (cond (Nat.beq t 54) (some [(0, 3), (1, 3)]) none)))) (cond (Nat.blt t 92) (cond (Nat.blt t 87) (cond (Nat.beq t 86) (some [(0, 23), (1, 3)]) none) (cond (Nat.blt t 91) (cond (Nat.beq t 87) (some [(0, 23), (1, 3)]) none) (cond (Nat.beq t 91) (some [(0, 3), (1, 9), (2, 9), (3, 3), (4, 4), (5, 30), (6, 90)]) none))) (cond (Nat.blt t 93) (cond (Nat.beq t 92) (some [(0, 3), (1, 9), (2, 9), (3, 3), (4, 4), (5, 30), (6, 90)]) none) (cond (Nat.blt t 94) (cond (Nat.beq t 93) (some [(0, 3), (1, 3)]) none) (cond (Nat.beq t 94) (some [(0, 3), (1, 3)]) none)))))) (cond (Nat.blt t 187) (cond (Nat.blt t 114) (cond (Nat.blt t 105) (cond (Nat.blt t 96) (cond (Nat.beq t 95) (some [(0, 9), (1, 3), (2, 4)]) none) (cond (Nat.beq t 96) (some [(0, 9), (1, 3), (2, 4)]) none)) (cond (Nat.blt t 106) (cond (Nat.beq t 105) (some [(0, 23), (1, 104)]) none) (cond (Nat.blt t 113) (cond (Nat.beq t 106) (some [(0, 23), (1, 104)]) none) (cond (Nat.beq t 113) (some [(0, 96), (3, 54)]) none)))) (cond (Nat.blt t 165) (cond (Nat.blt t 148) (cond (Nat.beq t 114) (some [(0, 96), (3, 54)]) none) (cond (Nat.blt t 149) (cond (Nat.beq t 148) (some [(0, 122), (1, 122)]) none) (cond (Nat.beq t 149) (some [(0, 122), (1, 122)]) none))) (cond (Nat.blt t 166) (cond (Nat.beq t 165) (some [(0, 96)]) none) (cond (Nat.blt t 186) (cond (Nat.beq t 166) (some [(0, 96)]) none) (cond (Nat.beq t 186) (some [(0, 36)]) none))))) (cond (Nat.blt t 240) (cond (Nat.blt t 229) (cond (Nat.blt t 199) (cond (Nat.beq t 187) (some [(0, 36)]) none) (cond (Nat.blt t 228) (cond (Nat.beq t 199) (some [(0, 122), (1, 122)]) none) (cond (Nat.beq t 228) (some [(0, 5), (1, 5)]) none))) (cond (Nat.blt t 237) (cond (Nat.beq t 229) (some [(0, 5), (1, 5)]) none) (cond (Nat.blt t 238) (cond (Nat.beq t 237) (some [(0, 17), (1, 17), (2, 17), (3, 9)]) none) (cond (Nat.beq t 238) (some [(0, 17), (1, 17), (2, 17), (3, 9)]) none)))) (cond (Nat.blt t 249) (cond (Nat.blt t 241) (cond (Nat.beq t 240) (some [(0, 239)]) none) (cond (Nat.blt t 248) (cond (Nat.beq t 241) (some [(0, 239)]) none) (cond (Nat.beq t 248) (some [(0, 12), (1, 12), (2, 177), (3, 242), (4, 5), (5, 5), (6, 243), (7, 244), (8, 245), (9, 246), (10, 247)]) none))) (cond (Nat.blt t 258) (cond (Nat.beq t 249) (some [(0, 12), (1, 12), (2, 177), (3, 242), (4, 5), (5, 5), (6, 243), (7, 244), (8, 245), (9, 246), (10, 247)]) none) (cond (Nat.blt t 259) (cond (Nat.beq t 258) (some [(0, 9)]) none) (cond (Nat.beq t 259) (some [(0, 9)]) none)))))))
def FldOk (t : Nat) (l : List (Nat × Nat)) : Prop := ∃ fs : Array Field, und t = some (.struct fs) ∧ fs.toList.map (fun fd => (fd.offset, fd.type)) = l
theorem lf3 {t k : Nat} {D d : _} (h : (FldOk) k D) : cond (Nat.beq t k) (some D) none = some d → (FldOk) t d := lf (F := FldOk) h
theorem fldL_ok {t : Nat} {l : List (Nat × Nat)} : fldL t = some l → FldOk t l :=
 (nd (nd (nd (nd (nd (lf3 ⟨_, rfl, rfl⟩) (lf3 ⟨_, rfl, rfl⟩)) (nd (lf3 ⟨_, rfl, rfl⟩) (nd (lf3 ⟨_, rfl, rfl⟩) (lf3 ⟨_, rfl, rfl⟩)))) (nd (nd (lf3 ⟨_, rfl, rfl⟩) (nd (lf3 ⟨_, rfl, rfl⟩) (lf3 ⟨_, rfl, rfl⟩))) (nd (lf3 ⟨_, rfl, rfl⟩) (nd (lf3 ⟨_, rfl, rfl⟩) (lf3 ⟨_, rfl, rfl⟩))))) (nd (nd (nd (lf3 ⟨_, rfl, rfl⟩) (lf3 ⟨_, rfl, rfl⟩)) (nd (lf3 ⟨_, rfl, rfl⟩) (nd (lf3 ⟨_, rfl, rfl⟩) (lf3 ⟨_, rfl, rfl⟩)))) (nd (nd (lf3 ⟨_, rfl, rfl⟩) (nd (lf3 ⟨_, rfl, rfl⟩) (lf3 ⟨_, rfl, rfl⟩))) (nd (lf3 ⟨_, rfl, rfl⟩) (nd (lf3 ⟨_, rfl, rfl⟩) (lf3 ⟨_, rfl, rfl⟩)))))) (nd (nd (nd (nd (lf3 ⟨_, rfl, rfl⟩) (lf3 ⟨_, rfl, rfl⟩)) (nd (lf3 ⟨_, rfl, rfl⟩) (nd (lf3 ⟨_, rfl, rfl⟩) (lf3 ⟨_, rfl, rfl⟩)))) (nd (nd (lf3 ⟨_, rfl, rfl⟩) (nd (lf3 ⟨_, rfl, rfl⟩) (lf3 ⟨_, rfl, rfl⟩))) (nd (lf3 ⟨_, rfl, rfl⟩) (nd (lf3 ⟨_, rfl, rfl⟩) (lf3 ⟨_, rfl, rfl⟩))))) (nd (nd (nd (lf3 ⟨_, rfl, rfl⟩) (nd (lf3 ⟨_, rfl, rfl⟩) (lf3 ⟨_, rfl, rfl⟩))) (nd (lf3 ⟨_, rfl, rfl⟩) (nd (lf3 ⟨_, rfl, rfl⟩) (lf3 ⟨_, rfl, rfl⟩)))) (nd (nd (lf3 ⟨_, rfl, rfl⟩) (nd (lf3 ⟨_, rfl, rfl⟩) (lf3 ⟨_, rfl, rfl⟩))) (nd (lf3 ⟨_, rfl, rfl⟩) (nd (lf3 ⟨_, rfl, rfl⟩) (lf3 ⟨_, rfl, rfl⟩)))))))
end SX
end Go.Proofs.YtiijbkaiipjpkaaGreatDoor
set_option maxRecDepth 100000
namespace Go.Proofs.YtiijbkaiipjpkaaGreatDoor
namespace SX
open Go
theorem viewStore_drawn {p : Program} {w w' : World} {at_ : Addr} {u : TypeId} {k : Addr} {v : Value} {b : Bool} {l : List Addr} (h : w.viewStore p at_ u k v b = .ok (w', l)) : w'.drawn = w.drawn := by
 unfold World.viewStore at h
 have hth : ∀ {α : Type} (e : String), (MonadExcept.throw e : Except String α) = Except.error e := fun _ => rfl
 simp only [bind, Except.bind, pure, Except.pure, hth] at h
 split at h
 ·cases h
 split at h
 ·cases h
 split at h
 ·split at h
  ·cases h
  split at h
  ·cases h
  injection h with h; injection h with h1 h2; subst h1; rfl
 ·cases h
theorem ask_drawn {α : Type} : ∀ (a : Ask α) (w : World), w.drawn ≤ (w.ask a).2.drawn
 | .done _, w => Nat.le_refl _
 | .ask what range k, w => by
  unfold World.ask
  simp only
  split
  ·exact ask_drawn _ _
  ·exact Nat.le_trans (Nat.le_succ _) (ask_drawn (k _) { w with drawn := w.drawn + 1 })
theorem sys_drawn (w : World) (c : Sys) : w.drawn ≤ (w.sys c).2.drawn := by
 have h := ask_drawn (Kernel.perform c w.os) w
 unfold World.sys
 generalize w.ask (Kernel.perform c w.os) = q at h ⊢
 obtain ⟨⟨r, os⟩, w1⟩ := q
 cases r <;> first | exact Nat.le_refl _ | exact h
theorem sem_drawn {α : Type} (p : Program) : ∀ (s : Sem α) (w : World) (a : α) (w' : World), s.run p w = .ok a w' → w.drawn ≤ w'.drawn := by
  intro s
  induction s with
  | pure a => intro w a' w' h; simp only [Sem.run] at h; injection h with h1 h2; subst h2; exact Nat.le_refl _
  | load m a k ih =>
    intro w a' w' h; simp only [Sem.run] at h
    split at h
    · exact ih _ _ _ _ h
    · split at h
      · exact ih _ _ _ _ h
      · cases h
  | store m a v k ih =>
    intro w a' w' h
    cases v <;> simp only [Sem.run] at h <;> first
      | (cases h; done)
      | (split at h
         · split at h
           · cases h
           · have := ih _ _ _ h; exact this
         · split at h
           · rename_i w1 l1 hf
             have := ih _ _ _ h
             unfold World.farStore at hf
             split at hf
             · split at hf
               · rename_i r hv; injection hf with hf; subst hf; rw [← viewStore_drawn hv]; exact this
               · cases hf
             · cases hf
           · cases h)
  | new o k ih => intro w a' w' h; simp only [Sem.run] at h; have := ih _ _ _ _ h; exact this
  | shape r k ih => intro w a' w' h; simp only [Sem.run] at h; exact ih _ _ _ _ h
  | freeze a n k ih => intro w a' w' h; simp only [Sem.run] at h; have := ih _ _ _ h; unfold World.freeze at this; split at this <;> exact this
  | frozen a k ih => intro w a' w' h; simp only [Sem.run] at h; exact ih _ _ _ _ h
  | getObj r k ih =>
    intro w a' w' h; simp only [Sem.run] at h
    split at h
    · cases h
    · exact ih _ _ _ _ h
    · cases h
  | setObj r o k ih =>
    intro w a' w' h; simp only [Sem.run] at h
    split at h
    · cases h
    · have := ih _ _ _ h; exact this
    · cases h
  | choose q k ih =>
    intro w a' w' h; simp only [Sem.run] at h
    split at h
    · exact ih _ _ _ _ h
    · have := ih _ _ _ _ h; exact Nat.le_trans (Nat.le_succ _) this
  | sys c k ih => intro w a' w' h; simp only [Sem.run] at h; exact Nat.le_trans (sys_drawn w c) (ih _ _ _ _ h)
  | program k ih => intro w a' w' h; simp only [Sem.run] at h; exact ih _ _ _ _ h
  | mark m k ih => intro w a' w' h; simp only [Sem.run] at h; exact ih _ _ _ h
  | halt h => intro w a' w' hh; simp only [Sem.run] at hh; cases hh
abbrev Env := Nat → Value
def upd (σ : Env) (d : Nat) (v : Value) : Env := fun t => cond (Nat.beq t d) v (σ t)
def updO (σ : Env) (d : Option Nat) (v : Value) : Env := match d with | none => σ | some d => upd σ d v
def upds (σ : Env) : List (Nat × Value) → Env
 | [] => σ
 | (d, v) :: l => upd (upds σ l) d v
def ev (σ : Env) : Operand → Value
 | .tmp t => σ t
 | .const v => v
 | .global g => .pointer (some ⟨g, 0, none⟩)
 | .func f => .func (.func f) #[] #[]
def env0 (args : Array Value) : Env := fun t => args.toList.getD t undef
def dstOk (n : Nat) : Option Nat → Bool
 | none => true
 | some d => Nat.blt d n
def Rel (n : Nat) (a : Act) (σ : Env) : Prop := a.tmps.size = n ∧ a.defers = [] ∧ ∀ t, a.tmps.getD t undef = σ t
theorem upd_self {σ : Env} {d : Nat} {v : Value} (h : σ d = v) : upd σ d v = σ := by
 funext t; unfold upd; cases e : Nat.beq t d
 ·rfl
 ·rw [Nat.eq_of_beq_eq_true e, h]; rfl
theorem Rel.put {n : Nat} {a : Act} {σ : Env} (h : Rel n a σ) {d : Option Nat} (hd : dstOk n d = true) (v : Value) : Rel n (a.put d v) (updO σ d v) := by
 obtain ⟨h1, h2, h3⟩ := h
 cases d with
 | none => exact ⟨h1, h2, h3⟩
 | some d =>
  have hlt : d < n := by have h := hd; simp [dstOk, Nat.blt] at h; omega
  refine ⟨by simp [Act.put, h1], h2, fun t => ?_⟩
  simp only [Act.put, updO, upd]
  rw [← h3 t]
  cases e : Nat.beq t d
  ·have hne : t ≠ d := fun h => by rw [h] at e; simp at e
   simp only [cond_false, Array.getD_eq_getD_getElem?]
   rw [Array.getElem?_setIfInBounds_ne (by omega)]
  ·have := Nat.eq_of_beq_eq_true e; subst this
   simp only [cond_true, Array.getD_eq_getD_getElem?]
   rw [Array.getElem?_setIfInBounds_self_of_lt (by omega)]; rfl
theorem Rel.eval {n : Nat} {a : Act} {σ : Env} (h : Rel n a σ) : a.eval = ev σ := by
 funext x; cases x <;> simp [Act.eval, ev, h.2.2]
theorem rel_env0 (args : Array Value) (n : Nat) (h : args.size ≤ n) : Rel n { tmps := args ++ Array.replicate (n - args.size) undef, defers := [] } (env0 args) := by
 refine ⟨by simp; omega, rfl, fun t => ?_⟩
 simp only [env0, Array.getD_eq_getD_getElem?, List.getD_eq_getElem?_getD, Array.getElem?_toList]
 rcases Nat.lt_or_ge t args.size with ht | ht
 ·rw [Array.getElem?_append_left ht]
 ·rw [Array.getElem?_append_right ht, Array.getElem?_eq_none ht]
  rcases Nat.lt_or_ge (t - args.size) (n - args.size) with h2 | h2
  ·simp [h2]
  ·rw [Array.getElem?_eq_none (by simpa using h2)]
structure Kr where
 w : World
 S : Nat → Prop
structure Kle (κ κ' : Kr) : Prop where
 size : κ.w.heap.size ≤ κ'.w.heap.size
 sh : ∀ b, κ.S b → κ'.S b
 keep : ∀ b, κ.S b → κ'.w.heap[b]? = κ.w.heap[b]?
theorem Kle.refl (κ : Kr) : Kle κ κ := ⟨Nat.le_refl _, fun _ h => h, fun _ _ => rfl⟩
theorem Kle.trans {a b c : Kr} (h : Kle a b) (k : Kle b c) : Kle a c :=
 ⟨Nat.le_trans h.size k.size, fun x hx => k.sh x (h.sh x hx), fun x hx => (k.keep x (h.sh x hx)).trans (h.keep x hx)⟩
structure Res where
 blk : Option Nat
 says : Option Obj → Prop
def Res.holds (r : Res) (w : World) : Prop := match r.blk with | none => r.says none | some b => r.says w.heap[b]?
structure Base where
 k0 : Kr
 M : List Nat
structure Le (M : List Nat) (κ κ' : Kr) : Prop where
 kle : Kle κ κ'
 same : ∀ b, b < κ.w.heap.size → b ∉ M → κ'.w.heap[b]? = κ.w.heap[b]?
 shNew : ∀ b, κ'.S b → κ.S b ∨ κ.w.heap.size ≤ b ∨ b ∈ M
 os : κ'.w.os = κ.w.os
 tape : κ'.w.tape = κ.w.tape
 output : κ'.w.output = κ.w.output
 drawn : κ.w.drawn ≤ κ'.w.drawn
theorem Le.refl (M : List Nat) (κ : Kr) : Le M κ κ := ⟨.refl _, fun _ _ _ => rfl, fun _ h => .inl h, rfl, rfl, rfl, Nat.le_refl _⟩
structure Inv (β : Base) (ρ : List Res) (κ : Kr) : Prop where
 le : Le β.M β.k0 κ
 fin : ∀ b, κ.S b → b < κ.w.heap.size
 own : ∀ r ∈ ρ, r.holds κ.w
 blk : ∀ r ∈ ρ, ∀ b, r.blk = some b → b < κ.w.heap.size ∧ ¬ κ.S b ∧ (β.k0.w.heap.size ≤ b ∨ b ∈ β.M)
 nd : ρ.Pairwise fun r s => ∀ b, r.blk = some b → s.blk ≠ some b
abbrev Post := Env → List Res → Kr → Prop
def WL (β : Base) (n : Nat) (ops : Array Oper) (l : List Oper) (K : Post) (σ : Env) (ρ : List Res) (κ : Kr) : Prop :=
 Inv β ρ κ → ∀ a, Rel n a σ → ∀ Q : Exit → Act → World → Prop,
  (∀ a' σ' ρ' κ', Rel n a' σ' → Inv β ρ' κ' → Kle κ κ' → K σ' ρ' κ' → Q .normal a' κ'.w) → wpList Tryz.prog ops Q l a κ.w
def WC (β : Base) (n : Nat) (c : Code) (K : Exit → Post) (σ : Env) (ρ : List Res) (κ : Kr) : Prop :=
 Inv β ρ κ → ∀ a, Rel n a σ → ∀ Q : Exit → Act → World → Prop,
  (∀ e a' σ' ρ' κ', Rel n a' σ' → Inv β ρ' κ' → Kle κ κ' → K e σ' ρ' κ' → Q e a' κ'.w) → c.wp Tryz.prog Q a κ.w
def OutV (Nx : Value → World → Prop) : Result Next → Prop
 | .ok (.value v) w => Nx v w
 | .ok .skip w => Nx undef w
 | .ok (.enter f args) w => Calls Tryz.prog f args w fun e w' => ∃ v, e = .returned v ∧ Nx v w'
 | _ => False
theorem OutV.mono {Nx Nx' : Value → World → Prop} {r : Result Next} (h : OutV Nx r) (hm : ∀ v w, Nx v w → Nx' v w) : OutV Nx' r := by
 cases r with
 | ok n w =>
  cases n with
  | value v => exact hm _ _ h
  | skip => exact hm _ _ h
  | enter f args => exact Calls.mono h fun e w' ⟨v, h1, h2⟩ => ⟨v, h1, hm _ _ h2⟩
  | _ => exact h.elim
 | halt x w => exact h.elim
theorem wp_of_out {o : Oper} {a : Act} {w : World} {ρ : Operand → Value} {Nx : Value → World → Prop} {next : Act → World → Prop} {Q : Exit → Act → World → Prop} (he : a.eval = ρ) (h : OutV Nx ((execOp ρ o).run Tryz.prog w)) (hn : ∀ v w, Nx v w → next (a.put o.dst v) w) : o.wp Tryz.prog a w next Q := by
 unfold Oper.wp
 rw [he]
 generalize (execOp ρ o).run Tryz.prog w = r at *
 cases r with
 | ok n w =>
  cases n with
  | value v => exact hn _ _ h
  | skip => exact hn _ _ h
  | enter f args => exact Calls.mono h fun e w' ⟨v, h1, h2⟩ => by subst h1; exact hn _ _ h2
  | _ => exact h.elim
 | halt x w => exact h.elim
def OpL (o : Oper) (σ : Env) (ρ : List Res) (κ : Kr) (K : Value → List Res → Kr → Prop) : Prop :=
 ∀ β, Inv β ρ κ → ∀ Nx : Value → World → Prop, (∀ v ρ' κ', Inv β ρ' κ' → Kle κ κ' → K v ρ' κ' → Nx v κ'.w) → OutV Nx ((execOp (ev σ) o).run Tryz.prog κ.w)
structure Stab (ρ : List Res) (κ : Kr) (w : World) : Prop where
 keep : ∀ b, κ.S b → w.heap[b]? = κ.w.heap[b]?
 own : ∀ r ∈ ρ, r.holds w
theorem Inv.stab {β : Base} {ρ : List Res} {κ : Kr} (h : Inv β ρ κ) : Stab ρ κ κ.w := ⟨fun _ _ => rfl, h.own⟩
def OpQ (c : Bool) (o : Oper) (σ : Env) (ρ : List Res) (κ : Kr) (v : Value) : Prop :=
 c = true → ∀ w, Stab ρ κ w → (execOp (ev σ) o).run Tryz.prog w = .ok (.value v) w
@[irreducible] def gv (c : Bool) (v : Value) : Value := cond c v undef
theorem gv_true (v : Value) : gv true v = v := by unfold gv; rfl
theorem gv_false (v : Value) : gv false v = undef := by unfold gv; rfl
def yieldedBy (ops : Array Oper) (σ : Env) (j : Nat) : Option Bool :=
 match ((ops[j]?).bind (·.dst)).map σ with
 | some (.bool b) => some b
 | _ => none
theorem yielded_rel {n : Nat} {a : Act} {σ : Env} (h : Rel n a σ) (ops : Array Oper) (j : Nat) : yielded ops a.tmps j = yieldedBy ops σ j := by
 unfold yielded yieldedBy
 cases (ops[j]?).bind (·.dst) with
 | none => rfl
 | some d =>
  have h3 := h.2.2 d
  simp only [Option.bind_some, Option.map_some]
  rw [Array.getD_eq_getD_getElem?] at h3
  cases e : a.tmps[d]? with
  | none => rw [e] at h3; simp only [Option.getD_none] at h3; rw [← h3]; rfl
  | some v => rw [e] at h3; simp only [Option.getD_some] at h3; rw [h3]; rfl
theorem wanted_rel {n : Nat} {a : Act} {σ : Env} (h : Rel n a σ) (ops : Array Oper) (o : Oper) : Region.wanted o (yielded ops a.tmps) = Region.wanted o (yieldedBy ops σ) := by
 rw [show yielded ops a.tmps = yieldedBy ops σ from funext fun j => yielded_rel h ops j]
def GuardIs (ops : Array Oper) (σ : Env) (o : Oper) (c : Bool) : Prop := Region.wanted o (yieldedBy ops σ) = c
section
variable {ops : Array Oper} {σ : Env} {o : Oper} {j d : Nat} {p c : Bool}
theorem guard_none (h : o.guard = none) : GuardIs ops σ o true := by simp [GuardIs, Region.wanted, h]
theorem guard_t (h : o.guard = some (j, true)) (hd : (ops[j]?).bind (·.dst) = some d) (hs : σ d = .bool p) : GuardIs ops σ o p := by
 simp [GuardIs, Region.wanted, h, yieldedBy, hd, hs]
theorem guard_f (h : o.guard = some (j, false)) (hd : (ops[j]?).bind (·.dst) = some d) (hs : σ d = .bool p) : GuardIs ops σ o (!p) := by
 simp [GuardIs, Region.wanted, h, yieldedBy, hd, hs]
theorem guard_gt (h : o.guard = some (j, true)) (hd : (ops[j]?).bind (·.dst) = some d) (hs : σ d = gv c (.bool p)) : GuardIs ops σ o (c && p) := by
 simp only [GuardIs, Region.wanted, h, yieldedBy, hd, Option.map_some, hs]
 cases c
 ·rw [gv_false]; rfl
 ·rw [gv_true]; cases p <;> rfl
theorem guard_gf (h : o.guard = some (j, false)) (hd : (ops[j]?).bind (·.dst) = some d) (hs : σ d = gv c (.bool p)) : GuardIs ops σ o (c && !p) := by
 simp only [GuardIs, Region.wanted, h, yieldedBy, hd, Option.map_some, hs]
 cases c
 ·rw [gv_false]; rfl
 ·rw [gv_true]; cases p <;> rfl
end
def Ev (σ : Env) (c : Bool) (x : Operand) (v : Value) : Prop := c = true → ev σ x = v
theorem Ev.p {σ : Env} {c : Bool} {x : Operand} {v : Value} (h : ev σ x = v) : Ev σ c x v := fun _ => h
theorem Ev.g {σ : Env} {c : Bool} {x : Operand} {v : Value} (h : ev σ x = gv c v) : Ev σ c x v := fun hc => by rw [h, hc, gv_true]
section
variable {β : Base} {n : Nat} {ops : Array Oper} {o : Oper} {rest : List Oper} {K : Post} {σ : Env} {ρ : List Res} {κ : Kr}
theorem wl_nil (h : K σ ρ κ) : WL β n ops [] K σ ρ κ := fun hi a hr _ hk => wpList_nil (hk a σ ρ κ hr hi (.refl _) h)
theorem dst_some {n : Nat} {d : Option Nat} {t : Nat} (h : d = some t) (hlt : Nat.blt t n = true) : dstOk n d = true := by rw [h]; exact hlt
theorem updO_some {σ : Env} {d : Option Nat} {t : Nat} {v : Value} (h : d = some t) : updO σ d v = upd σ t v := by rw [h]; rfl
theorem wl_lO (hg : o.guard = none) (hd : dstOk n o.dst = true) (h : OpL o σ ρ κ fun v ρ' κ' => WL β n ops rest K (updO σ o.dst v) ρ' κ') : WL β n ops (o :: rest) K σ ρ κ :=
 fun hi a hr Q hk => wpList_plain hg fun _ hK => wp_of_out hr.eval (h β hi (fun v w => wpList Tryz.prog ops Q rest (a.put o.dst v) w) fun v _ _ hi' hle hw =>
  hw hi' _ (hr.put hd v) Q fun a' σ' ρ'' κ'' h1 h2 h3 h4 => hk a' σ' ρ'' κ'' h1 h2 (hle.trans h3) h4) fun _ _ h => hK _ _ h
theorem wl_l {d : Nat} (hg : o.guard = none) (hd : o.dst = some d) (hlt : Nat.blt d n = true) (h : OpL o σ ρ κ fun v ρ' κ' => WL β n ops rest K (upd σ d v) ρ' κ') : WL β n ops (o :: rest) K σ ρ κ :=
 wl_lO hg (dst_some hd hlt) (by simp only [updO_some hd]; exact h)
theorem wl_l0 (hg : o.guard = none) (hd : o.dst = none) (h : OpL o σ ρ κ fun _ ρ' κ' => WL β n ops rest K σ ρ' κ') : WL β n ops (o :: rest) K σ ρ κ :=
 wl_lO hg (by rw [hd]; rfl) (by rw [hd]; exact h)
theorem wl_q {v : Value} {d : Nat} (hg : o.guard = none) (hd : o.dst = some d) (hlt : Nat.blt d n = true) (h : OpQ true o σ ρ κ v) (hw : WL β n ops rest K (upd σ d v) ρ κ) : WL β n ops (o :: rest) K σ ρ κ :=
 fun hi a hr Q hk => wpList_plain hg fun _ hK => by
  unfold Oper.wp; rw [hr.eval, h rfl κ.w hi.stab]
  rw [← updO_some hd] at hw
  exact hK _ _ (hw hi _ (hr.put (dst_some hd hlt) v) Q hk)
theorem wl_qg {v : Value} {c : Bool} {d : Nat} (hg : GuardIs ops σ o c) (hd : o.dst = some d) (hlt : Nat.blt d n = true) (h : OpQ c o σ ρ κ v) (hw : WL β n ops rest K (upd σ d (gv c v)) ρ κ) : WL β n ops (o :: rest) K σ ρ κ :=
 fun hi a hr Q hk => by
  rw [← updO_some hd] at hw
  unfold wpList
  rw [wanted_rel hr, hg]
  cases c with
  | false =>
   rw [gv_false] at hw
   exact hw hi _ (hr.put (dst_some hd hlt) undef) Q hk
  | true =>
   rw [gv_true] at hw
   refine .inl ?_
   unfold Oper.wp; rw [hr.eval, h rfl κ.w hi.stab]
   exact hw hi _ (hr.put (dst_some hd hlt) v) Q hk
end
def seqK (β : Base) (n : Nat) (y : Code) (K : Exit → Post) : Exit → Post := fun e σ ρ κ => match e with | .normal => WC β n y K σ ρ κ | e => K e σ ρ κ
def blockK (id : Nat) (K : Exit → Post) : Exit → Post := fun e σ ρ κ => match e with | .exit id' => cond (Nat.beq id' id) (K .normal σ ρ κ) (K (.exit id') σ ρ κ) | e => K e σ ρ κ
section
variable {β : Base} {n : Nat} {x y : Code} {K : Exit → Post} {σ : Env} {ρ : List Res} {κ : Kr}
theorem wc_mono {K' : Exit → Post} (h : WC β n x K σ ρ κ) (hk : ∀ e σ' ρ' κ', Kle κ κ' → K e σ' ρ' κ' → K' e σ' ρ' κ') : WC β n x K' σ ρ κ :=
 fun hi a hr Q hq => h hi a hr Q fun e a' σ' ρ' κ' h1 h2 h3 h4 => hq e a' σ' ρ' κ' h1 h2 h3 (hk e σ' ρ' κ' h3 h4)
theorem wc_seq (h : WC β n x (seqK β n y K) σ ρ κ) : WC β n (.seq x y) K σ ρ κ :=
 fun hi a hr Q hq => wp_seq (h hi a hr _ fun e a' σ' ρ' κ' h1 h2 h3 h4 => by
  cases e with
  | normal => exact h4 h2 a' h1 Q fun e a'' σ'' ρ'' κ'' g1 g2 g3 g4 => hq e a'' σ'' ρ'' κ'' g1 g2 (h3.trans g3) g4
  | _ => exact hq _ a' σ' ρ' κ' h1 h2 h3 h4)
theorem wc_skip (h : K .normal σ ρ κ) : WC β n .skip K σ ρ κ := fun hi a hr _ hq => wp_skip (hq _ a σ ρ κ hr hi (.refl _) h)
theorem wc_ret (h : K .ret σ ρ κ) : WC β n .ret K σ ρ κ := fun hi a hr _ hq => wp_ret (hq _ a σ ρ κ hr hi (.refl _) h)
theorem wc_exit {id : Nat} (h : K (.exit id) σ ρ κ) : WC β n (.exit id) K σ ρ κ := fun hi a hr _ hq => wp_exit (hq _ a σ ρ κ hr hi (.refl _) h)
theorem wc_block {id : Nat} (h : WC β n x (blockK id K) σ ρ κ) : WC β n (.block id x) K σ ρ κ :=
 fun hi a hr Q hq => wp_block (h hi a hr _ fun e a' σ' ρ' κ' h1 h2 h3 h4 => by
  cases e with
  | exit id' =>
   simp only [blockK] at h4
   simp only [Exit.inBlock]
   cases hb : Nat.beq id' id
   ·have hne : id' ≠ id := fun h => by rw [h] at hb; simp at hb
    rw [hb] at h4; rw [if_neg hne]; exact hq _ a' σ' ρ' κ' h1 h2 h3 h4
   ·have he := Nat.eq_of_beq_eq_true hb
    rw [hb] at h4; rw [if_pos he]; exact hq _ a' σ' ρ' κ' h1 h2 h3 h4
  | _ => exact hq _ a' σ' ρ' κ' h1 h2 h3 h4)
theorem wc_cond {c : Operand} {p : Bool} (hc : ev σ c = .bool p) (ht : p = true → WC β n x K σ ρ κ) (hf : p = false → WC β n y K σ ρ κ) : WC β n (.cond c x y) K σ ρ κ :=
 fun hi a hr Q hq => wp_cond_split (t := p) (by rw [hr.eval, hc]) (fun h => ht h hi a hr Q hq) (fun h => hf h hi a hr Q hq)
theorem wc_condT {c : Operand} (hc : ev σ c = .bool true) (h : WC β n x K σ ρ κ) : WC β n (.cond c x y) K σ ρ κ := wc_cond hc (fun _ => h) (fun h => by cases h)
theorem wc_condF {c : Operand} (hc : ev σ c = .bool false) (h : WC β n y K σ ρ κ) : WC β n (.cond c x y) K σ ρ κ := wc_cond hc (fun h => by cases h) (fun _ => h)
theorem wc_region {id : Nat} {l : List Oper} (h : WL β n l.toArray l (K .normal) σ ρ κ) : WC β n (.region id l.toArray false) K σ ρ κ :=
 fun hi a hr Q hq => wp_region_lit (h hi a hr Q fun a' σ' ρ' κ' h1 h2 h3 h4 => hq _ a' σ' ρ' κ' h1 h2 h3 h4)
theorem wc_loop {X : Type} (J : X → Env → List Res → Kr → Prop) (μ : X → Nat) (x0 : X) (h0 : J x0 σ ρ κ)
    (round : ∀ z σ' ρ' κ', Kle κ κ' → J z σ' ρ' κ' → WC β n x (fun e σ'' ρ'' κ'' => match e with | .normal => ∃ z', J z' σ'' ρ'' κ'' ∧ μ z' < μ z | e => K e σ'' ρ'' κ'') σ' ρ' κ') : WC β n (.loop x) K σ ρ κ :=
  fun hi a hr Q hq b k cs => by
    have key : ∀ (m : Nat) (z : X) (a : Act) (σ' : Env) (ρ' : List Res) (κ' : Kr), μ z = m → Rel n a σ' → Inv β ρ' κ' → Kle κ κ' → J z σ' ρ' κ' →
        ∃ e a' w', Q e a' w' ∧ Arrives Tryz.prog (lone (b.at a (.code x :: .inLoop x :: k)) cs κ'.w) b k cs e a' w' := by
      intro m
      induction m using Nat.strongRecOn with
      | _ m ih =>
        intro z a σ' ρ' κ' hm hr' hi' hle hJ
        obtain ⟨e, a₁, w₁, hq₁, harr⟩ := round z σ' ρ' κ' hle hJ hi' a hr' (fun e a w => match e with | .normal => ∃ z' σ'' ρ'' κ'', w = κ''.w ∧ Rel n a σ'' ∧ Inv β ρ'' κ'' ∧ Kle κ κ'' ∧ J z' σ'' ρ'' κ'' ∧ μ z' < μ z | e => Q e a w)
          (fun e a'' σ'' ρ'' κ'' g1 g2 g3 g4 => by
            cases e with
            | normal => obtain ⟨z', hz, hlt⟩ := g4; exact ⟨z', σ'', ρ'', κ'', rfl, g1, g2, hle.trans g3, hz, hlt⟩
            | _ => exact hq _ a'' σ'' ρ'' κ'' g1 g2 (hle.trans g3) g4) b (.inLoop x :: k) cs
        cases e with
        | normal =>
          obtain ⟨z', σ'', ρ'', κ'', rfl, g1, g2, g3, g4, hlt⟩ := hq₁
          obtain ⟨e₂, a₂, w₂, hq₂, harr₂⟩ := ih (μ z') (hm ▸ hlt) z' a₁ σ'' ρ'' κ'' rfl g1 g2 g3 g4
          exact ⟨e₂, a₂, w₂, hq₂, .of_steps (Steps.trans harr (.one step_inLoop)) harr₂⟩
        | exit id => exact ⟨_, a₁, w₁, hq₁, .pass (x := .inLoop x) rfl (fun _ _ => .inl (by simp)) harr⟩
        | goto l => exact ⟨_, a₁, w₁, hq₁, .pass (x := .inLoop x) rfl (fun _ _ => .inl (by simp)) harr⟩
        | ret => exact ⟨_, a₁, w₁, hq₁, .pass (x := .inLoop x) rfl (fun _ _ => .inl (by simp)) harr⟩
        | panic ch => exact ⟨_, a₁, w₁, hq₁, .pass (x := .inLoop x) rfl (fun _ _ => .inl (by simp)) harr⟩
        | outgrown => exact ⟨_, a₁, w₁, hq₁, .pass (x := .inLoop x) rfl (fun _ _ => .inl (by simp)) harr⟩
    obtain ⟨e, a', w', hq', harr⟩ := key _ x0 a σ ρ κ rfl hr hi (.refl _) h0
    exact ⟨e, a', w', hq', .of_steps (.one step_loop) harr⟩
end
end SX
end Go.Proofs.YtiijbkaiipjpkaaGreatDoor
set_option maxRecDepth 100000
namespace Go.Proofs.YtiijbkaiipjpkaaGreatDoor
namespace SX
open Go
theorem inf_get {t : Nat} {z : Value} {s b : Nat} (h : inf t = some (z, s, b)) : ∃ i, Tryz.prog.info? t = some i ∧ i.zero = some z ∧ i.size = s ∧ i.bytes = b := by
 have := inf_ok h
 cases hi : Tryz.prog.info? t with
 | none => rw [hi] at this; cases this
 | some i => rw [hi] at this; simp at this; exact ⟨i, rfl, this.1, this.2.1, this.2.2⟩
def isAggD : TypeDesc → Bool
 | .struct _ | .array _ _ => true
 | _ => false
theorem run_isAgg {t : Nat} {d : TypeDesc} (h : und t = some d) (w : World) : (isAgg t).run Tryz.prog w = .ok (isAggD d) w := by
 simp only [isAgg, Sem.run_bind, run_underlying (und_ok h), Result.andThen_ok]
 cases d <;> rfl
theorem run_sizeOf {t : Nat} {z : Value} {s b : Nat} (h : inf t = some (z, s, b)) (w : World) : (sizeOf t).run Tryz.prog w = .ok s w := by
 obtain ⟨i, hi, _, hs, _⟩ := inf_get h
 simp [sizeOf, typeInfo, hi, hs]
theorem run_zeroValue {t : Nat} {z : Value} {s b : Nat} (h : inf t = some (z, s, b)) (w : World) : (zeroValue t).run Tryz.prog w = .ok z w := by
 obtain ⟨i, hi, hz, _⟩ := inf_get h
 simp [zeroValue, typeInfo, hi, hz]
def Res.b (b : Nat) (T : Nat) (cs : List Value) : Res := ⟨some b, fun o => o = some (.cells cs.toArray T (0, 0))⟩
theorem add_none (b off k : Nat) : (⟨b, off, none⟩ : Addr).add k = ⟨b, off + k, none⟩ := by unfold Addr.add; split <;> simp_all
section
variable {o : Oper} {σ : Env} {ρ : List Res} {κ : Kr} {c : Bool} {x y : Operand}
theorem oq_move {v : Value} (ho : o.op = .move x) (hx : Ev σ c x v) : OpQ c o σ ρ κ v := fun hc w _ => by
 simp [execOp, ho, hx hc]
theorem oq_assign {v : Value} (ho : o.op = .assign x) (hx : Ev σ c x v) : OpQ c o σ ρ κ v := fun hc w _ => by
 simp [execOp, ho, hx hc]
theorem oq_or {cc a b : Operand} {p q : Bool} (ho : o.op = .pick cc a b) (h1 : Ev σ c cc (.bool p)) (h2 : Ev σ c a (.bool true)) (h3 : Ev σ (c && !p) b (.bool q)) : OpQ c o σ ρ κ (.bool (p || q)) := fun hc w _ => by
 subst hc
 simp only [execOp, ho, h1 rfl, h2 rfl]
 cases p
 ·simp [h3 rfl, asBool]
 ·simp [asBool]
theorem oq_and {cc a b : Operand} {p q : Bool} (ho : o.op = .pick cc a b) (h1 : Ev σ c cc (.bool p)) (h2 : Ev σ c b (.bool false)) (h3 : Ev σ (c && p) a (.bool q)) : OpQ c o σ ρ κ (.bool (p && q)) := fun hc w _ => by
 subst hc
 simp only [execOp, ho, h1 rfl, h2 rfl]
 cases p
 ·simp [asBool]
 ·simp [h3 rfl, asBool]
section
variable {t t' : Nat} {k : IntKind} {a b : Int}
theorem run_eqGuard_int (op : BinOp) (w : World) : (eqGuard op t x y (.int k a) (.int k b)).run Tryz.prog w = .ok () w := by
 unfold eqGuard; split <;> simp
theorem oq_cmp {op : BinOp} {r : Bool} (ho : o.op = .binOp op t x y t') (hx : Ev σ c x (.int k a)) (hy : Ev σ c y (.int k b))
    (hr : (match op with | .eql => some (a == b) | .neq => some (a != b) | .lss => some (decide (a < b)) | .leq => some (decide (a ≤ b)) | .gtr => some (decide (b < a)) | .geq => some (decide (b ≤ a)) | _ => none) = some r) : OpQ c o σ ρ κ (.bool r) := fun hc w _ => by
  simp only [execOp, ho, hx hc, hy hc, Sem.run_bind, run_eqGuard_int, Result.andThen_ok]
  cases op <;> simp at hr <;> subst hr <;> simp [binOp, Op.intCmp]
theorem oq_arith {op : BinOp} {r : Int} (ho : o.op = .binOp op t x y t') (hx : Ev σ c x (.int k a)) (hy : Ev σ c y (.int k b))
    (hr : (match op with | .add => some (a + b) | .sub => some (a - b) | .mul => some (a * b) | _ => none) = some r) : OpQ c o σ ρ κ (.int k (k.wrap r)) := fun hc w _ => by
  simp only [execOp, ho, hx hc, hy hc, Sem.run_bind, run_eqGuard_int, Result.andThen_ok]
  cases op <;> simp at hr <;> subst hr <;> simp [binOp, Op.intArith]
theorem wrap_i64 {r : Int} (h : -9223372036854775808 ≤ r ∧ r ≤ 9223372036854775807) : IntKind.i64.wrap r = r := IntWalk.i64_in r h
theorem oq_arith64 {op : BinOp} {r : Int} (ho : o.op = .binOp op t x y t') (hx : Ev σ c x (.int .i64 a)) (hy : Ev σ c y (.int .i64 b))
    (hr : (match op with | .add => some (a + b) | .sub => some (a - b) | .mul => some (a * b) | _ => none) = some r) (hb : c = true → -9223372036854775808 ≤ r ∧ r ≤ 9223372036854775807) : OpQ c o σ ρ κ (.int .i64 r) := fun hc => by
  have h := oq_arith (ρ := ρ) (κ := κ) ho hx hy hr hc
  rwa [wrap_i64 (hb hc)] at h
theorem oq_quo {r : Int} (ho : o.op = .binOp .quo t x y t') (hx : Ev σ c x (.int k a)) (hy : Ev σ c y (.int k b)) (hb : c = true → b ≠ 0) (hr : k.wrap (a.tdiv b) = r) : OpQ c o σ ρ κ (.int k r) := fun hc w _ => by
 simp only [execOp, ho, hx hc, hy hc, Sem.run_bind, run_eqGuard_int, Result.andThen_ok]
 simp [binOp, Op.intDiv, hb hc, hr]
theorem oq_rem {r : Int} (ho : o.op = .binOp .rem t x y t') (hx : Ev σ c x (.int k a)) (hy : Ev σ c y (.int k b)) (hb : c = true → b ≠ 0) (hr : a.tmod b = r) : OpQ c o σ ρ κ (.int k r) := fun hc w _ => by
 simp only [execOp, ho, hx hc, hy hc, Sem.run_bind, run_eqGuard_int, Result.andThen_ok]
 simp [binOp, Op.intDiv, hb hc, hr]
theorem oq_bits {op : BinOp} {r : Int} (ho : o.op = .binOp op t x y t') (hx : Ev σ c x (.int k a)) (hy : Ev σ c y (.int k b))
    (hr : (match op with | .and => some (k.wrap ((BitVec.ofInt k.bits a &&& BitVec.ofInt k.bits b).toNat : Int)) | .or => some (k.wrap ((BitVec.ofInt k.bits a ||| BitVec.ofInt k.bits b).toNat : Int)) | .xor => some (k.wrap ((BitVec.ofInt k.bits a ^^^ BitVec.ofInt k.bits b).toNat : Int)) | _ => none) = some r) : OpQ c o σ ρ κ (.int k r) := fun hc w _ => by
  simp only [execOp, ho, hx hc, hy hc, Sem.run_bind, run_eqGuard_int, Result.andThen_ok]
  cases op <;> simp only [Option.some.injEq, reduceCtorEq] at hr <;> subst hr <;> simp [binOp, Op.intBits]
theorem oq_shift {op : BinOp} {k' : IntKind} {r : Int} (ho : o.op = .binOp op t x y t') (hx : Ev σ c x (.int k a)) (hy : Ev σ c y (.int k' b)) (h0 : c = true → 0 ≤ b)
    (hr : (match op with | .shl => some (k.wrap (a * 2 ^ min b.toNat k.bits)) | .shr => some (a.fdiv (2 ^ min b.toNat k.bits)) | _ => none) = some r) : OpQ c o σ ρ κ (.int k r) := fun hc w _ => by
  simp only [execOp, ho, hx hc, hy hc, Sem.run_bind]
  have h0' : ¬ b < 0 := by have := h0 hc; omega
  cases op <;> simp only [Option.some.injEq, reduceCtorEq] at hr <;> subst hr <;> simp [eqGuard, binOp, Op.shift, h0']
theorem oq_neg {r : Int} {ty : Nat} (ho : o.op = .unOp .neg ty x) (hx : Ev σ c x (.int k a)) (hr : k.wrap (0 - a) = r) : OpQ c o σ ρ κ (.int k r) := fun hc w _ => by
 simp [execOp, ho, hx hc, Op.unary, Op.intArith, ← hr]
theorem oq_conv {k' : IntKind} {r : Int} {s d : Nat} {ds : TypeDesc} (ho : o.op = .convert s d x) (hs : und s = some ds) (hd : und d = some (.int k')) (hx : Ev σ c x (.int k a)) (hr : k'.wrap a = r) : OpQ c o σ ρ κ (.int k' r) := fun hc w _ => by
 simp only [execOp, ho, hx hc, convert, Sem.run_bind, run_underlying (und_ok hs), run_underlying (und_ok hd), Result.andThen_ok]
 simp [Conv.intToInt, hr]
end
theorem oq_not {p : Bool} {ty : Nat} (ho : o.op = .unOp .not ty x) (hx : Ev σ c x (.bool p)) : OpQ c o σ ρ κ (.bool !p) := fun hc w _ => by
 simp [execOp, ho, hx hc, Op.unary]
theorem run_equalIn_bool {t : Nat} {p q : Bool} (hu : und t = some .bool) (d : Nat) (w : World) : (Op.equalIn (d + 1) t (.bool p) (.bool q)).run Tryz.prog w = .ok (p == q) w := by
 simp [Op.equalIn, run_underlying (und_ok hu)]
theorem oq_eqB {op : BinOp} {t t' : Nat} {p q r : Bool} (ho : o.op = .binOp op t x y t') (hu : und t = some .bool) (hx : Ev σ c x (.bool p)) (hy : Ev σ c y (.bool q))
    (hr : (match op with | .eql => some (p == q) | .neq => some (p != q) | _ => none) = some r) : OpQ c o σ ρ κ (.bool r) := fun hc w _ => by
  have he : (Op.equal t (.bool p) (.bool q)).run Tryz.prog w = .ok (p == q) w := run_equalIn_bool hu 9999 w
  simp only [execOp, ho, hx hc, hy hc, Sem.run_bind]
  cases op <;> simp only [Option.some.injEq, reduceCtorEq] at hr <;> subst hr <;> simp [eqGuard, binOp, he, bne]
theorem beq_str (s u : ByteArray) : (s.toList == u.toList) = decide (s = u) := by
 rw [Bool.eq_iff_iff, ByteArray.toList_eq, ByteArray.toList_eq]
 simp only [beq_iff_eq, decide_eq_true_eq]
 constructor
 ·intro h; obtain ⟨⟨x⟩⟩ := s; obtain ⟨⟨y⟩⟩ := u; simp at h; subst h; rfl
 ·intro h; rw [h]
theorem oq_str {op : BinOp} {t t' : Nat} {s u : ByteArray} {r : Bool} (ho : o.op = .binOp op t x y t') (hx : Ev σ c x (.string s)) (hy : Ev σ c y (.string u))
    (hr : (match op with | .eql => some (decide (s = u)) | .neq => some (!decide (s = u)) | .lss => some (Op.bytesLess s.toList u.toList) | .leq => some (Op.bytesLess s.toList u.toList || decide (s = u)) | .gtr => some (!(Op.bytesLess s.toList u.toList || decide (s = u))) | .geq => some (!Op.bytesLess s.toList u.toList) | _ => none) = some r) : OpQ c o σ ρ κ (.bool r) := fun hc w _ => by
  simp only [execOp, ho, hx hc, hy hc, Sem.run_bind]
  cases op <;> simp only [Option.some.injEq, reduceCtorEq] at hr <;> subst hr <;> simp only [eqGuard, binOp, Op.stringOp, beq_str] <;> simp
theorem oq_cat {t t' : Nat} {s u : ByteArray} (ho : o.op = .binOp .add t x y t') (hx : Ev σ c x (.string s)) (hy : Ev σ c y (.string u)) (hb : c = true → s.size + u.size ≤ 9223372036854775807) : OpQ c o σ ρ κ (.string (s ++ u)) := fun hc w _ => by
 simp only [execOp, ho, hx hc, hy hc, Sem.run_bind]
 have hm : IntKind.i64.max = 9223372036854775807 := by decide
 have h : ¬ (((s.size + u.size : Nat) : Int) > IntKind.i64.max) := by have := hb hc; rw [hm]; omega
 simp only [eqGuard, binOp, Op.stringOp, if_neg h]
 simp
theorem oq_nilCheck {a : Addr} (ho : o.op = .nilCheck x) (hx : Ev σ c x (.pointer (some a))) : OpQ c o σ ρ κ (.pointer (some a)) := fun hc w _ => by
 simp [execOp, ho, hx hc]
theorem fld_get {t f k ty : Nat} {l : List (Nat × Nat)} (h1 : fldL t = some l) (h2 : l[f]? = some (k, ty)) : ∃ (fs : Array Field) (fd : Field), und t = some (.struct fs) ∧ fs[f]? = some fd ∧ fd.offset = k ∧ fd.type = ty := by
 obtain ⟨fs, hu, hl⟩ := fldL_ok h1
 rw [← hl, List.getElem?_map] at h2
 cases hf : fs.toList[f]? with
 | none => rw [hf] at h2; cases h2
 | some fd =>
  rw [hf] at h2; simp only [Option.map_some, Option.some.injEq, Prod.mk.injEq] at h2
  exact ⟨fs, fd, hu, by simpa using hf, h2.1, h2.2⟩
theorem oq_fieldAddr {s f b off k ty : Nat} {l : List (Nat × Nat)} {z : Value} {sz by' : Nat} (ho : o.op = .fieldAddr s x f) (h1 : fldL s = some l) (h2 : l[f]? = some (k, ty)) (hi : inf ty = some (z, sz, by')) (h0 : Nat.blt 0 sz = true)
    (hx : Ev σ c x (.pointer (some ⟨b, off, none⟩))) : OpQ c o σ ρ κ (.pointer (some ⟨b, off + k, none⟩)) := fun hc w _ => by
  obtain ⟨fs, fd, hu, hf, rfl, rfl⟩ := fld_get h1 h2
  have hs : sz ≠ 0 := by intro h; subst h; cases h0
  simp only [execOp, ho, hx hc, Instr.fieldAt, Sem.run_bind, run_underlying (und_ok hu), Result.andThen_ok, hf, fieldPlace]
  simp [Instr.sureAddr, run_sizeOf hi, hs, add_none]
def cellsL (v : Value) : List Value := match v with | .agg cs => cs.toList | v => [v]
theorem cellsL_eq (v : Value) : v.cells.toList = cellsL v := by cases v <;> rfl
def readAs (t : Nat) (cs : List Value) (off : Nat) : Option Value :=
 match und t, inf t with
 | some d, some (_, sz, _) => cond (isAggD d) (cond (Nat.ble (off + sz) cs.length) (some (.agg ((cs.drop off).take sz).toArray)) none) cs[off]?
 | _, _ => none
theorem oq_field {t f k ty : Nat} {l : List (Nat × Nat)} {cs : List Value} {v : Value} (ho : o.op = .field t x f) (h1 : fldL t = some l) (h2 : l[f]? = some (k, ty)) (hx : Ev σ c x (.agg cs.toArray)) (hr : readAs ty cs k = some v) : OpQ c o σ ρ κ v := fun hc w _ => by
 obtain ⟨fs, fd, hu, hf, rfl, rfl⟩ := fld_get h1 h2
 simp only [execOp, ho, hx hc, Instr.field, Sem.run_bind, run_underlying (und_ok hu), Result.andThen_ok, hf]
 unfold readAs at hr
 split at hr
 ·rename_i d z sz b hd hi
  simp only [asAgg, part, Sem.run_bind, Sem.run_pure, Result.andThen_ok, run_isAgg hd]
  cases hag : isAggD d
  ·rw [hag] at hr; simp only [cond_false] at hr
   simp [hr]
  ·rw [hag] at hr; simp only [cond_true] at hr
   cases hle : Nat.ble (fd.offset + sz) cs.length
   ·rw [hle] at hr; cases hr
   ·rw [hle] at hr; injection hr with hr; subst hr
    simp [run_sizeOf hi, List.extract_toArray]
 ·cases hr
theorem oq_extract {i : Nat} {vs : List Value} {v : Value} (ho : o.op = .extract x i) (hx : Ev σ c x (.tuple vs.toArray)) (hr : vs[i]? = some v) : OpQ c o σ ρ κ v := fun hc w _ => by
 simp [execOp, ho, hx hc, Instr.extract, hr]
theorem oq_makeFunc {fn : Fn} {l1 l2 : List Operand} (ho : o.op = .makeFunc fn l1.toArray l2.toArray) : OpQ true o σ ρ κ (.func fn (l1.map (ev σ)).toArray (l2.map (ev σ)).toArray) := fun _ w _ => by
 simp [execOp, ho, Instr.makeFunc]
theorem cell_of_cells {w : World} {b T : Nat} {cs : List Value} {fr : Nat × Nat} (h : w.heap[b]? = some (.cells cs.toArray T fr)) (j : Nat) : w.cell? ⟨b, j, none⟩ = cs[j]? := by
 simp [World.cell?, h]
theorem run_readAs {w : World} {t b off : Nat} {cs : List Value} {v : Value} (hc : ∀ j u, cs[j]? = some u → w.cell? ⟨b, off + j, none⟩ = some u) (hr : readAs t cs 0 = some v) : (loadVar t ⟨b, off, none⟩).run Tryz.prog w = .ok v w := by
 unfold readAs at hr
 split at hr
 ·rename_i d z sz by' hd hi
  simp only [loadVar, Sem.run_bind, run_isAgg hd, Result.andThen_ok]
  cases hag : isAggD d
  ·rw [hag] at hr; simp only [cond_false] at hr
   have := hc 0 v hr
   simp only [Nat.add_zero] at this
   simp [this]
  ·rw [hag] at hr; simp only [cond_true] at hr
   cases hle : Nat.ble (0 + sz) cs.length
   ·rw [hle] at hr; cases hr
   ·rw [hle] at hr; injection hr with hr; subst hr
    have hle' : sz ≤ cs.length := by have := Nat.le_of_ble_eq_true hle; omega
    have hl : (cs.take sz).length = sz := by simp; omega
    have h2 := run_loadCells_list (P := Tryz.prog) w ⟨b, off, none⟩ (cs.take sz) (fun j u hu => by
     rw [add_none]; refine hc j u ?_
     rw [List.getElem?_take] at hu; split at hu
     ·exact hu
     ·cases hu)
    rw [hl] at h2
    simp [run_sizeOf hi, h2]
 ·cases hr
theorem oq_load_b {t b off T : Nat} {cs : List Value} {v : Value} (ho : o.op = .load t x) (hx : Ev σ c x (.pointer (some ⟨b, off, none⟩))) (hm : Res.b b T cs ∈ ρ) (hr : readAs t (cs.drop off) 0 = some v) : OpQ c o σ ρ κ v := fun hc w hs => by
 have hb : w.heap[b]? = some (.cells cs.toArray T (0, 0)) := hs.own _ hm
 have := run_readAs (w := w) (t := t) (b := b) (off := off) (cs := cs.drop off) (v := v) (fun j u hu => by rw [cell_of_cells hb]; rwa [List.getElem?_drop] at hu) hr
 simp [execOp, ho, hx hc, Instr.loadAt, Instr.sureAddr, this]
def Sh (κ : Kr) (b off : Nat) (cs : List Value) : Prop := κ.S b ∧ ∀ j u, cs[j]? = some u → κ.w.cell? ⟨b, off + j, none⟩ = some u
theorem Sh.mono {κ κ' : Kr} {b off : Nat} {cs : List Value} (h : Sh κ b off cs) (k : Kle κ κ') : Sh κ' b off cs :=
 ⟨k.sh b h.1, fun j u hu => by have := h.2 j u hu; unfold World.cell? at *; rw [k.keep b h.1]; exact this⟩
theorem oq_load_s {t b off : Nat} {cs : List Value} {v : Value} (ho : o.op = .load t x) (hx : Ev σ c x (.pointer (some ⟨b, off, none⟩))) (hm : c = true → Sh κ b off cs) (hr : readAs t cs 0 = some v) : OpQ c o σ ρ κ v := fun hc w hs => by
 have h := hm hc
 have := run_readAs (w := w) (t := t) (b := b) (off := off) (cs := cs) (v := v) (fun j u hu => by have := h.2 j u hu; unfold World.cell? at *; rw [hs.keep b h.1]; exact this) hr
 simp [execOp, ho, hx hc, Instr.loadAt, Instr.sureAddr, this]
theorem oq_len {t n cp : Nat} {a : Option Addr} {E : Nat} (ho : o.op = .call { callee := .builtin .len, args := #[x], argTypes := #[t] }) (hu : und t = some (.slice E)) (hx : Ev σ c x (.slice a n cp)) : OpQ c o σ ρ κ (.int .i64 (n : Int)) := fun hc w _ => by
 simp [execOp, ho, resolve, invoke, builtin, Builtin.len_, hx hc, run_underlying (und_ok hu), goInt]
theorem oq_lenS {t : Nat} {s : ByteArray} (ho : o.op = .call { callee := .builtin .len, args := #[x], argTypes := #[t] }) (hu : und t = some .string) (hx : Ev σ c x (.string s)) : OpQ c o σ ρ κ (.int .i64 (s.size : Int)) := fun hc w _ => by
 simp [execOp, ho, resolve, invoke, builtin, Builtin.len_, hx hc, run_underlying (und_ok hu), goInt]
theorem oq_min {t : List Nat} {k : IntKind} {a b : Int} (ho : o.op = .call { callee := .builtin .min, args := #[x, y], argTypes := t.toArray }) (hx : Ev σ c x (.int k a)) (hy : Ev σ c y (.int k b)) : OpQ c o σ ρ κ (.int k (if b < a then b else a)) := fun hc w _ => by
 simp [execOp, ho, resolve, invoke, builtin, Builtin.min_, Builtin.min2, hx hc, hy hc]
theorem oq_max {t : List Nat} {k : IntKind} {a b : Int} (ho : o.op = .call { callee := .builtin .max, args := #[x, y], argTypes := t.toArray }) (hx : Ev σ c x (.int k a)) (hy : Ev σ c y (.int k b)) : OpQ c o σ ρ κ (.int k (if a < b then b else a)) := fun hc w _ => by
 simp [execOp, ho, resolve, invoke, builtin, Builtin.max_, Builtin.max2, hx hc, hy hc]
theorem oq_index {t b off n cp E sz by' : Nat} {k : IntKind} {i : Int} {j : Nat} {z : Value} (ho : o.op = .indexAddr t x y) (hu : und t = some (.slice E)) (hi : inf E = some (z, sz, by'))
    (hx : Ev σ c x (.slice (some ⟨b, off, none⟩) n cp)) (hy : Ev σ c y (.int k i)) (hj : c = true → i = (j : Int)) (hlt : c = true → j < n) : OpQ c o σ ρ κ (.pointer (some ⟨b, off + j * sz, none⟩)) := fun hc w _ => by
  have h1 := hj hc; have h2 := hlt hc
  simp only [execOp, ho, hx hc, hy hc, Instr.indexAt, asIntOf, Sem.run_bind, Sem.run_pure, Result.andThen_ok, run_underlying (und_ok hu)]
  simp [h1, h2, run_sizeOf hi, add_none]
theorem oq_indexS {t : Nat} {s : ByteArray} {k : IntKind} {i : Int} {j : Nat} (ho : o.op = .index t x y) (hu : und t = some .string)
    (hx : Ev σ c x (.string s)) (hy : Ev σ c y (.int k i)) (hj : c = true → i = (j : Int)) (hlt : c = true → j < s.size) : OpQ c o σ ρ κ (.int .u8 ((s.data.toList.getD j 0).toNat : Int)) := fun hc w _ => by
  have h1 := hj hc; have h2 := hlt hc
  have e : s[j]? = some (s.data.toList.getD j 0) := by
    have h3 : j < s.data.toList.length := by simpa using h2
    rw [getElem?_pos s j h2, List.getD_eq_getElem?_getD, List.getElem?_eq_getElem h3]; rfl
  simp only [execOp, ho, hx hc, hy hc, Instr.index, asIntOf, Sem.run_bind, Sem.run_pure, Result.andThen_ok, run_underlying (und_ok hu)]
  simp [h1, e]
end
end SX
end Go.Proofs.YtiijbkaiipjpkaaGreatDoor
set_option maxRecDepth 100000
namespace Go.Proofs.YtiijbkaiipjpkaaGreatDoor
namespace SX
open Go
theorem heap_alloc_lt {w : World} {o : Obj} {b : Nat} (h : b < w.heap.size) : (w.alloc o).heap[b]? = w.heap[b]? := by
 simp only [World.alloc]; rw [Array.getElem?_push_lt h, Array.getElem?_eq_getElem h]
theorem heap_alloc_eq (w : World) (o : Obj) : (w.alloc o).heap[w.heap.size]? = some o := by simp only [World.alloc]; exact Array.getElem?_push_size
theorem mem_mid {α : Type} {s r : α} {l1 l2 : List α} (h : s ∈ l1 ++ r :: l2) (hne : s ≠ r) : s ∈ l1 ++ l2 := by
 rcases List.mem_append.1 h with h | h
 ·exact List.mem_append.2 (.inl h)
 ·rcases List.mem_cons.1 h with h | h
  ·exact absurd h hne
  ·exact List.mem_append.2 (.inr h)
theorem mem_mid' {α : Type} {s r : α} {l1 l2 : List α} (h : s ∈ l1 ++ l2) : s ∈ l1 ++ r :: l2 := by
 rcases List.mem_append.1 h with h | h
 ·exact List.mem_append.2 (.inl h)
 ·exact List.mem_append.2 (.inr (List.mem_cons_of_mem _ h))
theorem Res.holds_of {r : Res} {w w' : World} (h : r.holds w) (hb : ∀ b, r.blk = some b → w'.heap[b]? = w.heap[b]?) : r.holds w' := by
 unfold Res.holds at *
 cases hr : r.blk with
 | none => rw [hr] at h; exact h
 | some b => rw [hr] at h; simp only at h ⊢; rw [hb b hr]; exact h
section
variable {β : Base} {ρ : List Res} {κ : Kr}
theorem kle_alloc (h : ∀ b, κ.S b → b < κ.w.heap.size) (o : Obj) : Kle κ ⟨κ.w.alloc o, κ.S⟩ :=
 ⟨by simp, fun _ h => h, fun b hb => heap_alloc_lt (h b hb)⟩
theorem Inv.alloc (h : Inv β ρ κ) (o : Obj) (r : Res) (hb : r.blk = some κ.w.heap.size) (hs : r.says (some o)) : Inv β (r :: ρ) ⟨κ.w.alloc o, κ.S⟩ := by
 obtain ⟨hle, hfin, hown, hblk, hnd⟩ := h
 refine ⟨⟨hle.kle.trans (kle_alloc hfin o), fun b hb hm => (heap_alloc_lt (Nat.lt_of_lt_of_le hb hle.kle.size)).trans (hle.same b hb hm), hle.shNew, hle.os, hle.tape, hle.output, hle.drawn⟩, fun b hb => by have := hfin b hb; simp; omega, ?_, ?_, ?_⟩
 ·intro s hs'
  rcases List.mem_cons.1 hs' with rfl | hs'
  ·unfold Res.holds; rw [hb]; simp only; rw [heap_alloc_eq]; exact hs
  ·exact Res.holds_of (hown s hs') fun b hb => heap_alloc_lt (hblk s hs' b hb).1
 ·intro s hs' b hb'
  rcases List.mem_cons.1 hs' with rfl | hs'
  ·rw [hb] at hb'; injection hb' with hb'; subst hb'
   exact ⟨by simp, fun hS => absurd (hfin _ hS) (by omega), .inl hle.kle.size⟩
  ·obtain ⟨h1, h2, h3⟩ := hblk s hs' b hb'
   exact ⟨by simp; omega, h2, h3⟩
 ·refine List.Pairwise.cons ?_ hnd
  intro s hs' b hb' hb''
  rw [hb] at hb'; injection hb' with hb'; subst hb'
  have := (hblk s hs' _ hb'').1; omega
theorem Inv.turn (h : Inv β ρ κ) {r r' : Res} {l1 l2 : List Res} {b : Nat} {w' : World} (hρ : ρ = l1 ++ r :: l2) (hb : r.blk = some b) (hb' : r'.blk = some b)
    (hw : ∀ i, i ≠ b → w'.heap[i]? = κ.w.heap[i]?) (hz : w'.heap.size = κ.w.heap.size) (hs : r'.says w'.heap[b]?) (ho : w'.os = κ.w.os) (ht : w'.tape = κ.w.tape) (hu : w'.output = κ.w.output) (hdr : κ.w.drawn ≤ w'.drawn) :
    Inv β (l1 ++ r' :: l2) ⟨w', κ.S⟩ ∧ Kle κ ⟨w', κ.S⟩ := by
  obtain ⟨hle, hfin, hown, hblk, hnd⟩ := h
  have hr : r ∈ ρ := by rw [hρ]; simp
  obtain ⟨hlt, hnS, hbase⟩ := hblk r hr b hb
  have hk : Kle κ ⟨w', κ.S⟩ := ⟨by rw [hz]; exact Nat.le_refl _, fun _ h => h, fun i hi => hw i fun e => hnS (e ▸ hi)⟩
  rw [hρ] at hnd
  have hcross : ∀ s ∈ l1 ++ l2, s.blk ≠ some b := by
    intro s hs' he
    rcases List.mem_append.1 hs' with hs' | hs'
    · exact (List.pairwise_append.1 hnd).2.2 s hs' r (by simp) b he hb
    · exact (List.pairwise_cons.1 (List.pairwise_append.1 hnd).2.1).1 s hs' b hb he
  refine ⟨⟨⟨hle.kle.trans hk, fun i hi hm => (hw i (fun e => by subst e; exact hbase.elim (fun h => absurd hi (by omega)) hm)).trans (hle.same i hi hm), hle.shNew, ho.trans hle.os, ht.trans hle.tape, hu.trans hle.output, Nat.le_trans hle.drawn hdr⟩, fun i hi => by rw [hz]; exact hfin i hi, ?_, ?_, ?_⟩, hk⟩
  · intro s hs'
    by_cases hsr : s = r'
    · subst hsr; unfold Res.holds; rw [hb']; exact hs
    · have hs2 : s ∈ l1 ++ l2 := mem_mid hs' hsr
      have hs3 : s ∈ ρ := by rw [hρ]; exact mem_mid' hs2
      exact Res.holds_of (hown s hs3) fun i hi => hw i fun e => hcross s hs2 (e ▸ hi)
  · intro s hs' i hi
    by_cases hsr : s = r'
    · subst hsr; rw [hb'] at hi; injection hi with hi; subst hi; exact ⟨by rw [hz]; exact hlt, hnS, hbase⟩
    · have hs3 : s ∈ ρ := by rw [hρ]; exact mem_mid' (mem_mid hs' hsr)
      obtain ⟨h1, h2, h3⟩ := hblk s hs3 i hi
      exact ⟨by rw [hz]; exact h1, h2, h3⟩
  · refine List.pairwise_append.2 ⟨(List.pairwise_append.1 hnd).1, List.Pairwise.cons ?_ (List.pairwise_cons.1 (List.pairwise_append.1 hnd).2.1).2, ?_⟩
    · intro s hs' i hi; rw [hb'] at hi; injection hi with hi; subst hi; exact hcross s (by simp [hs'])
    · intro s hs' u hu' i hi
      rcases List.mem_cons.1 hu' with rfl | hu'
      · rw [hb']; intro e; injection e with e; subst e; exact hcross s (by simp [hs']) hi
      · exact (List.pairwise_append.1 hnd).2.2 s hs' u (by simp [hu']) i hi
theorem Inv.perm {ρ' : List Res} (h : Inv β ρ κ) (hp : ρ.Perm ρ') : Inv β ρ' κ :=
 ⟨h.le, h.fin, fun r hr => h.own r (hp.mem_iff.2 hr), fun r hr => h.blk r (hp.mem_iff.2 hr), hp.pairwise h.nd fun hab b hb he => hab b he hb⟩
theorem Inv.sub {ρ' : List Res} (h : Inv β ρ κ) (hp : ρ'.Sublist ρ) : Inv β ρ' κ :=
 ⟨h.le, h.fin, fun r hr => h.own r (hp.subset hr), fun r hr => h.blk r (hp.subset hr), h.nd.sublist hp⟩
theorem Inv.drew (h : Inv β ρ κ) : Inv β ρ ⟨{ κ.w with drawn := κ.w.drawn + 1 }, κ.S⟩ :=
 ⟨⟨⟨h.le.kle.size, h.le.kle.sh, h.le.kle.keep⟩, h.le.same, h.le.shNew, h.le.os, h.le.tape, h.le.output, Nat.le_succ_of_le h.le.drawn⟩, h.fin, h.own, h.blk, h.nd⟩
theorem Inv.pub {r : Res} {l : List Res} {b : Nat} (h : Inv β (r :: l) κ) (hb : r.blk = some b) : Inv β l ⟨κ.w, fun i => κ.S i ∨ i = b⟩ ∧ Kle κ ⟨κ.w, fun i => κ.S i ∨ i = b⟩ := by
 obtain ⟨hle, hfin, hown, hblk, hnd⟩ := h
 obtain ⟨hlt, hnS, hbase⟩ := hblk r (by simp) b hb
 have hk : Kle κ ⟨κ.w, fun i => κ.S i ∨ i = b⟩ := ⟨Nat.le_refl _, fun _ h => .inl h, fun _ _ => rfl⟩
 refine ⟨⟨⟨hle.kle.trans hk, hle.same, fun i hi => ?_, hle.os, hle.tape, hle.output, hle.drawn⟩, fun i hi => ?_, fun s hs => hown s (List.mem_cons_of_mem _ hs), fun s hs i hi => ?_, (List.pairwise_cons.1 hnd).2⟩, hk⟩
 ·rcases hi with hi | rfl
  ·exact hle.shNew i hi
  ·exact .inr hbase
 ·rcases hi with hi | rfl
  ·exact hfin i hi
  ·exact hlt
 ·obtain ⟨h1, h2, h3⟩ := hblk s (List.mem_cons_of_mem _ hs) i hi
  refine ⟨h1, fun h => ?_, h3⟩
  rcases h with h | rfl
  ·exact h2 h
  ·exact (List.pairwise_cons.1 hnd).1 s hs i hb hi
def blks (ρ : List Res) : List Nat := ρ.filterMap (·.blk)
theorem mem_blks {r : Res} {b : Nat} {ρ : List Res} (h : r ∈ ρ) (hb : r.blk = some b) : b ∈ blks ρ := List.mem_filterMap.2 ⟨r, h, hb⟩
theorem of_mem_blks {b : Nat} {ρ : List Res} (h : b ∈ blks ρ) : ∃ r ∈ ρ, r.blk = some b := List.mem_filterMap.1 h
theorem Inv.split {ρ1 ρ2 : List Res} (h : Inv β (ρ1 ++ ρ2) κ) : Inv ⟨κ, blks ρ1⟩ ρ1 κ :=
 ⟨.refl _ _, h.fin, fun r hr => h.own r (List.mem_append.2 (.inl hr)), fun r hr b hb =>
  ⟨(h.blk r (List.mem_append.2 (.inl hr)) b hb).1, (h.blk r (List.mem_append.2 (.inl hr)) b hb).2.1, .inr (mem_blks hr hb)⟩, (List.pairwise_append.1 h.nd).1⟩
theorem Inv.join {ρ1 ρ2 ρ1' : List Res} {κ' : Kr} (h : Inv β (ρ1 ++ ρ2) κ) (h' : Inv ⟨κ, blks ρ1⟩ ρ1' κ') : Inv β (ρ1' ++ ρ2) κ' := by
 have hbase : ∀ b, b ∈ blks ρ1 → b < κ.w.heap.size ∧ (β.k0.w.heap.size ≤ b ∨ b ∈ β.M) := fun b hb => by
  obtain ⟨r, hr, hb⟩ := of_mem_blks hb
  have := h.blk r (List.mem_append.2 (.inl hr)) b hb
  exact ⟨this.1, this.2.2⟩
 have hcross : ∀ s ∈ ρ2, ∀ b, s.blk = some b → b ∉ blks ρ1 := fun s hs b hb hm => by
  obtain ⟨r, hr, hrb⟩ := of_mem_blks hm
  exact (List.pairwise_append.1 h.nd).2.2 r hr s hs b hrb hb
 have h2 : ∀ s ∈ ρ2, ∀ b, s.blk = some b → b < κ.w.heap.size ∧ ¬ κ.S b ∧ (β.k0.w.heap.size ≤ b ∨ b ∈ β.M) := fun s hs => h.blk s (List.mem_append.2 (.inr hs))
 have hk := h'.le.kle
 refine ⟨⟨h.le.kle.trans hk, fun b hb hm => ?_, fun b hb => ?_, h'.le.os.trans h.le.os, h'.le.tape.trans h.le.tape, h'.le.output.trans h.le.output, Nat.le_trans h.le.drawn h'.le.drawn⟩, h'.fin, ?_, ?_, ?_⟩
 ·have hlt : b < κ.w.heap.size := Nat.lt_of_lt_of_le hb h.le.kle.size
  refine (h'.le.same b hlt fun hx => ?_).trans (h.le.same b hb hm)
  exact (hbase b hx).2.elim (fun h => absurd hb (by omega)) hm
 ·rcases h'.le.shNew b hb with hS | hge | hx
  ·exact h.le.shNew b hS
  ·exact .inr (.inl (Nat.le_trans h.le.kle.size hge))
  ·exact .inr (hbase b hx).2
 ·intro r hr
  rcases List.mem_append.1 hr with hr | hr
  ·exact h'.own r hr
  ·exact Res.holds_of (h.own r (List.mem_append.2 (.inr hr))) fun b hb => h'.le.same b (h2 r hr b hb).1 (hcross r hr b hb)
 ·intro r hr b hb
  rcases List.mem_append.1 hr with hr | hr
  ·obtain ⟨g1, g2, g3⟩ := h'.blk r hr b hb
   refine ⟨g1, g2, ?_⟩
   rcases g3 with g3 | g3
   ·exact .inl (Nat.le_trans h.le.kle.size g3)
   ·exact (hbase b g3).2
  ·obtain ⟨g1, g2, g3⟩ := h2 r hr b hb
   refine ⟨Nat.lt_of_lt_of_le g1 hk.size, fun hS => ?_, g3⟩
   rcases h'.le.shNew b hS with hS | hge | hx
   ·exact g2 hS
   ·exact absurd g1 (by exact Nat.not_lt.2 hge)
   ·exact hcross r hr b hb hx
 ·refine List.pairwise_append.2 ⟨h'.nd, (List.pairwise_append.1 h.nd).2.1, fun r hr s hs b hb hb' => ?_⟩
  rcases (h'.blk r hr b hb).2.2 with g | g
  ·exact absurd (h2 s hs b hb').1 (by exact Nat.not_lt.2 g)
  ·exact hcross s hs b hb' g
def FnOk (f : Nat) : Prop := ∃ fn, Tryz.prog.funcs[f]? = some fn ∧ (fn.name == "runtime.NumGoroutine") = false ∧ fn.body.isNone = false
def Call (f : Nat) (args : List Value) (ρ : List Res) (κ : Kr) (R : Value → List Res → Kr → Prop) : Prop :=
 FnOk f ∧ (Inv ⟨κ, blks ρ⟩ ρ κ → Calls Tryz.prog f args.toArray κ.w fun e w' => ∃ v ρ' κ', e = .returned v ∧ w' = κ'.w ∧ Inv ⟨κ, blks ρ⟩ ρ' κ' ∧ R v ρ' κ')
theorem Call.mono {f : Nat} {args : List Value} {R R' : Value → List Res → Kr → Prop} (h : Call f args ρ κ R) (hr : ∀ v ρ' κ', Kle κ κ' → R v ρ' κ' → R' v ρ' κ') : Call f args ρ κ R' :=
 ⟨h.1, fun hi => (h.2 hi).mono fun _ _ ⟨v, ρ', κ', h1, h2, h3, h4⟩ => ⟨v, ρ', κ', h1, h2, h3, hr v ρ' κ' h3.le.kle h4⟩⟩
theorem run_callFunc {f : Nat} (h : FnOk f) (args : Array Value) (w : World) : (callFunc f args).run Tryz.prog w = .ok (.enter f args) w := by
 obtain ⟨fn, h1, h2, h3⟩ := h
 simp only [callFunc, Sem.run_bind, run_program, Result.andThen_ok, h1, h2, h3, Bool.false_eq_true, if_false, Sem.run_pure]
section
variable {o : Oper} {σ : Env} {K : Value → List Res → Kr → Prop}
theorem ol_call {f : Nat} {l : List Operand} {ts : Array Nat} {args : List Value} {ρ1 ρ2 : List Res} {R : Value → List Res → Kr → Prop} (ho : o.op = .call { callee := .value (.func f), args := l.toArray, argTypes := ts })
    (ha : l.map (ev σ) = args) (hp : ρ.Perm (ρ1 ++ ρ2)) (hc : Call f args ρ1 κ R) (h : ∀ v ρ' κ', Kle κ κ' → R v ρ' κ' → K v (ρ' ++ ρ2) κ') : OpL o σ ρ κ K := fun β hi Nx hk => by
  have hi2 := hi.perm hp
  unfold execOp
  simp only [ho, ev, resolve, Deferred.ofValue, Sem.run_bind, Sem.run_pure, Result.andThen_ok, invoke, List.map_toArray, ha, run_callFunc hc.1, OutV]
  simp only [Array.append_empty, Array.empty_append]
  exact (hc.2 hi2.split).mono fun e w' ⟨v, ρ', κ', h1, h2, h3, h4⟩ => by
    subst h2
    exact ⟨v, h1, hk v (ρ' ++ ρ2) κ' (hi2.join h3) h3.le.kle (h v ρ' κ' h3.le.kle h4)⟩
theorem ol_call0 {f : Nat} {l : List Operand} {ts : Array Nat} {args : List Value} {R : Value → List Res → Kr → Prop} (ho : o.op = .call { callee := .value (.func f), args := l.toArray, argTypes := ts })
    (ha : l.map (ev σ) = args) (hc : Call f args [] κ R) (h : ∀ v ρ' κ', Kle κ κ' → R v ρ' κ' → K v (ρ' ++ ρ) κ') : OpL o σ ρ κ K :=
  ol_call ho ha (List.Perm.refl _) hc h
theorem ol_callv {f : Nat} {x : Operand} {l : List Operand} {ts : Array Nat} {first captured args : List Value} {ρ1 ρ2 : List Res} {R : Value → List Res → Kr → Prop} (ho : o.op = .call { callee := .value x, args := l.toArray, argTypes := ts })
    (hx : ev σ x = .func (.func f) first.toArray captured.toArray) (ha : first ++ (l.map (ev σ)) ++ captured = args) (hp : ρ.Perm (ρ1 ++ ρ2)) (hc : Call f args ρ1 κ R) (h : ∀ v ρ' κ', Kle κ κ' → R v ρ' κ' → K v (ρ' ++ ρ2) κ') : OpL o σ ρ κ K := fun β hi Nx hk => by
  have hi2 := hi.perm hp
  unfold execOp
  simp only [ho, hx, resolve, Deferred.ofValue, Sem.run_bind, Sem.run_pure, Result.andThen_ok, invoke, List.map_toArray, List.append_toArray, ha, run_callFunc hc.1, OutV]
  exact (hc.2 hi2.split).mono fun e w' ⟨v, ρ', κ', h1, h2, h3, h4⟩ => by
    subst h2
    exact ⟨v, h1, hk v (ρ' ++ ρ2) κ' (hi2.join h3) h3.le.kle (h v ρ' κ' h3.le.kle h4)⟩
theorem ol_box {t : Nat} {x : Operand} {cs : List Value} (ho : o.op = .box t x) (hx : cellsL (ev σ x) = cs) (h : ∀ b κ', Kle κ κ' → K (.pointer (some ⟨b, 0, none⟩)) (Res.b b t cs :: ρ) κ') : OpL o σ ρ κ K := fun β hi Nx hk => by
 have hcs : (ev σ x).cells = cs.toArray := by rw [← hx, ← cellsL_eq]
 unfold execOp
 simp only [ho, Instr.box, newVar, newRow, Sem.run_bind, run_newObj_alloc, Result.andThen_ok, Sem.run_pure, OutV, hcs]
 exact hk _ _ _ (hi.alloc _ (Res.b κ.w.heap.size t cs) rfl rfl) (kle_alloc hi.fin _) (h _ _ (kle_alloc hi.fin _))
theorem ol_allocA {t : Nat} {cs : List Value} {sz by' : Nat} (ho : o.op = .alloc t) (hz : inf t = some (.agg cs.toArray, sz, by')) (h : ∀ b κ', Kle κ κ' → K (.pointer (some ⟨b, 0, none⟩)) (Res.b b t cs :: ρ) κ') : OpL o σ ρ κ K := fun β hi Nx hk => by
 unfold execOp
 simp only [ho, Instr.alloc, newVar, newRow, Sem.run_bind, run_zeroValue hz, run_newObj_alloc, Result.andThen_ok, Sem.run_pure, OutV, Value.cells]
 exact hk _ _ _ (hi.alloc _ (Res.b κ.w.heap.size t cs) rfl rfl) (kle_alloc hi.fin _) (h _ _ (kle_alloc hi.fin _))
theorem ol_alloc {t : Nat} {z : Value} {sz by' : Nat} {cs : List Value} (ho : o.op = .alloc t) (hz : inf t = some (z, sz, by')) (hx : cellsL z = cs) (h : ∀ b κ', Kle κ κ' → K (.pointer (some ⟨b, 0, none⟩)) (Res.b b t cs :: ρ) κ') : OpL o σ ρ κ K := fun β hi Nx hk => by
 have hcs : z.cells = cs.toArray := by rw [← hx, ← cellsL_eq]
 unfold execOp
 simp only [ho, Instr.alloc, newVar, newRow, Sem.run_bind, run_zeroValue hz, run_newObj_alloc, Result.andThen_ok, Sem.run_pure, OutV, hcs]
 exact hk _ _ _ (hi.alloc _ (Res.b κ.w.heap.size t cs) rfl rfl) (kle_alloc hi.fin _) (h _ _ (kle_alloc hi.fin _))
def Upd (ρ : List Res) (r r' : Res) (ρ' : List Res) : Prop := ∃ l1 l2, ρ = l1 ++ r :: l2 ∧ ρ' = l1 ++ r' :: l2
theorem Upd.h {r r' : Res} {l : List Res} : Upd (r :: l) r r' (r' :: l) := ⟨[], l, rfl, rfl⟩
theorem Upd.t {r r' s : Res} {l l' : List Res} (h : Upd l r r' l') : Upd (s :: l) r r' (s :: l') := by
 obtain ⟨l1, l2, h1, h2⟩ := h
 exact ⟨s :: l1, l2, by rw [h1]; rfl, by rw [h2]; rfl⟩
theorem setRow_other {w : World} {g : Nat} {cs : Array Value} {i : Nat} (h : i ≠ g) : (w.setRow g cs).heap[i]? = w.heap[i]? := by
 simp only [World.setRow]; rw [Array.getElem?_modify, if_neg (fun e => h e.symm)]
theorem run_store_own {w : World} {b off T : Nat} {cs vs : List Value} (hb : w.heap[b]? = some (.cells cs.toArray T (0, 0))) (hl : off + vs.length ≤ cs.length) (h1 : vs.all Value.oneCell' = true) :
    ∃ w', (storeCells ⟨b, off, none⟩ vs).run Tryz.prog w = .ok () w' ∧ (∀ i, i ≠ b → w'.heap[i]? = w.heap[i]?) ∧ w'.heap.size = w.heap.size ∧ w'.heap[b]? = some (.cells (cs.take off ++ vs ++ cs.drop (off + vs.length)).toArray T (0, 0)) ∧ w'.os = w.os ∧ w'.tape = w.tape ∧ w'.output = w.output := by
  have h := run_storeCells_at Tryz.prog b off T vs 0 cs.toArray w hb (by simpa using hl) (fun v hv => List.all_eq_true.1 h1 v hv)
  simp only [Nat.add_zero] at h
  exact ⟨_, h, fun i hi => setRow_other hi, by simp [World.setRow], setRow_heap w b _ _ T _ hb, rfl, rfl, rfl⟩
theorem ol_store {t : Nat} {x y : Operand} {b off T sz by' : Nat} {z : Value} {cs vs : List Value} {ρ' : List Res} (ho : o.op = .store t x y) (hx : ev σ x = .pointer (some ⟨b, off, none⟩)) (hv : cellsL (ev σ y) = vs)
    (hz : inf t = some (z, sz, by')) (hsz : vs.length = sz) (h1 : vs.all Value.oneCell' = true) (hl : Nat.ble (off + vs.length) cs.length = true) (hu : Upd ρ (Res.b b T cs) (Res.b b T (cs.take off ++ vs ++ cs.drop (off + vs.length))) ρ')
    (h : ∀ κ', Kle κ κ' → K undef ρ' κ') : OpL o σ ρ κ K := fun β hi Nx hk => by
  obtain ⟨l1, l2, hρ, hρ'⟩ := hu
  have hb : κ.w.heap[b]? = some (.cells cs.toArray T (0, 0)) := hi.own (Res.b b T cs) (by rw [hρ]; simp)
  obtain ⟨w', hrun, g1, g2, g3, g4, g5, g6⟩ := run_store_own hb (Nat.le_of_ble_eq_true hl) h1
  have hcs : (ev σ y).cells = vs.toArray := by rw [← hv, ← cellsL_eq]
  have hsz' : vs.toArray.size = sz := by simpa using hsz
  unfold execOp
  simp only [ho, hx, Instr.storeAt, Instr.sureAddr, storeVar, Sem.run_bind, Sem.run_pure, Result.andThen_ok, run_sizeOf hz, hcs, hsz', ne_eq, not_true_eq_false, if_false, hrun, OutV]
  obtain ⟨hi', hk'⟩ := hi.turn (r := Res.b b T cs) (r' := Res.b b T (cs.take off ++ vs ++ cs.drop (off + vs.length))) hρ rfl rfl g1 g2 g3 g4 g5 g6 (sem_drawn _ _ _ _ _ hrun)
  rw [← hρ'] at hi'
  exact hk _ _ _ hi' hk' (h _ hk')
def SetAt (cs : List Value) (k : Nat) (v : Value) (cs' : List Value) : Prop := cs' = cs.set k v ∧ k < cs.length
theorem SetAt.h {x v : Value} {l : List Value} : SetAt (x :: l) 0 v (v :: l) := ⟨rfl, by simp⟩
theorem SetAt.t {x v : Value} {l l' : List Value} {k : Nat} (h : SetAt l k v l') : SetAt (x :: l) (k + 1) v (x :: l') := ⟨by rw [h.1]; rfl, by have := h.2; simp; omega⟩
theorem set_eq_take {cs : List Value} {k : Nat} {v : Value} (h : k < cs.length) : cs.set k v = cs.take k ++ [v] ++ cs.drop (k + 1) := by
 rw [List.set_eq_take_append_cons_drop, if_pos h]; simp
theorem ol_storeA {t : Nat} {x y : Operand} {b T sz by' : Nat} {z : Value} {cs vs : List Value} {ρ' : List Res} (ho : o.op = .store t x y) (hx : ev σ x = .pointer (some ⟨b, 0, none⟩)) (hv : ev σ y = .agg vs.toArray)
    (hz : inf t = some (z, sz, by')) (hsz : vs.length = sz) (h1 : vs.all Value.oneCell' = true) (hu : Upd ρ (Res.b b T cs) (Res.b b T vs) ρ') (hl : vs.length = cs.length)
    (h : ∀ κ', Kle κ κ' → K undef ρ' κ') : OpL o σ ρ κ K := by
  refine ol_store (T := T) ho hx (vs := vs) (by rw [hv]; rfl) hz hsz h1 (cs := cs) (Nat.ble_eq_true_of_le (by omega)) ?_ h
  have : cs.take 0 ++ vs ++ cs.drop (0 + vs.length) = vs := by simp [hl]
  rw [this]; exact hu
end
def RV1 (rv : ResultVar) (σ : Env) (ρ : List Res) (v : Value) : Prop := match rv with
 | .tmp t => σ t = v
 | .cell t T => ∃ b off Tb cs, σ t = .pointer (some ⟨b, off, none⟩) ∧ Res.b b Tb cs ∈ ρ ∧ readAs T (cs.drop off) 0 = some v
theorem RV1.cell {t T b off Tb : Nat} {σ : Env} {cs : List Value} {v : Value} (h1 : σ t = .pointer (some ⟨b, off, none⟩)) (h2 : Res.b b Tb cs ∈ ρ) (h3 : readAs T (cs.drop off) 0 = some v) : RV1 (.cell t T) σ ρ v := ⟨b, off, Tb, cs, h1, h2, h3⟩
def RV (rs : List ResultVar) (σ : Env) (ρ : List Res) (v : Value) : Prop := match rs with
 | [] => v = .tuple #[]
 | [r] => RV1 r σ ρ v
 | [r, s] => ∃ v1 v2, RV1 r σ ρ v1 ∧ RV1 s σ ρ v2 ∧ v = .tuple #[v1, v2]
 | [r, s, t] => ∃ v1 v2 v3, RV1 r σ ρ v1 ∧ RV1 s σ ρ v2 ∧ RV1 t σ ρ v3 ∧ v = .tuple #[v1, v2, v3]
 | _ => False
def rvSem (tmps : Array Value) (rv : ResultVar) : Sem Value := match rv with
 | .tmp t => pure (tmps.getD t undef)
 | .cell x t => do loadVar t (← asAddr (tmps.getD x undef))
theorem run_RV1 {n : Nat} {a : Act} {σ : Env} {rv : ResultVar} {v : Value} (hr : Rel n a σ) (hi : Inv β ρ κ) (h : RV1 rv σ ρ v) :
    (rvSem a.tmps rv).run Tryz.prog κ.w = .ok v κ.w := by
  unfold rvSem
  cases rv with
  | tmp t => simp only [RV1] at h; simp only [hr.2.2, h, Sem.run_pure]
  | cell t T =>
    obtain ⟨b, off, Tb, cs, h1, h2, h3⟩ := h
    have hb : κ.w.heap[b]? = some (.cells cs.toArray Tb (0, 0)) := hi.own _ h2
    have := run_readAs (w := κ.w) (t := T) (b := b) (off := off) (cs := cs.drop off) (v := v) (fun j u hu => by rw [cell_of_cells hb]; rwa [List.getElem?_drop] at hu) h3
    simp only [hr.2.2, h1, asAddr, Sem.run_bind, Sem.run_pure, Result.andThen_ok, this]
theorem run_RV {n : Nat} {a : Act} {σ : Env} {fn : Func} {rs : List ResultVar} {v : Value} (hfn : fn.results = rs.toArray) (hr : Rel n a σ) (hi : Inv β ρ κ) (h : RV rs σ ρ v) : (results fn a.tmps).run Tryz.prog κ.w = .ok v κ.w := by
 have hres : results fn a.tmps = (do let vs ← fn.results.mapM (rvSem a.tmps); pure (if h : vs.size = 1 then vs[0] else .tuple vs)) := rfl
 rw [hres, hfn]
 clear hres
 match rs, h with
 | [], h => simp only [RV] at h; subst h; simp
 | [r], h => have h1 := run_RV1 hr hi h; simp [h1]
 | [r, s], ⟨v1, v2, h1, h2, h3⟩ => have g1 := run_RV1 hr hi h1; have g2 := run_RV1 hr hi h2; subst h3; simp [g1, g2]
 | [r, s, t], ⟨v1, v2, v3, h1, h2, h3, h4⟩ => have g1 := run_RV1 hr hi h1; have g2 := run_RV1 hr hi h2; have g3 := run_RV1 hr hi h3; subst h4; simp [g1, g2, g3]
def Shift (ρ : List Res) (κ : Kr) (ρ' : List Res) (κ' : Kr) : Prop := κ'.w = κ.w ∧ ∀ β, Inv β ρ κ → Inv β ρ' κ' ∧ Kle κ κ'
theorem Shift.drop {ρ' : List Res} (h : ρ'.Sublist ρ) : Shift ρ κ ρ' κ := ⟨rfl, fun _ hi => ⟨hi.sub h, .refl _⟩⟩
theorem Shift.none : Shift ρ κ [] κ := .drop (List.nil_sublist _)
theorem Shift.pub {r : Res} {l : List Res} {b : Nat} (hp : ρ.Perm (r :: l)) (hb : r.blk = some b) : Shift ρ κ l ⟨κ.w, fun i => κ.S i ∨ i = b⟩ := ⟨rfl, fun _ hi => (hi.perm hp).pub hb⟩
theorem Shift.trans {ρ' ρ'' : List Res} {κ' κ'' : Kr} (h : Shift ρ κ ρ' κ') (k : Shift ρ' κ' ρ'' κ'') : Shift ρ κ ρ'' κ'' :=
 ⟨k.1.trans h.1, fun β hi => ⟨(k.2 β (h.2 β hi).1).1, (h.2 β hi).2.trans (k.2 β (h.2 β hi).1).2⟩⟩
def retK (rs : List ResultVar) (R : Value → List Res → Kr → Prop) : Exit → Post := fun e σ ρ κ => match e with
 | .ret | .normal => ∀ β, Inv β ρ κ → ∃ v ρ' κ', RV rs σ ρ v ∧ Shift ρ κ ρ' κ' ∧ R v ρ' κ'
 | _ => False
theorem call_of {f n : Nat} {fn : Func} {c : Code} {args : List Value} {rs : List ResultVar} {R : Value → List Res → Kr → Prop} (hf : Tryz.prog.funcs[f]? = some fn) (hok : FnOk f) (hb : fn.body = some c) (hn : fn.ntmps = n) (hres : fn.results = rs.toArray) (hsz : Nat.ble args.length n = true)
    (h : WC ⟨κ, blks ρ⟩ n c (retK rs R) (env0 args.toArray) ρ κ) : Call f args ρ κ R :=
  ⟨hok, fun hi => calls_of_wp hf hb (by
    have hr := rel_env0 args.toArray n (by simpa using Nat.le_of_ble_eq_true hsz)
    rw [hn]
    refine h hi _ hr _ fun e a' σ' ρ' κ' g1 g2 g3 g4 => ?_
    have key : (∃ v ρ'' κ'', RV rs σ' ρ' v ∧ Shift ρ' κ' ρ'' κ'' ∧ R v ρ'' κ'') → ∃ v, (results fn a'.tmps).run Tryz.prog κ'.w = .ok v κ'.w ∧ (fun e w' => ∃ v ρ' κ', e = Ending.returned v ∧ w' = κ'.w ∧ Inv ⟨κ, blks ρ⟩ ρ' κ' ∧ R v ρ' κ') (.returned v) κ'.w := fun ⟨v, ρ'', κ'', k1, k2, k3⟩ =>
      ⟨v, run_RV hres g1 g2 k1, v, ρ'', κ'', rfl, k2.1.symm, (k2.2 _ g2).1, k3⟩
    cases e with
    | ret => exact ⟨g1.2.1, key (g4 _ g2)⟩
    | normal => exact ⟨g1.2.1, key (g4 _ g2)⟩
    | _ => exact g4.elim)⟩
end
end SX
end Go.Proofs.YtiijbkaiipjpkaaGreatDoor
set_option maxRecDepth 100000
namespace Go.Proofs.YtiijbkaiipjpkaaGreatDoor
namespace SX
open Go
def CallP (f : Nat) (args : List Value) (κ : Kr) (R : Value → Kr → Prop) : Prop := Call f args [] κ fun v ρ' κ' => ρ' = [] ∧ R v κ'
theorem CallP.mono {f : Nat} {args : List Value} {κ : Kr} {R R' : Value → Kr → Prop} (h : CallP f args κ R) (hr : ∀ v κ', Kle κ κ' → R v κ' → R' v κ') : CallP f args κ R' :=
 Call.mono h fun v _ κ' hk h => ⟨h.1, hr v κ' hk h.2⟩
def OpG (c : Bool) (o : Oper) (σ : Env) (ρ : List Res) (κ : Kr) (K : Value → Kr → Prop) : Prop :=
 (c = true → OpL o σ ρ κ fun v ρ' κ' => ρ' = ρ ∧ K v κ') ∧ (c = false → K undef κ)
section
variable {β : Base} {n : Nat} {ops : Array Oper} {o : Oper} {σ : Env} {ρ : List Res} {κ : Kr} {c : Bool}
theorem ol_callP {K : Value → List Res → Kr → Prop} {f : Nat} {l : List Operand} {ts : Array Nat} {args : List Value} {R : Value → Kr → Prop} (ho : o.op = .call { callee := .value (.func f), args := l.toArray, argTypes := ts })
    (ha : l.map (ev σ) = args) (hc : CallP f args κ R) (h : ∀ v κ', Kle κ κ' → R v κ' → K v ρ κ') : OpL o σ ρ κ K :=
  ol_call0 ho ha hc fun v ρ' κ' hk hr => by obtain ⟨rfl, hr⟩ := hr; exact h v κ' hk hr
theorem ol_callvP {K : Value → List Res → Kr → Prop} {f : Nat} {x : Operand} {l : List Operand} {ts : Array Nat} {first captured args : List Value} {R : Value → Kr → Prop} (ho : o.op = .call { callee := .value x, args := l.toArray, argTypes := ts })
    (hx : ev σ x = .func (.func f) first.toArray captured.toArray) (ha : first ++ (l.map (ev σ)) ++ captured = args) (hc : CallP f args κ R) (h : ∀ v κ', Kle κ κ' → R v κ' → K v ρ κ') : OpL o σ ρ κ K :=
  ol_callv ho hx ha (List.Perm.refl _) hc fun v ρ' κ' hk hr => by obtain ⟨rfl, hr⟩ := hr; exact h v κ' hk hr
theorem og_callP {K : Value → Kr → Prop} {f : Nat} {l : List Operand} {ts : Array Nat} {args : List Value} {R : Value → Kr → Prop} (ho : o.op = .call { callee := .value (.func f), args := l.toArray, argTypes := ts })
    (ha : c = true → l.map (ev σ) = args) (hc : c = true → CallP f args κ R) (h : ∀ v κ', Kle κ κ' → (c = true → R v κ') → K v κ') : OpG c o σ ρ κ K :=
  ⟨fun hct => ol_callP ho (ha hct) (hc hct) fun v κ' hk hr => ⟨rfl, h v κ' hk fun _ => hr⟩, fun hcf => h undef κ (.refl _) fun h => by rw [hcf] at h; cases h⟩
theorem wl_g {rest : List Oper} {K : Post} {d : Nat} (hg : GuardIs ops σ o c) (hd' : o.dst = some d) (hlt : Nat.blt d n = true) (h : OpG c o σ ρ κ fun v κ' => WL β n ops rest K (upd σ d (gv c v)) ρ κ') : WL β n ops (o :: rest) K σ ρ κ :=
 fun hi a hr Q hk => by
  simp only [← updO_some hd'] at h
  have hd := dst_some hd' hlt
  unfold wpList
  rw [wanted_rel hr, hg]
  cases c with
  | false =>
   have h2 := h.2 rfl
   simp only [gv_false] at h2
   exact h2 hi _ (hr.put hd undef) Q hk
  | true =>
   refine .inl (wp_of_out hr.eval (h.1 rfl β hi (fun v w => wpList Tryz.prog ops Q rest (a.put o.dst v) w) fun v ρ' κ' hi' hle hw => ?_) fun _ _ h => h)
   obtain ⟨rfl, hw⟩ := hw
   simp only [gv_true] at hw
   exact hw hi' _ (hr.put hd v) Q fun a' σ' ρ'' κ'' h1 h2 h3 h4 => hk a' σ' ρ'' κ'' h1 h2 (hle.trans h3) h4
end
theorem OpL.frame {β : Base} {o : Oper} {σ : Env} {ρ ρf : List Res} {κ : Kr} {K : Value → List Res → Kr → Prop} (h : OpL o σ ρ κ K) (hi : Inv β (ρ ++ ρf) κ) (Nx : Value → World → Prop) (hk : ∀ v ρ' κ', Inv β (ρ' ++ ρf) κ' → Kle κ κ' → K v ρ' κ' → Nx v κ'.w) : OutV Nx ((execOp (ev σ) o).run Tryz.prog κ.w) :=
 h ⟨κ, blks ρ⟩ hi.split Nx fun v ρ' κ' hi' hle hK => hk v ρ' κ' (hi.join hi') hle hK
theorem splice_list : ∀ (l : List Value) (k off : Nat) (cells : Array Value), off + k + l.length ≤ cells.size →
    ((l.zipIdx k).foldl (fun (cs : Array Value) (p : Value × Nat) => cs.setIfInBounds (off + p.2) p.1) cells).toList = cells.toList.take (off + k) ++ l ++ cells.toList.drop (off + k + l.length)
  | [], k, off, cells, _ => by simp
  | v :: l, k, off, cells, h => by
    simp only [List.length_cons] at h
    have ih := splice_list l (k + 1) off (cells.setIfInBounds (off + k) v) (by simp; omega)
    simp only [List.zipIdx_cons, List.foldl_cons]
    rw [ih]
    have e := list_seg_step cells.toList (off + k) v l (by simp; omega)
    simp only [Array.toList_setIfInBounds]
    have e1 : off + (k + 1) = off + k + 1 := by omega
    rw [e1]
    simpa [Nat.add_assoc] using e
theorem splice_cells (v : Value) (off : Nat) (cells : Array Value) (h : off + (cellsL v).length ≤ cells.size) :
    (v.cells.zipIdx.foldl (fun (cs : Array Value) (x : Value × Nat) => match x with | (c, j) => cs.setIfInBounds (off + j) c) cells).toList = cells.toList.take off ++ cellsL v ++ cells.toList.drop (off + (cellsL v).length) := by
  have := splice_list (cellsL v) 0 off cells (by simpa using h)
  simp only [Nat.add_zero] at this
  rw [← this, ← cellsL_eq, ← Array.foldl_toList, Array.toList_zipIdx]
theorem fill_cons {place : Nat → Option (Nat × Nat)} {cells : List Value} {i off sz : Nat} {v : Value} {rest : List (Nat × Value)} (hp : place i = some (off, sz)) (hv : (cellsL v).length = sz) (hl : off + sz ≤ cells.length) :
    Instr.fill place cells.toArray ((i, v) :: rest) = Instr.fill place (cells.take off ++ cellsL v ++ cells.drop (off + sz)).toArray rest := by
  have hvs : v.cells.size = sz := by rw [← hv, ← cellsL_eq]; simp
  have h := splice_cells v off cells.toArray (by simp [hv]; omega)
  simp only [hv] at h
  have h2 : v.cells.zipIdx.foldl (fun (cs : Array Value) (x : Value × Nat) => match x with | (c, j) => cs.setIfInBounds (off + j) c) cells.toArray = (cells.take off ++ cellsL v ++ cells.drop (off + sz)).toArray := Array.ext' h
  rw [Instr.fill]
  simp only [hp]
  rw [if_neg (by simp [hvs]; omega), h2]
theorem fill_order {sz : Nat} : ∀ (vs : List Value) (k : Nat) (pre zs : List Value), pre.length = k * sz → zs.length = vs.length * sz → (∀ v ∈ vs, (cellsL v).length = sz) →
    Instr.fill (fun i => some (i * sz, sz)) (pre ++ zs).toArray ((vs.zipIdx k).map fun p => (p.2, p.1)) = some (pre ++ vs.flatMap cellsL).toArray
  | [], k, pre, zs, _, hz, _ => by
    have : zs = [] := List.eq_nil_of_length_eq_zero (by simpa using hz)
    subst this; simp [Instr.fill]
  | v :: vs, k, pre, zs, hp, hz, hw => by
    have hv := hw v (by simp)
    have hz' : zs.length = vs.length * sz + sz := by rw [hz, List.length_cons, Nat.add_mul]; omega
    simp only [List.zipIdx_cons, List.map_cons]
    rw [fill_cons (off := k * sz) (sz := sz) rfl hv (by simp; omega)]
    have e : (pre ++ zs).take (k * sz) ++ cellsL v ++ (pre ++ zs).drop (k * sz + sz) = (pre ++ cellsL v) ++ zs.drop sz := by
      rw [← hp, List.take_left]
      simp [List.drop_append, Nat.add_sub_cancel_left, List.append_assoc]
    rw [e, fill_order vs (k + 1) (pre ++ cellsL v) (zs.drop sz) (by simp [hp, hv, Nat.add_mul]) (by simp; omega) (fun u hu => hw u (by simp [hu]))]
    simp
theorem run_buildSlice {t E sz by' : Nat} {z : Value} (hu : und t = some (.slice E)) (hi : inf E = some (z, sz, by')) (hz : z.cells.size = sz) (vs : List Value) (hw : ∀ v ∈ vs, (cellsL v).length = sz) (hb : vs.length * sz ≤ 16777216) (w : World) :
    (Instr.buildSlice t vs.length ((vs.zipIdx).map fun p => (p.2, p.1)).toArray).run Tryz.prog w = .ok (.slice (some ⟨w.heap.size, 0, none⟩) vs.length vs.length) (w.alloc (.cells (vs.flatMap cellsL).toArray E)) := by
  have hf : ∀ zs : List Value, zs.length = vs.length * sz → Instr.fill (fun i => some (i * sz, sz)) zs.toArray ((vs.zipIdx).map fun p => (p.2, p.1)) = some (vs.flatMap cellsL).toArray := fun zs hzs => by
    have := fill_order vs 0 [] zs (by simp) hzs hw; simpa using this
  simp only [Instr.buildSlice, Sem.run_bind, run_underlying (und_ok hu), Result.andThen_ok, run_sizeOf hi]
  have hb' : ¬ (vs.length * sz > 2 ^ 24) := by simp; omega
  rw [if_neg hb']
  by_cases h0 : vs.length * sz = 0
  · have h1 := hf [] (by simpa using h0.symm)
    have hr0 : Array.range 0 = #[] := by decide
    simp only [h0, if_true, hr0]
    simp [h1, newRow]
  · simp only [h0, if_false, run_zeroValue hi, Sem.run_bind, Sem.run_pure, Result.andThen_ok]
    have h1 := hf (((Array.range (vs.length * sz)).map (z.cells[· % z.cells.size]!)).toList) (by simp)
    simp only [Array.toArray_toList] at h1
    simp [h1, newRow]
def lateOf (o : Oper) : Option (Nat × List Value × (Nat → Value)) := match o.op with
 | .alloc T => match inf T with
  | some (z, _, _) => some (T, cellsL z, fun b => .pointer (some ⟨b, 0, none⟩))
  | none => none
 | .buildSlice t 0 ps => match ps.toList, und t with
  | [], some (.slice E) => match inf E with
   | some _ => some (E, [], fun b => .slice (some ⟨b, 0, none⟩) 0 0)
   | none => none
  | _, _ => none
 | _ => none
theorem late_run {o : Oper} {T : Nat} {cs : List Value} {mk : Nat → Value} (h : lateOf o = some (T, cs, mk)) (σ : Env) (w : World) : (execOp (ev σ) o).run Tryz.prog w = .ok (.value (mk w.heap.size)) (w.alloc (.cells cs.toArray T)) := by
 unfold lateOf at h
 split at h
 ·rename_i T' ho
  split at h
  ·rename_i z sz by' hz
   simp only [Option.some.injEq, Prod.mk.injEq] at h
   obtain ⟨rfl, rfl, rfl⟩ := h
   have hcs : z.cells = (cellsL z).toArray := by rw [← cellsL_eq]
   simp only [execOp, ho, Instr.alloc, newVar, newRow, Sem.run_bind, run_zeroValue hz, run_newObj_alloc, Result.andThen_ok, Sem.run_pure, hcs]
  ·cases h
 ·rename_i t ps ho
  split at h
  ·rename_i E hps hu
   split at h
   ·rename_i x hz
    obtain ⟨z, sz, by'⟩ := x
    simp only [Option.some.injEq, Prod.mk.injEq] at h
    obtain ⟨rfl, rfl, rfl⟩ := h
    have hps' : ps = #[] := by apply Array.ext'; simpa using hps
    subst hps'
    simp [execOp, ho, Instr.buildSlice, run_underlying (und_ok hu), run_sizeOf hz, newRow, Instr.fill]
    have hr0 : Array.range 0 = #[] := by decide
    rw [hr0]; simp
   ·cases h
  ·cases h
 ·cases h
def pend (ord : List (Nat × Nat)) : List Nat := (ord.filter fun p => Nat.beq p.2 2).map (·.1)
def setAll (L : Array Bool) (ps : List Nat) : Array Bool := ps.foldl (fun L i => L.setIfInBounds i true) L
def LateRun (o : Oper) (σ : Env) (T : Nat) (cs : List Value) (mk : Nat → Value) : Prop := o.guard = none ∧ ∀ w, (execOp (ev σ) o).run Tryz.prog w = .ok (.value (mk w.heap.size)) (w.alloc (.cells cs.toArray T))
theorem LateRun.det {o : Oper} {σ : Env} {T T' : Nat} {cs cs' : List Value} {mk mk' : Nat → Value} (h : LateRun o σ T cs mk) (h' : LateRun o σ T' cs' mk') : T = T' ∧ cs = cs' ∧ mk = mk' := by
 have h1 := (h.2 default).symm.trans (h'.2 default)
 injection h1 with _ h2
 have h3 := congrArg (fun w : World => w.heap[(default : World).heap.size]?) h2
 simp only [heap_alloc_eq, Option.some.injEq] at h3
 injection h3 with h4 h5
 refine ⟨h5, by simpa using h4, funext fun n => ?_⟩
 have g1 := (h.2 { (default : World) with heap := Array.replicate n default }).symm.trans (h'.2 { (default : World) with heap := Array.replicate n default })
 injection g1 with g2 _
 injection g2 with g2
 simpa using g2
def indepOf (ops : Array Oper) (o : Oper) (p : Nat) : Bool := match (ops[p]?).bind (·.dst) with
 | some d => !(o.looksAt ops).contains d && o.dst != some d
 | none => false
def indepW (ops : Array Oper) (o : Oper) (p : Nat) : Bool := match ops[p]?, o.dst with
 | some q, some d => !(q.looksAt ops).contains d
 | some _, none => true
 | none, _ => false
def lateOk (n : Nat) (ops : Array Oper) (p : Nat) : Bool := match ops[p]? with
 | some o => o.guard.isNone && (match o.dst with | some d => Nat.blt d n | none => false)
 | none => false
def lateStatic (ops : Array Oper) (p : Nat) : Bool := match ops[p]? with
 | some o => (lateOf o).isSome && o.guard.isNone
 | none => false
def annOk (ops : Array Oper) (A : List Nat) (o : Oper) (P : List Nat) : Bool := P.all fun p => indepOf ops o p && (!A.contains p || indepW ops o p)
def waits (ops : Array Oper) (L : Array Bool) (A : List Nat) (P : List Nat) : Bool := P.all fun p => A.contains p || !(Region.ready .any ops (setAll L (P.filter fun q => !Nat.beq q p))).contains p
def okOrder (n : Nat) (ops : Array Oper) : Array Bool → List Nat → List (Nat × Nat) → Bool
  | _, _, [] => true
  | L, A, (i, k) :: r => match k, ops[i]? with
      | 0, some o => (Region.ready .any ops L).contains i && Region.free .any ops L i && annOk ops A o (pend r) && okOrder n ops (L.setIfInBounds i true) A r
      | 1, some o => (Region.ready .any ops L).contains i && (Region.ready .any ops (setAll L (pend r)) == [i]) && annOk ops A o (pend r) && waits ops L A (pend r) && okOrder n ops (L.setIfInBounds i true) A r
      | 2, some o => (Region.ready .any ops L).contains i && (Region.ready .any ops (setAll L (pend r)) == [i]) && A.contains i && annOk ops A o (pend r) && waits ops L A (pend r) && okOrder n ops (L.setIfInBounds i true) A r
      | 3, some _ => okOrder n ops L (i :: A) r
      | 4, some _ => okOrder n ops L A r
      | _, _ => false
def pickOps (ops : List Oper) : List (Nat × Nat) → Option (List (Nat × Oper))
 | [] => some []
 | (i, q) :: r => match ops[i]?, pickOps ops r with
  | some o, some l => some ((q, o) :: l)
  | _, _ => none
def WD (β : Base) (n : Nat) (ops : Array Oper) (K : Post) : List (Nat × Oper) → Env → List Res → List Res → Kr → Prop
  | [], σ, ρd, ρs, κ => ∀ κ1, Kle κ κ1 → K σ (ρd ++ ρs) κ1
  | (0, o) :: r, σ, ρd, ρs, κ => dstOk n o.dst = true ∧ ((o.guard = none ∧ ∃ v, OpQ true o σ ρs κ v ∧ WD β n ops K r (updO σ o.dst v) ρd ρs κ) ∨ (∃ c v, GuardIs ops σ o c ∧ OpQ c o σ ρs κ v ∧ WD β n ops K r (updO σ o.dst (gv c v)) ρd ρs κ))
  | (1, o) :: r, σ, ρd, ρs, κ => dstOk n o.dst = true ∧ ((o.guard = none ∧ ∀ κ1, Kle κ κ1 → OpL o σ (ρd ++ ρs) κ1 fun v ρ' κ' => ∃ ρd', ρ' = ρd' ++ ρs ∧ WD β n ops K r (updO σ o.dst v) ρd' ρs κ') ∨
      (∃ c, GuardIs ops σ o c ∧ ∀ κ1, Kle κ κ1 → OpG c o σ (ρd ++ ρs) κ1 fun v κ' => WD β n ops K r (updO σ o.dst (gv c v)) ρd ρs κ'))
  | (2, o) :: r, σ, ρd, ρs, κ => ∃ T cs mk d, LateRun o σ T cs mk ∧ o.dst = some d ∧ ∀ b κ', Kle κ κ' → WD β n ops K r (upd σ d (mk b)) (Res.b b T cs :: ρd) ρs κ'
  | (3, o) :: r, σ, ρd, ρs, κ => (∃ T cs mk, LateRun o σ T cs mk) ∧ WD β n ops K r σ ρd ρs κ
  | (_, _) :: r, σ, ρd, ρs, κ => ∃ r0 ρd', ρd.Perm (r0 :: ρd') ∧ WD β n ops K r σ ρd' (r0 :: ρs) κ
def NP (Q : Act → World → Prop) : Exit → Act → World → Prop := fun e a w => e = .normal ∧ Q a w
structure Early where
 op : Nat
 slot : Nat
 val : Value
 res : Res
def ov (E : List Early) (σ : Env) : Env := fun t => ((E.find? fun e => Nat.beq e.slot t).map (·.val)).getD (σ t)
theorem ov_nil (σ : Env) : ov [] σ = σ := rfl
theorem ov_not {E : List Early} {σ : Env} {t : Nat} (h : ∀ e ∈ E, e.slot ≠ t) : ov E σ t = σ t := by
 unfold ov
 have : E.find? (fun e => Nat.beq e.slot t) = none := List.find?_eq_none.2 fun e he hb => h e he (Nat.eq_of_beq_eq_true hb)
 rw [this]; rfl
theorem ov_upd {E : List Early} {σ : Env} {d : Nat} {v : Value} (h : ∀ e ∈ E, e.slot ≠ d) : ov E (upd σ d v) = upd (ov E σ) d v := by
 funext t
 by_cases ht : t = d
 ·subst ht
  rw [ov_not h]; simp [upd]
 ·have hb : Nat.beq t d = false := by cases hb : Nat.beq t d; rfl; exact absurd (Nat.eq_of_beq_eq_true hb) ht
  unfold ov upd
  rw [hb]; rfl
theorem ov_updO {E : List Early} {σ : Env} {d : Option Nat} {v : Value} (h : ∀ e ∈ E, d ≠ some e.slot) : ov E (updO σ d v) = updO (ov E σ) d v := by
 cases d with
 | none => rfl
 | some d => exact ov_upd fun e he h' => h e he (by rw [h'])
theorem ov_cons {E : List Early} {e : Early} {σ : Env} : ov (e :: E) σ = upd (ov E σ) e.slot e.val := by
 funext t
 unfold ov upd
 simp only [List.find?_cons]
 by_cases ht : e.slot = t
 ·subst ht; simp
 ·have hb : Nat.beq e.slot t = false := by cases hb : Nat.beq e.slot t; rfl; exact absurd (Nat.eq_of_beq_eq_true hb) ht
  have hb' : Nat.beq t e.slot = false := by cases hb : Nat.beq t e.slot; rfl; exact absurd (Nat.eq_of_beq_eq_true hb).symm ht
  rw [hb, hb']; rfl
theorem ov_mid {E1 E2 : List Early} {e : Early} {σ : Env} (h : ∀ f ∈ E1 ++ E2, f.slot ≠ e.slot) : ov (E1 ++ e :: E2) σ = ov (E1 ++ E2) (upd σ e.slot e.val) := by
 induction E1 with
 | nil => rw [List.nil_append, ov_cons, List.nil_append, ov_upd (by simpa using h)]
 | cons f E1 ih =>
  rw [List.cons_append, ov_cons, ih (fun g hg => h g (List.mem_cons_of_mem _ hg)), List.cons_append, ov_cons]
theorem ov_ev {ops : Array Oper} {E : List Early} {σ : Env} {o : Oper} (hs : ∀ cs b, o.op ≠ .select cs b) (h : ∀ e ∈ E, e.slot ∉ o.looksAt ops) : execOp (ev (ov E σ)) o = execOp (ev σ) o :=
 execOp_congr o hs fun x hx => by
  cases x with
  | tmp t => exact ov_not fun e he h' => h e he (List.mem_append_left _ (List.mem_filterMap.2 ⟨.tmp t, by simpa using hx, by rw [h']⟩))
  | _ => rfl
theorem ov_guard {ops : Array Oper} {E : List Early} {σ : Env} {o : Oper} {c : Bool} (h : ∀ e ∈ E, e.slot ∉ o.looksAt ops) (hg : GuardIs ops σ o c) : GuardIs ops (ov E σ) o c := by
 unfold GuardIs Region.wanted at *
 cases hgd : o.guard with
 | none => rw [hgd] at hg; exact hg
 | some jw =>
  obtain ⟨j, want⟩ := jw
  rw [hgd] at hg
  simp only at hg ⊢
  rw [← hg]
  have : yieldedBy ops (ov E σ) j = yieldedBy ops σ j := by
   unfold yieldedBy
   cases hd : (ops[j]?).bind (·.dst) with
   | none => rfl
   | some d =>
    simp only [Option.map_some]
    rw [ov_not fun e he h' => h e he (List.mem_append_right _ (by rw [hgd]; simp [hd, h']))]
  rw [this]
theorem wpAnyH_weak {P : Program} {md : Region.Mode} {ops : Array Oper} {Q : Exit → Act → World → Prop} {S S' : World → Prop} (hS : ∀ w, S' w → S w) : ∀ (fuel : Nat) (listed : Array Bool) (a : Act) (w : World), wpAnyH P md ops Q S' fuel listed a w → wpAnyH P md ops Q S fuel listed a w
 | 0, _, _, _, h => h
 | fuel + 1, _, _, _, h => ⟨h.1, fun i hi => wpOp_mono (fun a' w' h' => ⟨hS w' h'.1, wpAnyH_weak hS fuel _ a' w' h'.2⟩) (h.2 i hi)⟩
theorem getD_false_true {L : Array Bool} {j : Nat} (hj : j < L.size) : L.getD j true = L.getD j false := by
 simp [Array.getD_eq_getD_getElem?, Array.getElem?_eq_getElem hj]
theorem setAll_size (L : Array Bool) : ∀ (ps : List Nat) , (setAll L ps).size = L.size := by
 intro ps
 induction ps generalizing L with
 | nil => rfl
 | cons p ps ih => unfold setAll at *; rw [List.foldl_cons, ih]; simp
theorem setAll_get {L : Array Bool} {j : Nat} : ∀ {ps : List Nat}, (setAll L ps).getD j false = true ↔ L.getD j false = true ∨ (j ∈ ps ∧ j < L.size) := by
 intro ps
 induction ps generalizing L with
 | nil => simp [setAll]
 | cons p ps ih =>
  unfold setAll at *
  rw [List.foldl_cons, ih]
  by_cases hj : p = j
  ·subst hj
   by_cases hlt : p < L.size
   ·simp [hlt]
   ·simp [hlt]
  ·rw [getD_set_ne false hj]
   have : j ≠ p := fun e => hj e.symm
   simp [this]
theorem OpQ.mono {c : Bool} {o : Oper} {σ : Env} {ρ : List Res} {κ κ' : Kr} {v : Value} (h : OpQ c o σ ρ κ v) (k : Kle κ κ') : OpQ c o σ ρ κ' v :=
 fun hc w hs => h hc w ⟨fun b hb => (hs.keep b (k.sh b hb)).trans (k.keep b hb), hs.own⟩
theorem WD.mono {β : Base} {n : Nat} {ops : Array Oper} {K : Post} {κ κ' : Kr} (k : Kle κ κ') : ∀ {l : List (Nat × Oper)} {σ : Env} {ρd ρs : List Res}, WD β n ops K l σ ρd ρs κ → WD β n ops K l σ ρd ρs κ'
 | [], _, _, _, h => fun κ1 k1 => h κ1 (k.trans k1)
 | (0, o) :: r, _, _, _, ⟨h1, h2⟩ => ⟨h1, h2.imp (fun ⟨g, v, g1, g2⟩ => ⟨g, v, g1.mono k, WD.mono k g2⟩) (fun ⟨c, v, g, g1, g2⟩ => ⟨c, v, g, g1.mono k, WD.mono k g2⟩)⟩
 | (1, o) :: r, _, _, _, ⟨h1, h2⟩ => ⟨h1, h2.imp (fun ⟨g, g1⟩ => ⟨g, fun κ1 k1 => g1 κ1 (k.trans k1)⟩) (fun ⟨c, g, g1⟩ => ⟨c, g, fun κ1 k1 => g1 κ1 (k.trans k1)⟩)⟩
 | (2, o) :: r, _, _, _, ⟨T, cs, mk, d, h1, h2, h3⟩ => ⟨T, cs, mk, d, h1, h2, fun b κ1 k1 => h3 b κ1 (k.trans k1)⟩
 | (3, o) :: r, _, _, _, ⟨h1, h2⟩ => ⟨h1, WD.mono k h2⟩
 | (_ + 4, o) :: r, _, _, _, ⟨r0, ρd', h1, h2⟩ => ⟨r0, ρd', h1, WD.mono k h2⟩
theorem nodup_len : ∀ (l l' : List Nat), l.Nodup → (∀ x ∈ l, x ∈ l') → l.length ≤ l'.length
 | [], _, _, _ => by simp
 | x :: l, l', hn, hs => by
  have hx := hs x (by simp)
  have h := nodup_len l (l'.erase x) (List.nodup_cons.1 hn).2 fun y hy => (List.mem_erase_of_ne (fun (e : y = x) => (List.nodup_cons.1 hn).1 (by rw [← e]; exact hy))).2 (hs y (List.mem_cons_of_mem _ hy))
  rw [List.length_erase_of_mem hx] at h
  have : 0 < l'.length := List.length_pos_of_mem hx
  simp only [List.length_cons]; omega
section
variable {β : Base} {n : Nat} {ops : Array Oper} {K : Post} {ρs : List Res}
theorem pend_cons {i k : Nat} {r : List (Nat × Nat)} : pend ((i, k) :: r) = if k = 2 then i :: pend r else pend r := by
 unfold pend
 by_cases hk : k = 2
 ·subst hk; simp [List.filter_cons]
 ·have : Nat.beq k 2 = false := by cases hb : Nat.beq k 2; rfl; exact absurd (Nat.eq_of_beq_eq_true hb) hk
  simp [List.filter_cons, this, hk]
theorem LateRun.same {o : Oper} {σ σ' : Env} {T : Nat} {cs : List Value} {mk : Nat → Value} (hs : ∀ cs b, o.op ≠ .select cs b) (h : LateRun o σ T cs mk) (he : ∀ t ∈ o.looksAt ops, σ' t = σ t) : LateRun o σ' T cs mk :=
 ⟨h.1, fun w => by
  rw [← h.2 w, execOp_congr o hs fun x hx => ?_]
  cases x with
  | tmp t => exact he t (List.mem_append_left _ (List.mem_filterMap.2 ⟨.tmp t, by simpa using hx, rfl⟩))
  | _ => rfl⟩
theorem updO_other {σ : Env} {d : Option Nat} {v : Value} {t : Nat} (h : d ≠ some t) : updO σ d v t = σ t := by
 cases d with
 | none => rfl
 | some d =>
  have hb : Nat.beq t d = false := by cases hb : Nat.beq t d; rfl; exact absurd (by rw [Nat.eq_of_beq_eq_true hb]) h
  simp only [updO, upd, hb, cond_false]
structure EarlyOk (ops : Array Oper) (A P : List Nat) (L LE : Array Bool) (E : List Early) (σ : Env) : Prop where
 sz : L.size = ops.size
 szE : LE.size = ops.size
 get : ∀ j, LE.getD j false = true ↔ L.getD j false = true ∨ ∃ e ∈ E, e.op = j
 pd : ∀ e ∈ E, e.op ∈ P
 is : ∀ e ∈ E, e.op ∈ A ∧ ∃ o T cs mk b, ops[e.op]? = some o ∧ LateRun o σ T cs mk ∧ o.dst = some e.slot ∧ e.val = mk b ∧ e.res = Res.b b T cs
 nd : (E.map (·.op)).Nodup
section
variable {A P : List Nat} {L LE : Array Bool} {E : List Early} {σ : Env}
theorem EarlyOk.free {i : Nat} (h : EarlyOk ops A P L LE E σ) (hf : Region.free .any ops L i = true) : Region.free .any ops LE i = true := by
 unfold Region.free at *
 cases ho : ops[i]? with
 | none => rw [ho] at hf; exact hf
 | some oi =>
  rw [ho] at hf
  simp only [List.all_eq_true, List.mem_range] at hf ⊢
  intro j hj
  have h1 := hf j hj
  simp only [Bool.or_eq_true] at h1 ⊢
  rcases h1 with (h1 | h1) | h1
  ·exact .inl (.inl h1)
  ·refine .inl (.inr ?_)
   rw [getD_false_true (by rw [h.szE]; exact hj)]
   rw [getD_false_true (by rw [h.sz]; exact hj)] at h1
   exact (h.get j).2 (.inl h1)
  ·exact .inr h1
theorem EarlyOk.ready {i : Nat} (h : EarlyOk ops A P L LE E σ) (hi : i ∈ Region.ready .any ops L) (hn : ∀ e ∈ E, e.op ≠ i) : i ∈ Region.ready .any ops LE := by
 rw [mem_ready] at *
 obtain ⟨h0, o, ho, hall⟩ := hi
 have hlt : i < ops.size := (Array.getElem?_eq_some_iff.1 ho).1
 refine ⟨?_, o, ho, fun e he hb => (h.get _).2 (.inl (hall e he hb))⟩
 rw [getD_false_true (by rw [h.szE]; exact hlt)]
 rw [getD_false_true (by rw [h.sz]; exact hlt)] at h0
 cases hc : LE.getD i false with
 | false => rfl
 | true =>
  rcases (h.get i).1 hc with h1 | ⟨e, he, h1⟩
  ·rw [h0] at h1; cases h1
  ·exact absurd h1 (hn e he)
theorem EarlyOk.ready_all {j : Nat} {P' : List Nat} (h : EarlyOk ops A P L LE E σ) (hP : ∀ e ∈ E, e.op ∈ P') (hj : j ∈ Region.ready .any ops LE) (hn : j ∉ P') : j ∈ Region.ready .any ops (setAll L P') := by
 rw [mem_ready] at *
 obtain ⟨h0, o, ho, hall⟩ := hj
 have hlt : j < ops.size := (Array.getElem?_eq_some_iff.1 ho).1
 refine ⟨?_, o, ho, fun e he hb => ?_⟩
 ·rw [getD_false_true (by rw [setAll_size, h.sz]; exact hlt)]
  rw [getD_false_true (by rw [h.szE]; exact hlt)] at h0
  cases hc : (setAll L P').getD j false with
  | false => rfl
  | true =>
   rcases setAll_get.1 hc with h1 | ⟨h1, _⟩
   ·rw [(h.get j).2 (.inl h1)] at h0; cases h0
   ·exact absurd h1 hn
 ·refine setAll_get.2 ?_
  have h1 := hall e he hb
  rcases (h.get _).1 h1 with h2 | ⟨f, hf, h2⟩
  ·exact .inl h2
  ·refine .inr ⟨h2 ▸ hP f hf, ?_⟩
   rw [h.sz, ← h.szE]
   rcases Nat.lt_or_ge e.on LE.size with h3 | h3
   ·exact h3
   ·simp [Array.getD_eq_getD_getElem?, Array.getElem?_eq_none h3] at h1
end
theorem get_set {L : Array Bool} {i j : Nat} (hi : i < L.size) : (L.setIfInBounds i true).getD j false = true ↔ L.getD j false = true ∨ i = j := by
 by_cases hij : i = j
 ·subst hij; simp [hi]
 ·rw [getD_set_ne false hij]; simp [hij]
theorem indep_spec {o : Oper} {p d : Nat} {o' : Oper} (h : indepOf ops o p = true) (ho : ops[p]? = some o') (hd : o'.dst = some d) : d ∉ o.looksAt ops ∧ o.dst ≠ some d := by
 unfold indepOf at h
 rw [ho] at h
 simp only [Option.bind_some, hd, Bool.and_eq_true, Bool.not_eq_true', bne_iff_ne, ne_eq] at h
 exact ⟨by simpa using h.1, h.2⟩
theorem indepW_spec {o : Oper} {p : Nat} {q : Oper} (h : indepW ops o p = true) (hq : ops[p]? = some q) : ∀ t ∈ q.looksAt ops, o.dst ≠ some t := fun t ht hd => by
 unfold indepW at h
 rw [hq, hd] at h
 simp only [Bool.not_eq_true'] at h
 simp [ht] at h
theorem annOk_spec {A P : List Nat} {o : Oper} (h : annOk ops A o P = true) : ∀ p ∈ P, indepOf ops o p = true ∧ (p ∈ A → indepW ops o p = true) := fun p hp => by
 have := List.all_eq_true.1 h p hp
 simp only [Bool.and_eq_true, Bool.or_eq_true, Bool.not_eq_true'] at this
 refine ⟨this.1, fun ha => ?_⟩
 rcases this.2 with h1 | h1
 ·simp [ha] at h1
 ·exact h1
def lateApart (ops : Array Oper) (P : List Nat) : Bool := P.all fun p => P.all fun q => Nat.beq p q || (match ops[p]? with | some o => indepOf ops o q | none => false)
theorem lateApart_spec {P : List Nat} (h : lateApart ops P = true) {p q : Nat} {o o' : Oper} {d : Nat} (hp : p ∈ P) (hq : q ∈ P) (hne : p ≠ q) (ho : ops[p]? = some o) (ho' : ops[q]? = some o') (hd : o'.dst = some d) : d ∉ o.looksAt ops ∧ o.dst ≠ some d := by
 have := List.all_eq_true.1 (List.all_eq_true.1 h p hp) q hq
 simp only [Bool.or_eq_true, ho] at this
 rcases this with h1 | h1
 ·exact absurd (Nat.eq_of_beq_eq_true h1) hne
 ·exact indep_spec h1 ho' hd
end
section
variable {β : Base} {n : Nat} {ops : Array Oper} {K : Post}
theorem EarlyOk.step {A P : List Nat} {L LE : Array Bool} {E : List Early} {σ σ' : Env} {i : Nat} (hsel : Region.noSelect ops = true) (h : EarlyOk ops A P L LE E σ) (hi : i < ops.size) (hσ : ∀ p ∈ P, p ∈ A → ∀ o, ops[p]? = some o → ∀ t ∈ o.looksAt ops, σ' t = σ t) : EarlyOk ops A P (L.setIfInBounds i true) (LE.setIfInBounds i true) E σ' :=
 ⟨by simp [h.sz], by simp [h.szE], fun j => by rw [get_set (by rw [h.szE]; exact hi), get_set (by rw [h.sz]; exact hi), h.get j]; constructor <;> (rintro ((h | h) | h) <;> simp [h]), h.pd, fun e he => by
  obtain ⟨h1, o, T, cs, mk, b, h2, h3, h4⟩ := h.is e he
  exact ⟨h1, o, T, cs, mk, b, h2, h3.same (ops := ops) (fun cs b => Region.noSelect_spec hsel _ o cs b h2) (hσ _ (h.pd e he) h1 o h2), h4⟩, h.nd⟩
theorem lateOk_spec {p : Nat} (h : lateOk n ops p = true) : ∃ o d, ops[p]? = some o ∧ o.guard = none ∧ o.dst = some d ∧ Nat.blt d n = true := by
 unfold lateOk at h
 cases ho : ops[p]? with
 | none => rw [ho] at h; cases h
 | some o =>
  rw [ho] at h
  simp only [Bool.and_eq_true] at h
  obtain ⟨h2, h4⟩ := h
  cases hd : o.dst with
  | none => rw [hd] at h4; cases h4
  | some d =>
   rw [hd] at h4
   exact ⟨o, d, rfl, by simpa using h2, hd, h4⟩
def endL : Array Bool → List (Nat × Nat) → Array Bool
 | L, [] => L
 | L, (i, k) :: r => endL (cond (Nat.blt k 3) (L.setIfInBounds i true) L) r
theorem wd_sound (hsel : Region.noSelect ops = true) (mf : Nat) (Lf : Array Bool) : ∀ (N m : Nat) (ord : List (Nat × Nat)) (l : List (Nat × Oper)) (L LE : Array Bool) (A : List Nat) (E : List Early) (σ : Env) (ρd ρs : List Res) (κ : Kr), N = m + ord.length → (ord.filter fun p => Nat.blt p.2 3).length + mf = m + E.length → endL L ord = Lf →
    EarlyOk ops A (pend ord) L LE E σ → ((ord.filter fun p => Nat.blt p.2 3).map (·.1)).Nodup → (∀ p ∈ pend ord, lateOk n ops p = true) → lateApart ops (pend ord) = true → (∀ p ∈ pend ord, p ∈ A → ∃ o T cs mk, ops[p]? = some o ∧ LateRun o σ T cs mk) →
    okOrder n ops L A ord = true → pickOps ops.toList ord = some l →
    WD β n ops K l σ ρd ρs κ → Inv β (ρd ++ (E.map (·.res) ++ ρs)) κ → ∀ a, Rel n a (ov E σ) → ∀ Q : Act → World → Prop,
    (∀ a' σ' ρd' ρs' κ', Rel n a' σ' → Inv β (ρd' ++ ρs') κ' → Kle κ κ' → K σ' (ρd' ++ ρs') κ' → wpAnyH Tryz.prog .any ops (NP Q) (Stab ρs' κ') mf Lf a' κ'.w) → wpAnyH Tryz.prog .any ops (NP Q) (Stab ρs κ) m LE a κ.w := by
  intro N
  induction N using Nat.strongRecOn with
  | _ N ih =>
  intro m ord l L LE A E σ ρd ρs κ hN hlen hLf hE hnd hlate hapart hann hok hp hw hi a hr Q hk
  have hstab : Stab ρs κ κ.w := ⟨fun _ _ => rfl, fun r hr => hi.own r (by simp [hr])⟩
  have early : ∀ (m' : Nat), m = m' + 1 → ∀ j, j ∈ Region.ready .any ops LE → j ∈ pend ord → j ∈ A → wpOp Tryz.prog ops (NP Q) j (fun a' w' => Stab ρs κ w' ∧ wpAnyH Tryz.prog .any ops (NP Q) (Stab ρs κ) m' (LE.setIfInBounds j true) a' w') a κ.w := by
    intro m' hm j hj hjp hjA
    obtain ⟨o, d, ho, hg, hd, hdn⟩ := lateOk_spec (hlate j hjp)
    obtain ⟨o', T, cs, mk, ho', hlo⟩ := hann j hjp hjA
    rw [ho] at ho'; injection ho' with ho'; subst ho'
    have hlt : j < ops.size := (Array.getElem?_eq_some_iff.1 ho).1
    have hs : ∀ cs b, o.op ≠ .select cs b := fun cs b => Region.noSelect_spec hsel j o cs b ho
    have hjE : ∀ e ∈ E, e.op ≠ j := fun e he h => by
      have h1 := (mem_ready.1 hj).1
      rw [getD_false_true (by rw [hE.szE]; exact hlt), (hE.get j).2 (.inr ⟨e, he, h⟩)] at h1
      cases h1
    have hslot : ∀ e ∈ E, e.slot ∉ o.looksAt ops := fun e he => by
      obtain ⟨_, o', T', cs', mk', b', g1, _, g3, _⟩ := hE.is e he
      exact (lateApart_spec hapart hjp (hE.pd e he) (fun h => hjE e he h.symm) ho g1 g3).1
    have hlo' := hlo.same (ops := ops) (σ' := ov E σ) hs fun t ht => ov_not fun e he h => hslot e he (by rw [h]; exact ht)
    unfold wpOp
    simp only [ho]
    rw [if_pos (by simp [Region.wanted, hg])]
    refine .inl ?_
    unfold Oper.wp
    rw [hr.eval, hlo'.2]
    simp only [Oper.upon_value]
    have hkl := kle_alloc hi.fin (.cells cs.toArray T)
    have hi' := hi.alloc (.cells cs.toArray T) (Res.b κ.w.heap.size T cs) rfl rfl
    have hst' : Stab ρs κ (κ.w.alloc (.cells cs.toArray T)) := ⟨hkl.keep, fun r hr => hi'.own r (by simp [hr])⟩
    refine ⟨hst', wpAnyH_weak (fun w hw => ⟨fun b hb => (hw.keep b hb).trans (hkl.keep b hb), hw.own⟩) _ _ _ _ (ih (m' + ord.length) (by omega) m' ord l L (LE.setIfInBounds j true) A (⟨j, d, mk κ.w.heap.size, Res.b κ.w.heap.size T cs⟩ :: E) σ ρd ρs ⟨κ.w.alloc (.cells cs.toArray T), κ.S⟩ rfl (by simp only [List.length_cons]; omega) hLf ?_ hnd hlate hapart hann hok hp (hw.mono hkl) ?_ _ ?_ Q fun a' σ' ρ' ρ'' κ' g1 g2 g3 g4 => hk a' σ' ρ' ρ'' κ' g1 g2 (hkl.trans g3) g4)⟩
    · refine ⟨hE.sz, by simp [hE.szE], fun j' => ?_, ?_, ?_, ?_⟩
      · rw [get_set (by rw [hE.szE]; exact hlt), hE.get j']
        constructor
        · rintro ((h | ⟨e, he, h⟩) | h)
          · exact .inl h
          · exact .inr ⟨e, List.mem_cons_of_mem _ he, h⟩
          · exact .inr ⟨_, List.mem_cons_self, h⟩
        · rintro (h | ⟨e, he, h⟩)
          · exact .inl (.inl h)
          · rcases List.mem_cons.1 he with rfl | he
            · exact .inr h
            · exact .inl (.inr ⟨e, he, h⟩)
      · intro e he
        rcases List.mem_cons.1 he with rfl | he
        · exact hjp
        · exact hE.pd e he
      · intro e he
        rcases List.mem_cons.1 he with rfl | he
        · exact ⟨hjA, o, T, cs, mk, _, ho, hlo, hd, rfl, rfl⟩
        · exact hE.is e he
      · simp only [List.map_cons]
        exact List.nodup_cons.2 ⟨fun h => by obtain ⟨e, he, h⟩ := List.mem_map.1 h; exact hjE e he h, hE.nd⟩
    · refine hi'.perm ?_
      simp only [List.map_cons, List.cons_append]
      exact (List.perm_middle).symm
    · rw [ov_cons]
      have := hr.put (d := o.dst) (dst_some hd hdn) (mk κ.w.heap.size)
      rw [updO_some hd] at this
      exact this
  match ord, hN, hlen, hLf, hE, hnd, hlate, hapart, hann, hok, hp, early with
  | [], hN, hlen, hLf, hE, hnd, hlate, hapart, hann, hok, hp, early =>
    simp only [pickOps, Option.some.injEq] at hp; subst hp
    simp only [List.filter_nil, List.length_nil] at hlen
    have hE0 : E = [] := by
      cases E with
      | nil => rfl
      | cons e E => exact absurd (hE.pd e (by simp)) (by simp [pend])
    subst hE0
    have hm : m = mf := by simp at hlen; omega
    subst hm
    simp only [endL] at hLf
    have hLE : LE = L := by
      apply Array.ext (by rw [hE.szE, hE.sz])
      intro j h1 h2
      have := hE.get j
      simp only [List.not_mem_nil, false_and, exists_false, or_false, Array.getD_eq_getD_getElem?, Array.getElem?_eq_getElem h1, Array.getElem?_eq_getElem h2, Option.getD_some] at this
      exact Bool.eq_iff_iff.2 this
    rw [hLE, hLf]
    exact hk a σ ρd ρs κ (by rw [ov_nil] at hr; exact hr) (by simpa using hi) (.refl _) (hw κ (.refl _))
  | (i, k) :: r, hN, hlen, hLf, hE, hnd, hlate, hapart, hann, hok, hp, early =>
    simp only [pickOps] at hp
    split at hp
    · rename_i o l' ho hl
      have ho : ops[i]? = some o := by simpa using ho
      injection hp with hp; subst hp
      have hlt : i < ops.size := (Array.getElem?_eq_some_iff.1 ho).1
      have hs : ∀ cs b, o.op ≠ .select cs b := fun cs b => Region.noSelect_spec hsel i o cs b ho
      have hpf : (pend r).length ≤ (r.filter fun p => Nat.blt p.2 3).length := by
        unfold pend
        simp only [List.length_map]
        refine List.Sublist.length_le ?_
        have : (r.filter fun p => Nat.beq p.2 2) = ((r.filter fun p => Nat.blt p.2 3).filter fun p => Nat.beq p.2 2) := by
          rw [List.filter_filter]
          apply List.filter_congr
          intro x _
          cases hb : Nat.beq x.2 2
          · rfl
          · rw [Nat.eq_of_beq_eq_true hb]; rfl
        rw [this]
        exact List.filter_sublist
      simp only [List.length_cons] at hN
      have plain : k < 2 → annOk ops A o (pend r) = true → (∀ e ∈ E, e.slot ∉ o.looksAt ops) ∧ (∀ e ∈ E, o.dst ≠ some e.slot) ∧ EarlyOk ops A (pend r) L LE E σ ∧ (∃ m', m = m' + 1 ∧ (r.filter fun p => Nat.blt p.2 3).length + mf = m' + E.length) ∧ (∀ p ∈ pend r, lateOk n ops p = true) ∧ lateApart ops (pend r) = true ∧ ((r.filter fun p => Nat.blt p.2 3).map (·.1)).Nodup ∧ i ∉ pend r ∧
          (∀ v, ∀ p ∈ pend r, p ∈ A → ∀ o', ops[p]? = some o' → ∀ t ∈ o'.looksAt ops, updO σ o.dst v t = σ t) ∧ (∀ v, ∀ p ∈ pend r, p ∈ A → ∃ o' T cs mk, ops[p]? = some o' ∧ LateRun o' (updO σ o.dst v) T cs mk) := by
        intro hk2 hind
        rw [pend_cons, if_neg (by omega)] at hE hlate hapart hann
        have hb3 : Nat.blt k 3 = true := by simp [Nat.blt]; omega
        simp only [List.filter_cons, hb3, if_true, List.length_cons, List.map_cons, List.nodup_cons] at hlen hnd
        have hspec := annOk_spec hind
        have hsame : ∀ v, ∀ p ∈ pend r, p ∈ A → ∀ o', ops[p]? = some o' → ∀ t ∈ o'.looksAt ops, updO σ o.dst v t = σ t := fun v p hp hA o' ho' t ht => updO_other (indepW_spec ((hspec p hp).2 hA) ho' t ht)
        refine ⟨fun e he => ?_, fun e he => ?_, hE, ?_, hlate, hapart, hnd.2, fun h => ?_, hsame, fun v p hp hA => ?_⟩
        · obtain ⟨_, o', T', cs', mk', b', g1, _, g3, _⟩ := hE.is e he
          exact (indep_spec (hspec _ (hE.pd e he)).1 g1 g3).1
        · obtain ⟨_, o', T', cs', mk', b', g1, _, g3, _⟩ := hE.is e he
          exact (indep_spec (hspec _ (hE.pd e he)).1 g1 g3).2
        · have := nodup_len (E.map (·.op)) (pend r) hE.nd fun x hx => by obtain ⟨e, he, rfl⟩ := List.mem_map.1 hx; exact hE.pd e he
          simp only [List.length_map] at this
          exact ⟨m - 1, by omega, by omega⟩
        · refine hnd.1 ?_
          obtain ⟨x, hx, hxi⟩ := List.mem_map.1 h
          obtain ⟨hx1, hx2⟩ := List.mem_filter.1 hx
          refine List.mem_map.2 ⟨x, List.mem_filter.2 ⟨hx1, ?_⟩, hxi⟩
          rw [Nat.eq_of_beq_eq_true hx2]; rfl
        · obtain ⟨o', T, cs, mk, h1, h2⟩ := hann p hp hA
          exact ⟨o', T, cs, mk, h1, h2.same (ops := ops) (fun cs b => Region.noSelect_spec hsel _ o' cs b h1) (hsame v p hp hA o' h1)⟩
      have waitsA : ∀ {P' : List Nat}, waits ops L A P' = true → (∀ e ∈ E, e.op ∈ P') → ∀ j ∈ P', j ∈ Region.ready .any ops LE → j ∈ A := by
        intro P' hwt hEP j hj hrd
        have := List.all_eq_true.1 hwt j hj
        simp only [Bool.or_eq_true, Bool.not_eq_true'] at this
        rcases this with h | h
        · simpa using h
        · exfalso
          have hjE : ∀ e ∈ E, e.op ≠ j := fun e he he' => by
            obtain ⟨h0, o', ho', _⟩ := mem_ready.1 hrd
            rw [getD_false_true (by rw [hE.szE]; exact (Array.getElem?_eq_some_iff.1 ho').1), (hE.get j).2 (.inr ⟨e, he, he'⟩)] at h0
            cases h0
          have hr2 := hE.ready_all (P' := P'.filter fun q => !Nat.beq q j) (fun e he => List.mem_filter.2 ⟨hEP e he, by
            have hb : Nat.beq e.op j = false := by cases hb : Nat.beq e.op j; rfl; exact absurd (Nat.eq_of_beq_eq_true hb) (hjE e he)
            rw [hb]; rfl⟩) hrd (fun hm => by have := (List.mem_filter.1 hm).2; simp at this)
          simp [hr2] at h
      match k, hok, hw, early, hE, hlate, hapart, hann, hnd, hlen, hLf, plain with
      | 0, hok, hw, early, hE, hlate, hapart, hann, hnd, hlen, hLf, plain =>
        simp only [okOrder, ho, Bool.and_eq_true] at hok
        obtain ⟨⟨⟨h1, h2⟩, h3⟩, hok2⟩ := hok
        obtain ⟨g1, g2, g3, ⟨m', rfl, glen⟩, g5, g6, g7, hir, g8, g9⟩ := plain (by omega) h3
        have hrdy : (Region.ready .any ops LE).contains i = true := by simpa using g3.ready (by simpa using h1) (fun e he (h : e.op = i) => hir (by rw [← h]; exact g3.pd e he))
        obtain ⟨hd, hw⟩ := hw
        rcases hw with ⟨hg, v, hv, hw⟩ | ⟨c, v, hg, hv, hw⟩
        · refine wpAnyH_take ho hsel (g3.free h2) hrdy (fun _ _ _ h => by cases h.1) (v := v) (.inl ⟨by simp [Region.wanted, hg], fun w hw' => by rw [hr.eval, ov_ev hs g1]; exact hv rfl w hw'⟩) hstab ?_
          exact ih (m' + r.length) (by omega) m' r l' _ _ A E _ ρd ρs κ rfl glen hLf (g3.step hsel hlt (g8 v)) g7 g5 g6 (g9 v) hok2 hl hw hi _ (by rw [ov_updO g2]; exact hr.put hd v) Q hk
        · refine wpAnyH_take ho hsel (g3.free h2) hrdy (fun _ _ _ h => by cases h.1) (v := gv c v) ?_ hstab (ih (m' + r.length) (by omega) m' r l' _ _ A E _ ρd ρs κ rfl glen hLf (g3.step hsel hlt (g8 _)) g7 g5 g6 (g9 _) hok2 hl hw hi _ (by rw [ov_updO g2]; exact hr.put hd _) Q hk)
          have hg' := ov_guard g1 hg
          cases c with
          | true => exact .inl ⟨by rw [wanted_rel hr]; exact hg', fun w hw' => by rw [hr.eval, gv_true, ov_ev hs g1]; exact hv rfl w hw'⟩
          | false => exact .inr ⟨by rw [wanted_rel hr]; exact hg', gv_false v⟩
      | 1, hok, hw, early, hE, hlate, hapart, hann, hnd, hlen, hLf, plain =>
        simp only [okOrder, ho, Bool.and_eq_true, beq_iff_eq] at hok
        obtain ⟨⟨⟨⟨h1, h2⟩, h3⟩, h4⟩, hok2⟩ := hok
        obtain ⟨g1, g2, g3, ⟨m', rfl, glen⟩, g5, g6, g7, hir, g8, g9⟩ := plain (by omega) h3
        have hrdy := g3.ready (by simpa using h1) (fun e he (h : e.op = i) => hir (by rw [← h]; exact g3.pd e he))
        have hperm : (ρd ++ (E.map (·.res) ++ ρs)).Perm ((ρd ++ ρs) ++ E.map (·.res)) := by
          rw [List.append_assoc]; exact List.Perm.append_left ρd List.perm_append_comm
        have hperm2 : ∀ ρ' : List Res, ((ρ' ++ ρs) ++ E.map (·.res)).Perm (ρ' ++ (E.map (·.res) ++ ρs)) := fun ρ' => by
          rw [List.append_assoc]; exact List.Perm.append_left ρ' List.perm_append_comm
        refine wpAnyH_all rfl (fun h => by rw [h] at hrdy; cases hrdy) fun j hj => ?_
        by_cases hjp : j ∈ pend r
        · exact early m' rfl j hj (by rw [pend_cons, if_neg (by omega)]; exact hjp) (waitsA h4 g3.pd j hjp hj)
        · have hji : j = i := by have := g3.ready_all g3.pd hj hjp; rw [h2] at this; simpa using this
          subst hji
          unfold wpOp
          simp only [ho]
          obtain ⟨hd, hw⟩ := hw
          rcases hw with ⟨hg, hw⟩ | ⟨c, hg, hw⟩
          · rw [if_pos (by simp [Region.wanted, hg])]
            have hout := (hw κ (.refl _)).frame (hi.perm hperm) (fun v w => Stab ρs κ w ∧ wpAnyH Tryz.prog .any ops (NP Q) (Stab ρs κ) m' (LE.setIfInBounds j true) (a.put o.dst v) w) fun v ρ' κ' hi' hle' hw' => by
              obtain ⟨ρd', rfl, hw'⟩ := hw'
              have hi2 := hi'.perm (hperm2 ρd')
              exact ⟨⟨hle'.keep, fun r hr => hi2.own r (by simp [hr])⟩, wpAnyH_weak (fun w hw => ⟨fun b hb => (hw.keep b (hle'.sh b hb)).trans (hle'.keep b hb), hw.own⟩) _ _ _ _ (ih (m' + r.length) (by omega) m' r l' _ _ A E _ ρd' ρs κ' rfl glen hLf (g3.step hsel hlt (g8 v)) g7 g5 g6 (g9 v) hok2 hl hw' hi2 _ (by rw [ov_updO g2]; exact hr.put hd v) Q fun a' σ' ρ'' ρ3 κ'' h1 h2 h3 h4 => hk a' σ' ρ'' ρ3 κ'' h1 h2 (hle'.trans h3) h4)⟩
            rw [← ov_ev hs g1] at hout
            exact .inl (wp_of_out hr.eval hout fun _ _ h => h)
          · have hg' := ov_guard g1 hg
            rw [wanted_rel hr, hg']
            have hw0 := hw κ (.refl _)
            cases c with
            | false =>
              have h2 := hw0.2 rfl
              simp only [gv_false] at h2
              exact ⟨hstab, ih (m' + r.length) (by omega) m' r l' _ _ A E _ ρd ρs κ rfl glen hLf (g3.step hsel hlt (g8 _)) g7 g5 g6 (g9 _) hok2 hl h2 hi _ (by rw [ov_updO g2]; exact hr.put hd _) Q hk⟩
            | true =>
              have hout := (hw0.1 rfl).frame (hi.perm hperm) (fun v w => Stab ρs κ w ∧ wpAnyH Tryz.prog .any ops (NP Q) (Stab ρs κ) m' (LE.setIfInBounds j true) (a.put o.dst v) w) fun v ρ' κ' hi' hle' hw' => by
                obtain ⟨rfl, hw'⟩ := hw'
                simp only [gv_true] at hw'
                have hi2 := hi'.perm (hperm2 ρd)
                exact ⟨⟨hle'.keep, fun r hr => hi2.own r (by simp [hr])⟩, wpAnyH_weak (fun w hw => ⟨fun b hb => (hw.keep b (hle'.sh b hb)).trans (hle'.keep b hb), hw.own⟩) _ _ _ _ (ih (m' + r.length) (by omega) m' r l' _ _ A E _ ρd ρs κ' rfl glen hLf (g3.step hsel hlt (g8 v)) g7 g5 g6 (g9 v) hok2 hl hw' hi2 _ (by rw [ov_updO g2]; exact hr.put hd v) Q fun a' σ' ρ'' ρ3 κ'' h1 h2 h3 h4 => hk a' σ' ρ'' ρ3 κ'' h1 h2 (hle'.trans h3) h4)⟩
              rw [← ov_ev hs g1] at hout
              exact .inl (wp_of_out hr.eval hout fun _ _ h => h)
      | 2, hok, hw, early, hE, hlate, hapart, hann, hnd, hlen, hLf, plain =>
        simp only [okOrder, ho, Bool.and_eq_true] at hok
        obtain ⟨⟨⟨⟨⟨h1, h2⟩, hiA⟩, h3⟩, h4⟩, hok2⟩ := hok
        have hpc : pend ((i, 2) :: r) = i :: pend r := by rw [pend_cons, if_pos rfl]
        have hf : ((i, 2) :: r).filter (fun p => Nat.blt p.2 3) = (i, 2) :: r.filter (fun p => Nat.blt p.2 3) := by simp [List.filter_cons, Nat.blt]
        rw [hf] at hlen hnd
        simp only [List.length_cons, List.map_cons, List.nodup_cons] at hlen hnd
        have hspec := annOk_spec h3
        by_cases hiE : ∃ e ∈ E, e.op = i
        · obtain ⟨e, he, hei⟩ := hiE
          obtain ⟨E1, E2, rfl⟩ := List.append_of_mem he
          obtain ⟨_, o', T, cs, mk, b, q1, q2, q3, q4, q5⟩ := hE.is e he
          rw [hei, ho] at q1; injection q1 with q1; subst q1
          obtain ⟨T2, cs2, mk2, d, w1, w2, w3⟩ := hw
          obtain ⟨rfl, rfl, rfl⟩ := q2.det w1
          rw [q3] at w2; injection w2 with w2; subst w2
          have hne : ∀ f ∈ E1 ++ E2, f.op ≠ i := fun f hf h => by
            have hnd' := hE.nd
            simp only [List.map_append, List.map_cons] at hnd'
            have := (List.nodup_append.1 hnd')
            rcases List.mem_append.1 hf with hf | hf
            · exact this.2.2 f.op (List.mem_map_of_mem hf) e.op (by simp) (by rw [h, hei])
            · exact (List.nodup_cons.1 this.2.1).1 (by rw [hei, ← h]; exact List.mem_map_of_mem hf)
          have hmem : ∀ f ∈ E1 ++ E2, f ∈ E1 ++ e :: E2 := fun f hf => mem_mid' hf
          have hpd : ∀ f ∈ E1 ++ E2, f.op ∈ pend r := fun f hf => by
            have := hE.pd f (hmem f hf)
            rw [hpc] at this
            rcases List.mem_cons.1 this with h | h
            · exact absurd h (hne f hf)
            · exact h
          have hsl : ∀ f ∈ E1 ++ E2, f.slot ≠ e.slot := fun f hf h => by
            obtain ⟨_, o', T', cs', mk', b', g1, _, g3, _⟩ := hE.is f (hmem f hf)
            exact (indep_spec (hspec _ (hpd f hf)).1 g1 g3).2 (by rw [q3, h])
          have hsame : ∀ v, ∀ p ∈ pend r, p ∈ A → ∀ o', ops[p]? = some o' → ∀ t ∈ o'.looksAt ops, upd σ e.slot v t = σ t := fun v p hp hA o' ho' t ht => by
            have := updO_other (σ := σ) (v := v) (indepW_spec ((hspec p hp).2 hA) ho' t ht)
            rwa [updO_some q3] at this
          refine ih (m + r.length) (by omega) m r l' (L.setIfInBounds i true) LE A (E1 ++ E2) _ _ ρs κ rfl (by simp only [List.length_append, List.length_cons] at hlen ⊢; omega) hLf ?_ hnd.2 (fun p hp => hlate p (by rw [hpc]; exact List.mem_cons_of_mem _ hp)) ?_ (fun p hp hA => ?_) hok2 hl (w3 b κ (.refl _)) ?_ a ?_ Q hk
          · refine ⟨by simp [hE.sz], hE.szE, fun j => ?_, hpd, fun f hf => ?_, ?_⟩
            · rw [get_set (by rw [hE.sz]; exact hlt), hE.get j]
              constructor
              · rintro (h | ⟨f, hf, h⟩)
                · exact .inl (.inl h)
                · by_cases hfe : f = e
                  · subst hfe; exact .inl (.inr (by rw [← hei]; exact h))
                  · exact .inr ⟨f, mem_mid hf hfe, h⟩
              · rintro ((h | h) | ⟨f, hf, h⟩)
                · exact .inl h
                · exact .inr ⟨e, he, by rw [hei]; exact h⟩
                · exact .inr ⟨f, hmem f hf, h⟩
            · obtain ⟨k1, o', T', cs', mk', b', k2, k3, k4⟩ := hE.is f (hmem f hf)
              exact ⟨k1, o', T', cs', mk', b', k2, k3.same (ops := ops) (fun cs b => Region.noSelect_spec hsel _ o' cs b k2) (hsame _ _ (hpd f hf) k1 o' k2), k4⟩
            · have hnd' := hE.nd
              simp only [List.map_append, List.map_cons] at hnd' ⊢
              exact List.Nodup.sublist (List.Sublist.append_left (List.sublist_cons_self _ _) _) hnd'
          · rw [hpc] at hapart
            unfold lateApart at *
            refine List.all_eq_true.2 fun p hp => List.all_eq_true.2 fun q hq => ?_
            exact List.all_eq_true.1 (List.all_eq_true.1 hapart p (List.mem_cons_of_mem _ hp)) q (List.mem_cons_of_mem _ hq)
          · obtain ⟨o', T', cs', mk', k1, k2⟩ := hann p (by rw [hpc]; exact List.mem_cons_of_mem _ hp) hA
            exact ⟨o', T', cs', mk', k1, k2.same (ops := ops) (fun cs b => Region.noSelect_spec hsel _ o' cs b k1) (hsame _ p hp hA o' k1)⟩
          · refine hi.perm ?_
            rw [← q5]
            simp only [List.map_append, List.map_cons, List.append_assoc, List.cons_append]
            refine (List.Perm.append_left ρd (List.perm_middle)).trans ?_
            exact List.perm_middle
          · rw [ov_mid hsl, q4] at hr
            exact hr
        · have hsub : ∀ x ∈ E.map (·.op), x ∈ pend r := fun x hx => by
              obtain ⟨e, he, rfl⟩ := List.mem_map.1 hx
              have := hE.pd e he
              rw [hpc] at this
              rcases List.mem_cons.1 this with h | h
              · exact absurd ⟨e, he, h⟩ hiE
              · exact h
          have hsub' : ∀ e ∈ E, e.op ∈ pend r := fun e he => hsub _ (List.mem_map_of_mem he)
          obtain ⟨m', rfl⟩ : ∃ m', m = m' + 1 := by
            have := nodup_len (E.map (·.op)) (pend r) hE.nd hsub
            simp only [List.length_map] at this
            exact ⟨m - 1, by omega⟩
          have hirdy := hE.ready (by simpa using h1) (fun e he h => hiE ⟨e, he, h⟩)
          refine wpAnyH_all rfl (fun h => by rw [h] at hirdy; cases hirdy) fun j hj => ?_
          by_cases hjp : j ∈ pend r
          · exact early m' rfl j hj (by rw [hpc]; exact List.mem_cons_of_mem _ hjp) (waitsA h4 hsub' j hjp hj)
          · have := hE.ready_all hsub' hj hjp
            have h2' : Region.ready .any ops (setAll L (pend r)) = [i] := by simpa using h2
            rw [h2'] at this
            have hji : j = i := by simpa using this
            subst hji
            exact early m' rfl j hj (by rw [hpc]; exact List.mem_cons_self) (by simpa using hiA)
      | 3, hok, hw, early, hE, hlate, hapart, hann, hnd, hlen, hLf, plain =>
        simp only [okOrder, ho] at hok
        have hpc : pend ((i, 3) :: r) = pend r := by rw [pend_cons, if_neg (by omega)]
        have hf : ((i, 3) :: r).filter (fun p => Nat.blt p.2 3) = r.filter (fun p => Nat.blt p.2 3) := by simp [List.filter_cons, Nat.blt]
        rw [hf] at hlen hnd
        rw [hpc] at hE hlate hapart hann
        obtain ⟨⟨T, cs, mk, hlr⟩, hw⟩ := hw
        refine ih (m + r.length) (by omega) m r l' L LE (i :: A) E σ ρd ρs κ rfl hlen hLf ⟨hE.sz, hE.szE, hE.get, hE.pd, fun e he => ⟨List.mem_cons_of_mem _ (hE.is e he).1, (hE.is e he).2⟩, hE.nd⟩ hnd hlate hapart (fun p hp hA => ?_) hok hl hw hi a hr Q hk
        rcases List.mem_cons.1 hA with rfl | hA
        · exact ⟨o, T, cs, mk, ho, hlr⟩
        · exact hann p hp hA
      | 4, hok, hw, early, hE, hlate, hapart, hann, hnd, hlen, hLf, plain =>
        simp only [okOrder, ho] at hok
        have hpc : pend ((i, 4) :: r) = pend r := by rw [pend_cons, if_neg (by omega)]
        have hf : ((i, 4) :: r).filter (fun p => Nat.blt p.2 3) = r.filter (fun p => Nat.blt p.2 3) := by simp [List.filter_cons, Nat.blt]
        rw [hf] at hlen hnd
        rw [hpc] at hE hlate hapart hann
        obtain ⟨r0, ρd', hpk, hw⟩ := hw
        have hperm : (ρd ++ (E.map (·.res) ++ ρs)).Perm (ρd' ++ (E.map (·.res) ++ (r0 :: ρs))) := by
          refine (hpk.append_right _).trans ?_
          rw [List.cons_append, ← List.append_assoc, ← List.append_assoc]
          exact (List.perm_middle).symm
        refine wpAnyH_weak (fun w hw => ⟨hw.keep, fun r hr => hw.own r (List.mem_cons_of_mem _ hr)⟩) _ _ _ _ (ih (m + r.length) (by omega) m r l' L LE A E σ ρd' (r0 :: ρs) κ rfl hlen hLf hE hnd hlate hapart hann hok hl hw (hi.perm hperm) a hr Q hk)
      | (k' + 5), hok, hw, early, hE, hlate, hapart, hann, hnd, hlen, hLf, plain => simp only [okOrder, Bool.false_eq_true] at hok
    · cases hp
theorem mixed : Tryz.prog.follows .mixedOrders = true := by kernel_rfl
def statics (ops : Array Oper) (ord : List (Nat × Nat)) : List Nat := (pend ord).filter (lateStatic ops)
def okPart (n : Nat) (l : List Oper) (L : Array Bool) (ord : List (Nat × Nat)) : Bool :=
 decide (((ord.filter fun p => Nat.blt p.2 3).map (·.1)).Nodup) && (pend ord).all (lateOk n l.toArray) && lateApart l.toArray (pend ord) && okOrder n l.toArray L (statics l.toArray ord) ord
def okAll (n : Nat) (l : List Oper) (ord : List (Nat × Nat)) : Bool :=
 Region.noSelect l.toArray && Nat.beq (ord.filter fun p => Nat.blt p.2 3).length l.length && okPart n l (Array.replicate l.length false) ord && (Region.ready .any l.toArray (endL (Array.replicate l.length false) ord)).isEmpty
theorem late_static {ops : Array Oper} {p : Nat} (h : lateStatic ops p = true) (σ : Env) : ∃ o T cs mk, ops[p]? = some o ∧ LateRun o σ T cs mk := by
 unfold lateStatic at h
 cases ho : ops[p]? with
 | none => rw [ho] at h; cases h
 | some o =>
  rw [ho] at h
  simp only [Bool.and_eq_true] at h
  obtain ⟨⟨T, cs, mk⟩, hx⟩ := Option.isSome_iff_exists.1 h.1
  exact ⟨o, T, cs, mk, rfl, by simpa using h.2, late_run hx σ⟩
theorem wd_part {mf : Nat} {l : List Oper} {σ : Env} {ρd ρs : List Res} {κ : Kr} {L : Array Bool} {ord : List (Nat × Nat)} {lo : List (Nat × Oper)} (hsel : Region.noSelect l.toArray = true) (hL : L.size = l.length) (hok : okPart n l L ord = true) (hl : pickOps l ord = some lo)
    (h : WD β n l.toArray K lo σ ρd ρs κ) (hi : Inv β (ρd ++ ρs) κ) (a : Act) (hr : Rel n a σ) (Q : Act → World → Prop) (hk : ∀ a' σ' ρd' ρs' κ', Rel n a' σ' → Inv β (ρd' ++ ρs') κ' → Kle κ κ' → K σ' (ρd' ++ ρs') κ' → wpAnyH Tryz.prog .any l.toArray (NP Q) (Stab ρs' κ') mf (endL L ord) a' κ'.w) :
    wpAnyH Tryz.prog .any l.toArray (NP Q) (Stab ρs κ) ((ord.filter fun p => Nat.blt p.2 3).length + mf) L a κ.w := by
  unfold okPart at hok
  simp only [Bool.and_eq_true] at hok
  obtain ⟨⟨⟨h3, h4⟩, h4'⟩, h5⟩ := hok
  exact wd_sound hsel mf (endL L ord) _ ((ord.filter fun p => Nat.blt p.2 3).length + mf) ord lo L L (statics l.toArray ord) [] σ ρd ρs κ rfl (by simp) rfl ⟨by simpa using hL, by simpa using hL, fun j => by simp, by simp, by simp, by simp⟩ (by simpa using h3) (fun p hp => List.all_eq_true.1 h4 p hp) h4' (fun p _ hA => late_static (List.mem_filter.1 hA).2 σ) h5 (by simpa using hl) h (by simpa using hi) a (by rw [ov_nil]; exact hr) Q hk
theorem wc_draw {K : Exit → Post} {id : Nat} {l : List Oper} {σ : Env} {ρ ρd : List Res} {κ : Kr} (ord : List (Nat × Nat)) {lo : List (Nat × Oper)} (ρs : List Res) (hp : ρ.Perm (ρd ++ ρs)) (hok : okAll n l ord = true)
    (hl : pickOps l ord = some lo) (h : ∀ κ', Kle κ κ' → WD β n l.toArray (K .normal) lo σ ρd ρs κ') : WC β n (.region id l.toArray true) K σ ρ κ := fun hi a hr Q hq => by
  unfold okAll at hok
  simp only [Bool.and_eq_true] at hok
  obtain ⟨⟨⟨h1, h2⟩, h3⟩, h4⟩ := hok
  have hlen := Nat.eq_of_beq_eq_true h2
  have hk1 : Kle κ ⟨{ κ.w with drawn := κ.w.drawn + 1 }, κ.S⟩ := ⟨Nat.le_refl _, fun _ h => h, fun _ _ => rfl⟩
  have hs := wd_part (mf := 0) h1 (by simp) h3 hl (h _ hk1) (hi.perm hp).drew a hr (fun a w => Q .normal a w) fun a' σ' ρd' ρs' κ' g1 g2 g3 g4 => ⟨by simpa using h4, rfl, hq _ a' σ' _ κ' g1 g2 (hk1.trans g3) g4⟩
  have h6 := wpAny_of_held _ _ _ _ hs
  have hsz : l.toArray.size = l.length := by simp
  rw [hlen, Nat.add_zero, ← hsz] at h6
  exact wp_mono (wp_region_any mixed (by simpa using h6)) fun e a w h => by rw [h.1]; exact h.2
end
section
variable {β : Base} {n : Nat} {ops : Array Oper} {K : Post} {ρs : List Res} {o : Oper} {r : List (Nat × Oper)} {σ : Env} {ρd : List Res} {κ : Kr}
theorem wd_nil (h : ∀ κ1, Kle κ κ1 → K σ (ρd ++ ρs) κ1) : WD β n ops K [] σ ρd ρs κ := h
theorem wd_q {v : Value} {d : Nat} (hg : o.guard = none) (hd : o.dst = some d) (hlt : Nat.blt d n = true) (h : OpQ true o σ ρs κ v) (hw : WD β n ops K r (upd σ d v) ρd ρs κ) : WD β n ops K ((0, o) :: r) σ ρd ρs κ := ⟨dst_some hd hlt, .inl ⟨hg, v, h, by rw [updO_some hd]; exact hw⟩⟩
theorem wd_qg {v : Value} {c : Bool} {d : Nat} (hg : GuardIs ops σ o c) (hd : o.dst = some d) (hlt : Nat.blt d n = true) (h : OpQ c o σ ρs κ v) (hw : WD β n ops K r (upd σ d (gv c v)) ρd ρs κ) : WD β n ops K ((0, o) :: r) σ ρd ρs κ := ⟨dst_some hd hlt, .inr ⟨c, v, hg, h, by rw [updO_some hd]; exact hw⟩⟩
theorem wd_l {d : Nat} (hg : o.guard = none) (hd : o.dst = some d) (hlt : Nat.blt d n = true) (h : ∀ κ1, Kle κ κ1 → OpL o σ (ρd ++ ρs) κ1 fun v ρ' κ' => ∃ ρd', ρ' = ρd' ++ ρs ∧ WD β n ops K r (upd σ d v) ρd' ρs κ') : WD β n ops K ((1, o) :: r) σ ρd ρs κ := ⟨dst_some hd hlt, .inl ⟨hg, by simp only [updO_some hd]; exact h⟩⟩
theorem wd_l0 (hg : o.guard = none) (hd : o.dst = none) (h : ∀ κ1, Kle κ κ1 → OpL o σ (ρd ++ ρs) κ1 fun _ ρ' κ' => ∃ ρd', ρ' = ρd' ++ ρs ∧ WD β n ops K r σ ρd' ρs κ') : WD β n ops K ((1, o) :: r) σ ρd ρs κ := ⟨by rw [hd]; rfl, .inl ⟨hg, by simp only [hd]; exact h⟩⟩
theorem wd_g {c : Bool} {d : Nat} (hg : GuardIs ops σ o c) (hd : o.dst = some d) (hlt : Nat.blt d n = true) (h : ∀ κ1, Kle κ κ1 → OpG c o σ (ρd ++ ρs) κ1 fun v κ' => WD β n ops K r (upd σ d (gv c v)) ρd ρs κ') : WD β n ops K ((1, o) :: r) σ ρd ρs κ := ⟨dst_some hd hlt, .inr ⟨c, hg, by simp only [updO_some hd]; exact h⟩⟩
theorem wd_late {T : Nat} {cs : List Value} {mk : Nat → Value} {d : Nat} (hlo : LateRun o σ T cs mk) (hd : o.dst = some d) (h : ∀ b κ', Kle κ κ' → WD β n ops K r (upd σ d (mk b)) (Res.b b T cs :: ρd) ρs κ') : WD β n ops K ((2, o) :: r) σ ρd ρs κ := ⟨T, cs, mk, d, hlo, hd, h⟩
theorem wd_tell {T : Nat} {cs : List Value} {mk : Nat → Value} (hlo : LateRun o σ T cs mk) (h : WD β n ops K r σ ρd ρs κ) : WD β n ops K ((3, o) :: r) σ ρd ρs κ := ⟨⟨T, cs, mk, hlo⟩, h⟩
end
section
variable {β : Base} {n : Nat} {y : Code} {K : Exit → Post} {σ : Env} {ρ : List Res} {κ : Kr} {id id' : Nat}
theorem k_seq (h : WC β n y K σ ρ κ) : seqK β n y K .normal σ ρ κ := h
theorem k_seq_ret (h : K .ret σ ρ κ) : seqK β n y K .ret σ ρ κ := h
theorem k_seq_exit (h : K (.exit id) σ ρ κ) : seqK β n y K (.exit id) σ ρ κ := h
theorem k_block_n (h : K .normal σ ρ κ) : blockK id K .normal σ ρ κ := h
theorem k_block_ret (h : K .ret σ ρ κ) : blockK id K .ret σ ρ κ := h
theorem k_block_eq (he : Nat.beq id' id = true) (h : K .normal σ ρ κ) : blockK id K (.exit id') σ ρ κ := by simp only [blockK, he]; exact h
theorem k_block_ne (he : Nat.beq id' id = false) (h : K (.exit id') σ ρ κ) : blockK id K (.exit id') σ ρ κ := by simp only [blockK, he]; exact h
end
end SX
end Go.Proofs.YtiijbkaiipjpkaaGreatDoor
set_option maxRecDepth 100000
namespace Go.Proofs.YtiijbkaiipjpkaaGreatDoor
namespace SX
open Go
def Holds (σ : Env) : List (Nat × Value) → Prop
 | [] => True
 | (d, v) :: l => σ d = v ∧ Holds σ l
theorem upds_self {σ : Env} : ∀ {L : List (Nat × Value)}, Holds σ L → upds σ L = σ
 | [], _ => rfl
 | (d, v) :: l, ⟨h1, h2⟩ => by rw [upds, upds_self h2, upd_self h1]
def Pick (ρ : List Res) (r : Res) (l : List Res) : Prop := ρ.Perm (r :: l)
theorem Pick.h {r : Res} {l : List Res} : Pick (r :: l) r l := List.Perm.refl _
theorem Pick.t {r s : Res} {l l' : List Res} (h : Pick l r l') : Pick (s :: l) r (s :: l') := (List.Perm.cons s h).trans (List.Perm.swap r s l')
def Sub (ρ' ρ : List Res) : Prop := ∃ l, ρ.Perm (ρ' ++ l)
theorem Sub.nil {ρ : List Res} : Sub [] ρ := ⟨ρ, List.Perm.refl _⟩
theorem Sub.refl {ρ : List Res} : Sub ρ ρ := ⟨[], by simp⟩
theorem Sub.cons {r : Res} {ρ ρ' l : List Res} (h : Pick ρ r l) (h' : Sub ρ' l) : Sub (r :: ρ') ρ := by
 obtain ⟨m, hm⟩ := h'
 exact ⟨m, h.trans (List.Perm.cons r hm)⟩
theorem Inv.subm {β : Base} {ρ ρ' : List Res} {κ : Kr} (h : Inv β ρ κ) (hs : Sub ρ' ρ) : Inv β ρ' κ := by
 obtain ⟨l, hl⟩ := hs
 exact (h.perm hl).sub (List.sublist_append_left _ _)
section
variable {β : Base} {n : Nat} {x y : Code} {K : Exit → Post} {σ : Env} {ρ : List Res} {κ : Kr} {X : Type}
theorem wc_sub {ρ' : List Res} (hs : Sub ρ' ρ) (h : WC β n x K σ ρ' κ) : WC β n x K σ ρ κ := fun hi => h (hi.subm hs)
theorem wc_pub {r : Res} {l : List Res} {b : Nat} (hp : Pick ρ r l) (hb : r.blk = some b) (h : ∀ κ', Kle κ κ' → κ'.S b → r.says κ'.w.heap[b]? → WC β n x K σ l κ') : WC β n x K σ ρ κ := fun hi a hr Q hq => by
 have hi2 := hi.perm hp
 obtain ⟨h1, h2⟩ := hi2.pub hb
 have hs := hi2.own r (by simp)
 unfold Res.holds at hs; rw [hb] at hs
 exact h _ h2 (.inr rfl) hs h1 a hr Q fun e a' σ' ρ' κ' g1 g2 g3 g4 => hq e a' σ' ρ' κ' g1 g2 (h2.trans g3) g4
def midK (L : X → List (Nat × Value)) (R : X → List Res) (J : X → Kr → Prop) (K : Exit → Post) : Exit → Post := fun e σ ρ κ => match e with
 | .normal => ∃ z, Holds σ (L z) ∧ Sub (R z) ρ ∧ J z κ
 | e => K e σ ρ κ
def loopK (L : X → List (Nat × Value)) (R : X → List Res) (J : X → Kr → Prop) (μ : X → Nat) (z : X) (K : Exit → Post) : Exit → Post := fun e σ ρ κ => match e with
 | .normal => ∃ z', Holds σ (L z') ∧ Sub (R z') ρ ∧ J z' κ ∧ μ z' < μ z
 | e => K e σ ρ κ
theorem wc_loopL (L : X → List (Nat × Value)) (R : X → List Res) (J : X → Kr → Prop) (μ : X → Nat) (z0 : X) (h1 : Holds σ (L z0)) (h2 : Sub (R z0) ρ) (h3 : J z0 κ)
    (round : ∀ z τ κ', Kle κ κ' → J z κ' → WC β n x (loopK L R J μ z K) (upds τ (L z)) (R z) κ') : WC β n (.loop x) K σ ρ κ :=
  wc_loop (fun z σ' ρ' κ' => Holds σ' (L z) ∧ Sub (R z) ρ' ∧ J z κ') μ z0 ⟨h1, h2, h3⟩ fun z σ' ρ' κ' hk ⟨g1, g2, g3⟩ =>
    wc_sub g2 (by
      have h := round z σ' κ' hk g3
      rw [upds_self g1] at h
      refine wc_mono h fun e σ'' ρ'' κ'' _ g => ?_
      cases e with
      | normal => obtain ⟨z', k1, k2, k3, k4⟩ := g; exact ⟨z', ⟨k1, k2, k3⟩, k4⟩
      | _ => exact g)
theorem k_loop {L : X → List (Nat × Value)} {R : X → List Res} {J : X → Kr → Prop} {μ : X → Nat} {z : X} (z' : X) (h1 : Holds σ (L z')) (h2 : Sub (R z') ρ) (h3 : J z' κ) (h4 : μ z' < μ z) : loopK L R J μ z K .normal σ ρ κ := ⟨z', h1, h2, h3, h4⟩
theorem k_loop_ret {L : X → List (Nat × Value)} {R : X → List Res} {J : X → Kr → Prop} {μ : X → Nat} {z : X} (h : K .ret σ ρ κ) : loopK L R J μ z K .ret σ ρ κ := h
theorem k_loop_exit {L : X → List (Nat × Value)} {R : X → List Res} {J : X → Kr → Prop} {μ : X → Nat} {z : X} {id : Nat} (h : K (.exit id) σ ρ κ) : loopK L R J μ z K (.exit id) σ ρ κ := h
end
section
variable {σ : Env} {ρ : List Res} {κ : Kr} {R : Value → List Res → Kr → Prop}
theorem ret_of {rs : List ResultVar} {v : Value} {ρ' : List Res} {κ' : Kr} (hv : RV rs σ ρ v) (hs : Shift ρ κ ρ' κ') (h : R v ρ' κ') : retK rs R .ret σ ρ κ := fun _ _ => ⟨v, ρ', κ', hv, hs, h⟩
theorem rv_t {t : Nat} {v : Value} (h : σ t = v) : RV [.tmp t] σ ρ v := h
theorem rv_2 {r s : ResultVar} {v1 v2 : Value} (h1 : RV1 r σ ρ v1) (h2 : RV1 s σ ρ v2) : RV [r, s] σ ρ (.tuple #[v1, v2]) := ⟨v1, v2, h1, h2, rfl⟩
theorem rv1_t {t : Nat} {v : Value} (h : σ t = v) : RV1 (.tmp t) σ ρ v := h
theorem Shift.sub {ρ' : List Res} (h : Sub ρ' ρ) : Shift ρ κ ρ' κ := ⟨rfl, fun _ hi => ⟨hi.subm h, .refl _⟩⟩
end
structure Sl (κ : Kr) (a : Option Addr) (n c sz : Nat) (css : List (List Value)) : Prop where
 len : css.length = n
 cap : n ≤ c
 wid : ∀ cs ∈ css, cs.length = sz
 at_ : 0 < n → ∃ b off, a = some ⟨b, off, none⟩ ∧ ∀ j cs, css[j]? = some cs → Sh κ b (off + j * sz) cs
theorem Sl.mono {κ κ' : Kr} {a : Option Addr} {n c sz : Nat} {css : List (List Value)} (h : Sl κ a n c sz css) (k : Kle κ κ') : Sl κ' a n c sz css :=
 ⟨h.len, h.cap, h.wid, fun hn => by obtain ⟨b, off, h1, h2⟩ := h.at_ hn; exact ⟨b, off, h1, fun j cs hj => (h2 j cs hj).mono k⟩⟩
theorem Sl.get {κ : Kr} {a : Option Addr} {n c sz k : Nat} {css : List (List Value)} (h : Sl κ a n c sz css) (hk : k < n) : ∃ b off cs, a = some ⟨b, off, none⟩ ∧ css[k]? = some cs ∧ cs.length = sz ∧ Sh κ b (off + k * sz) cs := by
 obtain ⟨b, off, h1, h2⟩ := h.at_ (by omega)
 have hl : k < css.length := by have := h.len; omega
 exact ⟨b, off, css[k], h1, List.getElem?_eq_getElem hl, h.wid _ (List.getElem_mem hl), h2 k _ (List.getElem?_eq_getElem hl)⟩
theorem flatten_get {sz : Nat} : ∀ {css : List (List Value)}, (∀ cs ∈ css, cs.length = sz) → ∀ {j i : Nat} {cs : List Value}, css[j]? = some cs → i < sz → css.flatten[j * sz + i]? = cs[i]?
 | [], _, j, i, cs, h, _ => by simp at h
 | c :: css, hw, 0, i, cs, h, hi => by
  simp only [List.getElem?_cons_zero, Option.some.injEq] at h; subst h
  have := hw c (by simp)
  rw [Nat.zero_mul, Nat.zero_add, List.flatten_cons, List.getElem?_append_left (by omega)]
 | c :: css, hw, j + 1, i, cs, h, hi => by
  have hc := hw c (by simp)
  have e : (j + 1) * sz + i = c.length + (j * sz + i) := by rw [hc, Nat.add_mul]; omega
  rw [e, List.flatten_cons, List.getElem?_append_right (by omega), Nat.add_sub_cancel_left]
  exact flatten_get (fun cs hcs => hw cs (by simp [hcs])) (by simpa using h) hi
theorem flatten_len {sz : Nat} {css : List (List Value)} (hw : ∀ cs ∈ css, cs.length = sz) : css.flatten.length = css.length * sz := by
 induction css with
 | nil => simp
 | cons c css ih => rw [List.flatten_cons, List.length_append, ih (fun cs h => hw cs (by simp [h])), hw c (by simp), List.length_cons, Nat.add_mul]; omega
structure Rd (ρ : List Res) (κ : Kr) (a : Option Addr) (m sz : Nat) (css : List (List Value)) : Prop where
 len : css.length = m
 wid : ∀ cs ∈ css, cs.length = sz
 at_ : 0 < m → ∃ ad, a = some ad ∧ ∀ w, Stab ρ κ w → ∀ j u, css.flatten[j]? = some u → w.cell? (ad.add j) = some u
theorem rd_sl {ρ : List Res} {κ : Kr} {a : Option Addr} {n c sz : Nat} {css : List (List Value)} (h : Sl κ a n c sz css) : Rd ρ κ a n sz css :=
 ⟨h.len, h.wid, fun hn => by
  obtain ⟨b, off, h1, h2⟩ := h.at_ hn
  refine ⟨_, h1, fun w hs j u hu => ?_⟩
  have hj : j < css.flatten.length := by rcases Nat.lt_or_ge j css.flatten.length with h | h; exact h; rw [List.getElem?_eq_none h] at hu; cases hu
  rw [flatten_len h.wid] at hj
  have hsz : 0 < sz := by rcases Nat.eq_zero_or_pos sz with h | h; (rw [h] at hj; omega); exact h
  have hq : j / sz < css.length := Nat.div_lt_of_lt_mul (by rwa [Nat.mul_comm] at hj)
  have hm : j % sz < sz := Nat.mod_lt _ hsz
  have hd : j / sz * sz + j % sz = j := by have := Nat.div_add_mod j sz; rw [Nat.mul_comm] at this; exact this
  have hg := flatten_get h.wid (List.getElem?_eq_getElem hq) hm
  rw [hd, hu] at hg
  have hsh := h2 _ _ (List.getElem?_eq_getElem hq)
  have := hsh.2 _ _ hg.symm
  rw [add_none]
  unfold World.cell? at *
  rw [hs.keep b hsh.1, ← hd, ← Nat.add_assoc]; exact this⟩
theorem rd_b {ρ : List Res} {κ : Kr} {b T sz : Nat} {cs : List Value} {css : List (List Value)} {m : Nat} (hm : Res.b b T cs ∈ ρ) (hl : css.length = m) (hw : ∀ cs ∈ css, cs.length = sz) (hf : css.flatten = cs) : Rd ρ κ (some ⟨b, 0, none⟩) m sz css :=
 ⟨hl, hw, fun _ => ⟨_, rfl, fun w hs j u hu => by
  have hb : w.heap[b]? = some (.cells cs.toArray T (0, 0)) := hs.own _ hm
  rw [add_none, Nat.zero_add, cell_of_cells hb, ← hf]; exact hu⟩⟩
def Res.row (a : Option Addr) (n c T sz : Nat) (css : List (List Value)) : Res := match a with
 | none => ⟨none, fun _ => n = 0 ∧ c = 0 ∧ css = []⟩
 | some ad => ⟨some ad.block, fun o => ad = ⟨ad.block, 0, none⟩ ∧ css.length = n ∧ (∀ cs ∈ css, cs.length = sz) ∧ n ≤ c ∧ c ≤ maxLen ∧ ∃ cur, o = some (.cells cur T (0, 0)) ∧ cur.size = c * sz ∧ cur.toList.take (n * sz) = css.flatten⟩
theorem row_owns {a : Option Addr} {n c T sz : Nat} {css : List (List Value)} {w : World} (h : (Res.row a n c T sz css).holds w) : w.ownsRow 0 T sz (.slice a n c) n css.flatten ∧ css.length = n ∧ (∀ cs ∈ css, cs.length = sz) := by
 cases a with
 | none => obtain ⟨rfl, rfl, rfl⟩ := h; exact ⟨⟨by simp, .inl ⟨rfl, rfl⟩⟩, rfl, by simp⟩
 | some ad =>
  obtain ⟨h1, h2, h3, h4, h5, cur, h6, h7, h8⟩ := h
  have hl : css.flatten.length = n * sz := by rw [flatten_len h3, h2]
  exact ⟨⟨hl, .inr ⟨ad.block, c, cur, by rw [h1], Nat.zero_le _, h6, h4, h5, h7, h8⟩⟩, h2, h3⟩
theorem owns_row {v : Value} {n T sz : Nat} {css : List (List Value)} {w : World} (hl : css.length = n) (hw : ∀ cs ∈ css, cs.length = sz) (h : w.ownsRow 0 T sz v n css.flatten) : ∃ a c, v = .slice a n c ∧ (Res.row a n c T sz css).holds w ∧ (Res.row a n c T sz css).blk = v.ownBlock := by
 rcases h.2 with ⟨rfl, rfl⟩ | ⟨g, cap, cur, rfl, _, h1, h2, h3, h4, h5⟩
 ·exact ⟨none, 0, rfl, ⟨rfl, rfl, List.eq_nil_of_length_eq_zero hl⟩, rfl⟩
 ·exact ⟨some ⟨g, 0, none⟩, cap, rfl, ⟨rfl, hl, hw, h2, h3, cur, h1, h4, h5⟩, rfl⟩
theorem Inv.grow {β : Base} {r r' : Res} {l : List Res} {κ : Kr} {w' : World} (h : Inv β (r :: l) κ) (hg : κ.w.grownBy w' r.blk) (hb : r'.blk = none ∨ r'.blk = r.blk ∨ r'.blk = some κ.w.heap.size) (hs : r'.holds w') (hlt : ∀ b, r'.blk = some b → b < w'.heap.size) (hdr : κ.w.drawn ≤ w'.drawn) :
    Inv β (r' :: l) ⟨w', κ.S⟩ ∧ Kle κ ⟨w', κ.S⟩ := by
  obtain ⟨hle, hfin, hown, hblk, hnd⟩ := h
  have hother : ∀ i, i < κ.w.heap.size → r.blk ≠ some i → w'.heap[i]? = κ.w.heap[i]? := fun i hi hne => hg.block i hi (fun e => hne e.symm)
  have hr := hblk r (by simp)
  have hk : Kle κ ⟨w', κ.S⟩ := ⟨hg.size, fun _ h => h, fun i hi => hother i (hfin i hi) fun e => (hr i e).2.1 hi⟩
  have hr' : ∀ b, r'.blk = some b → (r.blk = some b ∨ κ.w.heap.size = b) := fun b e => by
    rcases hb with h | h | h
    · rw [h] at e; cases e
    · rw [h] at e; exact .inl e
    · rw [h] at e; injection e with e; exact .inr e
  refine ⟨⟨⟨hle.kle.trans hk, fun i hi hm => (hother i (Nat.lt_of_lt_of_le hi hle.kle.size) fun e => ?_).trans (hle.same i hi hm), hle.shNew, hg.os.trans hle.os, hg.tape.trans hle.tape, hg.output.trans hle.output, Nat.le_trans hle.drawn hdr⟩, fun i hi => Nat.lt_of_lt_of_le (hfin i hi) hg.size, ?_, ?_, ?_⟩, hk⟩
  · exact (hr i e).2.2.elim (fun h => absurd hi (by omega)) hm
  · intro s hs'
    rcases List.mem_cons.1 hs' with rfl | hs'
    · exact hs
    · exact Res.holds_of (hown s (List.mem_cons_of_mem _ hs')) fun i hi => hother i (hblk s (List.mem_cons_of_mem _ hs') i hi).1 fun e => (List.pairwise_cons.1 hnd).1 s hs' i e hi
  · intro s hs' i hi
    rcases List.mem_cons.1 hs' with rfl | hs'
    · refine ⟨hlt i hi, fun hS => ?_, ?_⟩
      · rcases hr' i hi with h | h
        · exact (hr i h).2.1 hS
        · exact absurd (hfin i hS) (by omega)
      · rcases hr' i hi with h | h
        · exact (hr i h).2.2
        · exact .inl (by have := hle.kle.size; omega)
    · obtain ⟨h1, h2, h3⟩ := hblk s (List.mem_cons_of_mem _ hs') i hi
      exact ⟨Nat.lt_of_lt_of_le h1 hg.size, h2, h3⟩
  · refine List.Pairwise.cons (fun s hs' i hi hi' => ?_) (List.pairwise_cons.1 hnd).2
    rcases hr' i hi with h | h
    · exact (List.pairwise_cons.1 hnd).1 s hs' i h hi'
    · have := (hblk s (List.mem_cons_of_mem _ hs') i hi').1; omega
theorem Inv.nilrow {β : Base} {ρ : List Res} {κ : Kr} (h : Inv β ρ κ) (T sz : Nat) : Inv β (Res.row none 0 0 T sz [] :: ρ) κ :=
 ⟨h.le, h.fin, fun r hr => by rcases List.mem_cons.1 hr with rfl | hr; exact ⟨rfl, rfl, rfl⟩; exact h.own r hr, fun r hr => by rcases List.mem_cons.1 hr with rfl | hr; (intro b hb; cases hb); exact h.blk r hr, List.Pairwise.cons (fun _ _ b hb => by cases hb) h.nd⟩
section
variable {β : Base} {o : Oper} {σ : Env} {ρ : List Res} {κ : Kr} {K : Value → List Res → Kr → Prop}
theorem wc_nilrow {n : Nat} {x : Code} {K : Exit → Post} (T sz : Nat) (h : WC β n x K σ (Res.row none 0 0 T sz [] :: ρ) κ) : WC β n x K σ ρ κ := fun hi => h (hi.nilrow T sz)
theorem heap_some_lt {w : World} {b : Nat} {o : Obj} (h : w.heap[b]? = some o) : b < w.heap.size := by
 rcases Nat.lt_or_ge b w.heap.size with h' | h'
 ·exact h'
 ·rw [Array.getElem?_eq_none h'] at h; cases h
theorem row_lt {a : Option Addr} {n c T sz : Nat} {css : List (List Value)} {w : World} (h : (Res.row a n c T sz css).holds w) (b : Nat) (hb : (Res.row a n c T sz css).blk = some b) : b < w.heap.size := by
 cases a with
 | none => cases hb
 | some ad =>
  obtain ⟨h1, h2, h3, h4, h5, cur, h6, h7, h8⟩ := h
  injection hb with hb; subst hb
  exact heap_some_lt h6
theorem run_append_none {t ty T : Nat} {a : Option Addr} {n c c2 : Nat} {z : Value} {sz by' : Nat} (hu : und t = some (.slice T)) (hi : inf T = some (z, sz, by')) (hc : n ≤ c) (w : World) : (Builtin.append_ #[t, t] ty #[.slice a n c, .slice none 0 c2]).run Tryz.prog w = .ok (.slice a n c) w := by
 have hnc : n + 0 ≤ c := by omega
 cases a <;> simp [Builtin.append_, run_underlying (und_ok hu), run_sizeOf hi, Builtin.lenOf, Builtin.firstCells, hc, storeCells]
theorem ol_append {s x : Operand} {t T : Nat} {a a2 : Option Addr} {n c m c2 sz by' : Nat} {z : Value} {css css2 : List (List Value)} {l : List Res}
    (ho : o.op = .call { callee := .builtin .append, args := #[s, x], argTypes := #[t, t] }) (hu : und t = some (.slice T)) (hi : inf T = some (z, sz, by')) (hz : Nat.beq z.cells.size sz = true) (h0 : Nat.blt 0 sz = true)
    (hs : ev σ s = .slice a n c) (hx : ev σ x = .slice a2 m c2) (hp : Pick ρ (Res.row a n c T sz css) l) (hr : Rd ρ κ a2 m sz css2) (h1 : ∀ cs ∈ css2, ∀ u ∈ cs, u.oneCell' = true)
    (hb : (n + m) * by' ≤ 140737488355328 ∧ n + m ≤ 140737488355328) (h : ∀ a' c' κ', Kle κ κ' → K (.slice a' (n + m) c') (Res.row a' (n + m) c' T sz (css ++ css2) :: l) κ') : OpL o σ ρ κ K := fun β hinv Nx hk => by
  have hi2 := hinv.perm hp
  have hrow := hi2.own _ (List.mem_cons_self)
  obtain ⟨hown, hl1, hw1⟩ := row_owns hrow
  obtain ⟨i, hinf, hz0, hsz, hby⟩ := inf_get hi
  have hsz0 : 0 < sz := by have h := h0; simp [Nat.blt] at h; omega
  have hcl : (css ++ css2).length = n + m := by rw [List.length_append, hl1, hr.len]
  have hcw : ∀ cs ∈ css ++ css2, cs.length = sz := fun cs hcs => (List.mem_append.1 hcs).elim (hw1 cs) (hr.wid cs)
  have key : ∃ v' w', (Builtin.append_ #[t, t] o.type #[.slice a n c, .slice a2 m c2]).run Tryz.prog κ.w = .ok v' w' ∧ w'.ownsRow 0 T sz v' (n + m) (css ++ css2).flatten ∧ κ.w.grownBy w' (Value.slice a n c).ownBlock ∧ (v'.ownBlock = (Value.slice a n c).ownBlock ∨ v'.ownBlock = some κ.w.heap.size) := by
    rw [List.flatten_append]
    cases a2 with
    | none =>
      have hm0 : m = 0 := by
        rcases Nat.eq_zero_or_pos m with h | h
        · exact h
        · obtain ⟨ad, e, _⟩ := hr.at_ h; cases e
      subst hm0
      have hc2 : css2 = [] := List.eq_nil_of_length_eq_zero hr.len
      subst hc2
      have hnc : n ≤ c := by
        rcases hown.2 with ⟨e, rfl⟩ | ⟨g, cap, cur, e, _, _, e2, _⟩
        · omega
        · injection e with _ _ e; omega
      exact ⟨_, κ.w, run_append_none hu hi hnc κ.w, by simpa using hown, World.grownBy.refl _ _, .inl rfl⟩
    | some ad =>
      have hnews : ∀ j u, css2.flatten[j]? = some u → κ.w.cell? (ad.add j) = some u := fun j u hu' => by
        rcases Nat.eq_zero_or_pos m with h | h
        · have hc2 : css2 = [] := List.eq_nil_of_length_eq_zero (by rw [hr.len, h])
          subst hc2; simp at hu'
        · obtain ⟨ad', e, hcell⟩ := hr.at_ h
          injection e with e; subst e
          exact hcell _ hinv.stab j u hu'
      obtain ⟨v', w', g1, g2, g3, _, g5⟩ := run_append_own_at (P := Tryz.prog) κ.w 0 t o.type T i z sz by' (und_ok hu) hinf hz0 hsz hby (Nat.eq_of_beq_eq_true hz) hsz0 (.slice a n c) n css.flatten hown ad m c2 css2.flatten (by rw [flatten_len hr.wid, hr.len]) hnews (fun u hu' => by obtain ⟨cs, h3, h4⟩ := List.mem_flatten.1 hu'; exact h1 cs h3 u h4) (by have := hb.2; unfold maxLen; omega) hb.1 (Nat.zero_le _)
      exact ⟨v', w', g1, g2, g3, g5⟩
  obtain ⟨v', w', g1, g2, g3, g4⟩ := key
  obtain ⟨a', c', rfl, k1, k2⟩ := owns_row hcl hcw g2
  have hblk : (Res.row a n c T sz css).blk = (Value.slice a n c).ownBlock := by cases a <;> rfl
  obtain ⟨hi3, hk3⟩ := hi2.grow (r' := Res.row a' (n + m) c' T sz (css ++ css2)) (by rw [hblk]; exact g3) (by rw [hblk, k2]; exact .inr g4) k1 (row_lt k1) (sem_drawn _ _ _ _ _ g1)
  unfold execOp
  simp only [ho, resolve, invoke, builtin, Sem.run_bind, Sem.run_pure, Result.andThen_ok, List.map_toArray, List.map_cons, List.map_nil, hs, hx, g1, OutV]
  exact hk _ _ _ hi3 hk3 (h _ _ _ hk3)
end
end SX
end Go.Proofs.YtiijbkaiipjpkaaGreatDoor
set_option maxRecDepth 100000
namespace Go.Proofs.YtiijbkaiipjpkaaGreatDoor
namespace SX
open Go
def SpliceAt (cs : List Value) (k : Nat) (vs cs' : List Value) : Prop := cs' = cs.take k ++ vs ++ cs.drop (k + vs.length) ∧ k + vs.length ≤ cs.length
theorem SpliceAt.nil {cs : List Value} : SpliceAt cs 0 [] cs := ⟨by simp, by simp⟩
theorem SpliceAt.c {x v : Value} {l l' vs : List Value} (h : SpliceAt l 0 vs l') : SpliceAt (x :: l) 0 (v :: vs) (v :: l') := by
 obtain ⟨h1, h2⟩ := h
 refine ⟨?_, by simp at h2 ⊢; omega⟩
 rw [h1]; simp [Nat.add_comm]
theorem SpliceAt.t {x : Value} {l l' vs : List Value} {k : Nat} (h : SpliceAt l k vs l') : SpliceAt (x :: l) (k + 1) vs (x :: l') := by
 obtain ⟨h1, h2⟩ := h
 refine ⟨?_, by simp at h2 ⊢; omega⟩
 rw [h1, show k + 1 + vs.length = (k + vs.length) + 1 by omega]; simp
def FillR (σ : Env) (fl : List (Nat × Nat)) : List Value → List (Nat × Operand) → List Value → Prop
 | zs, [], cs => zs = cs
 | zs, (i, x) :: r, cs => ∃ k ty vs zs' z by', fl[i]? = some (k, ty) ∧ inf ty = some (z, vs.length, by') ∧ cellsL (ev σ x) = vs ∧ SpliceAt zs k vs zs' ∧ FillR σ fl zs' r cs
theorem FillR.nil {σ : Env} {fl : List (Nat × Nat)} {zs : List Value} : FillR σ fl zs [] zs := rfl
theorem FillR.one {σ : Env} {fl : List (Nat × Nat)} {zs zs' cs : List Value} {i k ty by' : Nat} {z v : Value} {x : Operand} {r : List (Nat × Operand)} (h1 : fl[i]? = some (k, ty)) (h2 : inf ty = some (z, 1, by')) (h3 : ev σ x = v) (h3' : cellsL v = [v]) (h4 : SetAt zs k v zs') (h5 : FillR σ fl zs' r cs) : FillR σ fl zs ((i, x) :: r) cs :=
 ⟨k, ty, [v], zs', z, by', h1, h2, by rw [h3]; exact h3', ⟨by rw [h4.1, set_eq_take h4.2]; rfl, by have := h4.2; simp; omega⟩, h5⟩
theorem FillR.agg {σ : Env} {fl : List (Nat × Nat)} {zs zs' cs vs : List Value} {i k ty sz by' : Nat} {z : Value} {x : Operand} {r : List (Nat × Operand)} (h1 : fl[i]? = some (k, ty)) (h2 : inf ty = some (z, sz, by')) (h3 : ev σ x = .agg vs.toArray) (h3' : vs.length = sz) (h4 : SpliceAt zs k vs zs') (h5 : FillR σ fl zs' r cs) : FillR σ fl zs ((i, x) :: r) cs :=
 ⟨k, ty, vs, zs', z, by', h1, by rw [h3']; exact h2, by rw [h3]; rfl, h4, h5⟩
theorem fill_struct {σ : Env} {fl : List (Nat × Nat)} {place : Nat → Option (Nat × Nat)} (hpl : ∀ i k ty z sz by', fl[i]? = some (k, ty) → inf ty = some (z, sz, by') → place i = some (k, sz)) :
    ∀ (parts : List (Nat × Operand)) (zs cs : List Value), FillR σ fl zs parts cs → Instr.fill place zs.toArray (parts.map fun p => (p.1, ev σ p.2)) = some cs.toArray
  | [], zs, cs, h => by cases h; simp [Instr.fill]
  | (i, x) :: r, zs, cs, ⟨k, ty, vs, zs', z, by', h1, h2, h3, h4, h5⟩ => by
    simp only [List.map_cons]
    rw [fill_cons (hpl i k ty z vs.length by' h1 h2) (by rw [h3]) h4.2, h3, ← h4.1]
    exact fill_struct hpl r zs' cs h5
def placeSem (f : Field) : Sem (Nat × Nat) := do pure (f.offset, ← sizeOf f.type)
theorem run_places (w : World) : ∀ (fs : List Field), (∀ f ∈ fs, ∃ z sz by', inf f.type = some (z, sz, by')) → ∃ ps : List (Nat × Nat), (fs.mapM placeSem).run Tryz.prog w = .ok ps w ∧ ∀ (i : Nat) (f : Field) z sz by', fs[i]? = some f → inf f.type = some (z, sz, by') → ps[i]? = some (f.offset, sz)
 | [], _ => ⟨[], by simp, by simp⟩
 | f :: fs, h => by
  obtain ⟨ps, h1, h2⟩ := run_places w fs fun g hg => h g (by simp [hg])
  obtain ⟨z, sz, by', hf⟩ := h f (by simp)
  refine ⟨(f.offset, sz) :: ps, ?_, ?_⟩
  ·have h0 : (placeSem f).run Tryz.prog w = .ok (f.offset, sz) w := by unfold placeSem; simp [run_sizeOf hf]
   simp only [List.mapM_cons, Sem.run_bind, h0, Result.andThen_ok, h1, Sem.run_pure]
  ·intro i g z' sz' by'' hi hz
   cases i with
   | zero => simp only [List.getElem?_cons_zero, Option.some.injEq] at hi; subst hi; rw [hf] at hz; simp only [Option.some.injEq, Prod.mk.injEq] at hz; simp [hz.2.1]
   | succ i => simp only [List.getElem?_cons_succ] at hi ⊢; exact h2 i g z' sz' by'' hi hz
section
variable {o : Oper} {σ : Env} {ρ : List Res} {κ : Kr} {c : Bool} {x y : Operand}
theorem oq_build {t sz by' : Nat} {parts : List (Nat × Operand)} {fl : List (Nat × Nat)} {zs cs : List Value} (ho : o.op = .build t parts.toArray) (hz : inf t = some (.agg zs.toArray, sz, by')) (hf : fldL t = some fl) (hall : (fl.all fun p => (inf p.2).isSome) = true) (h : FillR σ fl zs parts cs) : OpQ true o σ ρ κ (.agg cs.toArray) := fun _ w _ => by
 obtain ⟨fs, hu, hfl⟩ := fldL_ok hf
 have hin : ∀ f ∈ fs.toList, ∃ z sz by', inf f.type = some (z, sz, by') := fun f hf => by
  have := List.all_eq_true.1 hall (f.offset, f.type) (by rw [← hfl]; exact List.mem_map.2 ⟨f, hf, rfl⟩)
  obtain ⟨⟨z, sz, by'⟩, h⟩ := Option.isSome_iff_exists.1 this
  exact ⟨z, sz, by', h⟩
 obtain ⟨ps, hp1, hp2⟩ := run_places w fs.toList hin
 have hm : (fs.mapM placeSem).run Tryz.prog w = .ok ps.toArray w := by
  have : fs = fs.toList.toArray := by simp
  rw [this, List.mapM_toArray, Sem.run_map, hp1]; rfl
 have hfill := fill_struct (σ := σ) (fl := fl) (place := (ps.toArray[·]?)) (fun i k ty z sz by' h1 h2 => by
  rw [← hfl, List.getElem?_map] at h1
  cases hfi : fs.toList[i]? with
  | none => rw [hfi] at h1; cases h1
  | some f =>
   rw [hfi] at h1; simp only [Option.map_some, Option.some.injEq, Prod.mk.injEq] at h1
   obtain ⟨rfl, rfl⟩ := h1
   simpa using hp2 i f z sz by' hfi h2) parts zs cs h
 have hb : (Instr.build t (parts.map fun p => (p.1, ev σ p.2)).toArray).run Tryz.prog w = .ok (.agg cs.toArray) w := by
  unfold Instr.build
  simp only [Sem.run_bind, run_zeroValue hz, Result.andThen_ok, run_underlying (und_ok hu)]
  have hm' : Sem.run Tryz.prog (fs.mapM fun f => do pure (f.offset, ← sizeOf f.type)) w = .ok ps.toArray w := hm
  rw [hm']
  simp only [Result.andThen_ok, Value.cells, hfill, Sem.run_pure]
 simp only [execOp, ho, Sem.run_bind, List.map_toArray]
 have : (parts.map fun (p : Nat × Operand) => match p with | (i, x) => (i, ev σ x)) = parts.map fun p => (p.1, ev σ p.2) := rfl
 rw [this, hb]
 simp
theorem bs_map (parts : List (Nat × Operand)) (vs : List Value) (h : parts.map (fun p => (p.1, ev σ p.2)) = vs.zipIdx.map fun p => (p.2, p.1)) : (parts.toArray.map fun (p : Nat × Operand) => match p with | (i, x) => (i, ev σ x)) = (vs.zipIdx.map fun p => (p.2, p.1)).toArray := by
 rw [List.map_toArray, ← h]
theorem late_bs {t E len sz by' : Nat} {z : Value} {parts : List (Nat × Operand)} (vs : List Value) (hg : o.guard = none) (ho : o.op = .buildSlice t len parts.toArray) (hu : und t = some (.slice E)) (hi : inf E = some (z, sz, by')) (hz : Nat.beq z.cells.size sz = true)
    (hp : parts.map (fun p => (p.1, ev σ p.2)) = vs.zipIdx.map fun p => (p.2, p.1)) (hl : vs.length = len) (hw : ∀ v ∈ vs, (cellsL v).length = sz) (hb : len * sz ≤ 16777216) : LateRun o σ E (vs.flatMap cellsL) (fun b => .slice (some ⟨b, 0, none⟩) len len) :=
  ⟨hg, fun w => by
    subst hl
    have h := run_buildSlice hu hi (Nat.eq_of_beq_eq_true hz) vs hw hb w
    simp only [execOp, ho, bs_map parts vs hp, Sem.run_bind, h, Result.andThen_ok, Sem.run_pure]⟩
theorem late_alloc {T : Nat} {z : Value} {sz by' : Nat} {cs : List Value} (hg : o.guard = none) (ho : o.op = .alloc T) (hz : inf T = some (z, sz, by')) (hc : cellsL z = cs) : LateRun o σ T cs (fun b => .pointer (some ⟨b, 0, none⟩)) := by
 subst hc
 exact ⟨hg, fun w => late_run (T := T) (cs := cellsL z) (mk := fun b => .pointer (some ⟨b, 0, none⟩)) (by unfold lateOf; rw [ho]; simp only [hz]) σ w⟩
theorem made_eq {z : Array Value} {n : Nat} (h : 0 < z.size) : madeCells z (n * z.size) = ((List.replicate n z.toList).flatten).toArray := by
 have hw : ∀ cs ∈ List.replicate n z.toList, cs.length = z.size := fun cs hcs => by rw [(List.mem_replicate.1 hcs).2]; simp
 apply Array.ext'
 apply List.ext_getElem?
 intro i
 unfold madeCells
 simp only [Array.toList_map, Array.toList_range, List.getElem?_map]
 by_cases hi : i < n * z.size
 ·have hq : i / z.size < n := Nat.div_lt_of_lt_mul (by rwa [Nat.mul_comm] at hi)
  have hm : i % z.size < z.size := Nat.mod_lt _ h
  have hd : i / z.size * z.size + i % z.size = i := by have := Nat.div_add_mod i z.size; rw [Nat.mul_comm] at this; exact this
  have hg := flatten_get hw (j := i / z.size) (i := i % z.size) (cs := z.toList) (by simp [hq]) hm
  rw [hd] at hg
  rw [hg, List.getElem?_range hi]
  simp [hm]
 ·rw [List.getElem?_eq_none (by simpa using hi), List.getElem?_eq_none (by rw [flatten_len hw]; simpa using hi)]; rfl
theorem ol_late {T : Nat} {cs : List Value} {mk : Nat → Value} {K : Value → List Res → Kr → Prop} (h : LateRun o σ T cs mk) (hk : ∀ b κ', Kle κ κ' → K (mk b) (Res.b b T cs :: ρ) κ') : OpL o σ ρ κ K := fun β hi Nx hn => by
 rw [h.2]
 exact hn _ _ ⟨κ.w.alloc (.cells cs.toArray T), κ.S⟩ (hi.alloc _ (Res.b κ.w.heap.size T cs) rfl rfl) (kle_alloc hi.fin _) (hk _ _ (kle_alloc hi.fin _))
end
end SX
end Go.Proofs.YtiijbkaiipjpkaaGreatDoor
set_option maxRecDepth 100000
namespace Go.Proofs.YtiijbkaiipjpkaaGreatDoor
namespace SX
open Go
section
variable {o : Oper} {σ : Env} {ρ : List Res} {κ : Kr} {c : Bool} {x y y2 : Operand}
theorem map_add0 (a : Option Addr) : a.map (·.add 0) = a := by cases a <;> simp [Addr.add]
theorem run_bound {i : Int} {k m : Nat} {code : BoundsCode} (h : i = (k : Int)) (hk : k ≤ m) (kd : IntKind) (w : World) : (Instr.sliceBound (.int kd i) m code).run Tryz.prog w = .ok k w := by
 subst h
 simp [Instr.sliceBound, asIntOf, hk]
theorem oq_sliceHi {t E sz by' n cp k : Nat} {z : Value} {a : Option Addr} {kd : IntKind} {i : Int} (ho : o.op = .slice t x none (some y) none) (hu : und t = some (.slice E)) (hi : inf E = some (z, sz, by')) (hx : Ev σ c x (.slice a n cp)) (hy : Ev σ c y (.int kd i)) (hik : c = true → i = (k : Int)) (hk : c = true → k ≤ cp) : OpQ c o σ ρ κ (.slice a k cp) := fun hc w _ => by
 simp only [execOp, ho, Option.map_none, Option.map_some, hx hc, hy hc, Instr.sliceAt, Instr.slice, Instr.sliceBounds, Sem.run_bind, run_underlying (und_ok hu), Result.andThen_ok, Sem.run_pure, run_bound (hik hc) (hk hc), run_sizeOf hi]
 simp [map_add0]
theorem oq_sliceLo {t E sz by' n cp k : Nat} {z : Value} {a : Option Addr} {kd : IntKind} {i : Int} (ho : o.op = .slice t x (some y) none none) (hu : und t = some (.slice E)) (hi : inf E = some (z, sz, by')) (hx : Ev σ c x (.slice a n cp)) (hy : Ev σ c y (.int kd i)) (hik : c = true → i = (k : Int)) (hk : c = true → k ≤ n) : OpQ c o σ ρ κ (.slice (if cp = k then a else a.map (·.add (k * sz))) (n - k) (cp - k)) := fun hc w _ => by
 simp only [execOp, ho, Option.map_none, Option.map_some, hx hc, hy hc, Instr.sliceAt, Instr.slice, Instr.sliceBounds, Sem.run_bind, run_underlying (und_ok hu), Result.andThen_ok, Sem.run_pure, run_bound (hik hc) (hk hc), run_sizeOf hi]
theorem oq_sliceS {t l h : Nat} {s : ByteArray} {kd kd2 : IntKind} {i j : Int} (ho : o.op = .slice t x (some y) (some y2) none) (hu : und t = some .string) (hx : Ev σ c x (.string s)) (hy : Ev σ c y (.int kd i)) (hy2 : Ev σ c y2 (.int kd2 j)) (hil : c = true → i = (l : Int)) (hjh : c = true → j = (h : Int)) (hlh : c = true → l ≤ h) (hk : c = true → h ≤ s.size) : OpQ c o σ ρ κ (.string (s.extract l h)) := fun hc w _ => by
 simp only [execOp, ho, Option.map_none, Option.map_some, hx hc, hy hc, hy2 hc, Instr.sliceAt, Instr.slice, Instr.sliceBounds, Sem.run_bind, run_underlying (und_ok hu), Result.andThen_ok, Sem.run_pure]
 simp [run_bound (code := .sliceAlen) (hjh hc) (hk hc), run_bound (code := .sliceB) (hil hc) (hlh hc)]
theorem oq_sliceSHi {t h : Nat} {s : ByteArray} {kd2 : IntKind} {j : Int} (ho : o.op = .slice t x none (some y2) none) (hu : und t = some .string) (hx : Ev σ c x (.string s)) (hy2 : Ev σ c y2 (.int kd2 j)) (hjh : c = true → j = (h : Int)) (hk : c = true → h ≤ s.size) : OpQ c o σ ρ κ (.string (s.extract 0 h)) := fun hc w _ => by
 simp only [execOp, ho, Option.map_none, Option.map_some, hx hc, hy2 hc, Instr.sliceAt, Instr.slice, Instr.sliceBounds, Sem.run_bind, run_underlying (und_ok hu), Result.andThen_ok, Sem.run_pure]
 simp [run_bound (code := .sliceAlen) (hjh hc) (hk hc)]
theorem oq_sliceSLo {t l : Nat} {s : ByteArray} {kd : IntKind} {i : Int} (ho : o.op = .slice t x (some y) none none) (hu : und t = some .string) (hx : Ev σ c x (.string s)) (hy : Ev σ c y (.int kd i)) (hil : c = true → i = (l : Int)) (hk : c = true → l ≤ s.size) : OpQ c o σ ρ κ (.string (s.extract l s.size)) := fun hc w _ => by
 simp only [execOp, ho, Option.map_none, Option.map_some, hx hc, hy hc, Instr.sliceAt, Instr.slice, Instr.sliceBounds, Sem.run_bind, run_underlying (und_ok hu), Result.andThen_ok, Sem.run_pure]
 simp [run_bound (code := .sliceB) (hil hc) (hk hc)]
theorem flat_one {α : Type} (f : α → Value) : ∀ (bs : List α), (bs.map fun b => [f b]).flatten = bs.map f
 | [] => rfl
 | b :: bs => by rw [List.map_cons, List.flatten_cons, flat_one f bs]; rfl
theorem oq_bytes {s d e n cp : Nat} {a : Option Addr} {xs : List Int} (ho : o.op = .convert s d x) (hs : und s = some (.slice e)) (he : und e = some (.int .u8)) (hd : und d = some .string) (hx : Ev σ c x (.slice a n cp)) (hr : c = true → Rd ρ κ a n 1 (xs.map fun b => [.int .u8 b])) : OpQ c o σ ρ κ (.string (strOfNums xs)) := fun hc w hst => by
 have hrd := hr hc
 have hlen : xs.length = n := by have := hrd.len; simpa using this
 have hrun : (convert s d (.slice a n cp)).run Tryz.prog w = .ok (.string (strOfNums xs)) w := by
  rw [run_convert_bytes_string w s d e a n cp (und_ok hs) (und_ok he) (und_ok hd)]
  cases a with
  | none =>
   have hn : n = 0 := by
    rcases Nat.eq_zero_or_pos n with h | h
    ·exact h
    ·obtain ⟨ad, e, _⟩ := hrd.at_ h; cases e
   have hb : xs = [] := List.eq_nil_of_length_eq_zero (by omega)
   subst hb
   simp [Conv.bytesToString]; rfl
  | some ad =>
   have hcells : ∀ j u, (xs.map (Value.int .u8))[j]? = some u → w.cell? (ad.add j) = some u := fun j u hu => by
    have hpos : 0 < n := by
     rcases Nat.eq_zero_or_pos n with h | h
     ·have hb : xs = [] := List.eq_nil_of_length_eq_zero (by omega)
      subst hb; simp at hu
     ·exact h
    obtain ⟨ad', e, h2⟩ := hrd.at_ hpos
    injection e with e; subst e
    refine h2 w hst j u ?_
    rw [flat_one]; exact hu
   have hl := run_loadCells_list (P := Tryz.prog) w ad (xs.map (Value.int .u8)) hcells
   simp only [List.length_map, hlen] at hl
   rw [run_bytesToString w _ n cp xs hl, foldl_push_bytes]
   simp [strOfNums, ByteArray.empty, ByteArray.emptyWithCapacity]
   rfl
 simp [execOp, ho, hx hc, hrun]
end
end SX
end Go.Proofs.YtiijbkaiipjpkaaGreatDoor
set_option maxRecDepth 100000
namespace Go.Proofs.YtiijbkaiipjpkaaGreatDoor
namespace SX
open Go
section
variable {β : Base} {n : Nat} {x y : Code} {K : Exit → Post} {σ : Env} {ρ : List Res} {κ : Kr} {c : Operand}
theorem wc_dec {P : Prop} [Decidable P] (hc : ev σ c = .bool (decide P)) (ht : P → WC β n x K σ ρ κ) (hf : ¬ P → WC β n y K σ ρ κ) : WC β n (.cond c x y) K σ ρ κ :=
 wc_cond hc (fun h => ht (of_decide_eq_true h)) (fun h => hf (of_decide_eq_false h))
theorem Sl.take {κ : Kr} {a : Option Addr} {n c sz m : Nat} {css : List (List Value)} (h : Sl κ a n c sz css) (hm : m ≤ n) : Sl κ a m c sz (css.take m) :=
 ⟨by rw [List.length_take, h.len]; omega, Nat.le_trans hm h.cap, fun cs hcs => h.wid cs (List.mem_of_mem_take hcs), fun h0 => by
  obtain ⟨b, off, h1, h2⟩ := h.at_ (by omega)
  exact ⟨b, off, h1, fun j cs hj => h2 j cs (by rw [List.getElem?_take] at hj; split at hj; exact hj; cases hj)⟩⟩
theorem Sl.nil {κ : Kr} {sz : Nat} : Sl κ none 0 0 sz [] := ⟨rfl, Nat.le_refl _, by simp, fun h => absurd h (by omega)⟩
def ints (xs : List Int) : List (List Value) := xs.map fun x => [.int .i64 x]
def strs (xs : List ByteArray) : List (List Value) := xs.map fun x => [.string x]
theorem ints_get {xs : List Int} {k : Nat} {cs : List Value} (h : (ints xs)[k]? = some cs) : ∃ x, xs[k]? = some x ∧ cs = [.int .i64 x] := by
 simp only [ints, List.getElem?_map] at h
 cases hx : xs[k]? with
 | none => rw [hx] at h; cases h
 | some x => rw [hx] at h; simp at h; exact ⟨x, rfl, h.symm⟩
theorem Sl.int {κ : Kr} {a : Option Addr} {n c k : Nat} {xs : List Int} (h : Sl κ a n c 1 (ints xs)) (hk : k < n) : ∃ b off x, a = some ⟨b, off, none⟩ ∧ xs[k]? = some x ∧ Sh κ b (off + k * 1) [.int .i64 x] := by
 obtain ⟨b, off, cs, h1, h2, _, h4⟩ := h.get hk
 obtain ⟨x, h5, rfl⟩ := ints_get h2
 exact ⟨b, off, x, h1, h5, h4⟩
theorem Holds.nil : Holds σ [] := trivial
theorem Holds.cons {d : Nat} {v : Value} {l : List (Nat × Value)} (h : σ d = v) (h' : Holds σ l) : Holds σ ((d, v) :: l) := ⟨h, h'⟩
theorem Pick.perm {ρ l : List Res} {r : Res} (h : Pick ρ r l) : ρ.Perm ([r] ++ l) := h
theorem Inv.view {l : List Res} {r r' : Res} (h : Inv β ρ κ) (hp : Pick ρ r l) (hb : r'.blk = r.blk) (hs : ∀ o, r.says o → r'.says o) : Inv β (r' :: l) κ := by
 have h2 := h.perm hp
 refine ⟨h2.le, h2.fin, fun s hs' => ?_, fun s hs' b hb' => ?_, List.Pairwise.cons (fun s hs' b hb' => ?_) (List.pairwise_cons.1 h2.nd).2⟩
 ·rcases List.mem_cons.1 hs' with rfl | hs'
  ·have := h2.own r (by simp); unfold Res.holds at *; rw [hb]; cases e : r.blk <;> rw [e] at this <;> exact hs _ this
  ·exact h2.own s (by simp [hs'])
 ·rcases List.mem_cons.1 hs' with rfl | hs'
  ·exact h2.blk r (by simp) b (hb ▸ hb')
  ·exact h2.blk s (by simp [hs']) b hb'
 ·exact (List.pairwise_cons.1 h2.nd).1 s hs' b (hb ▸ hb')
theorem row_of_b {b T sz m : Nat} {cs : List Value} {css : List (List Value)} (hf : css.flatten = cs) (hl : css.length = m) (hw : ∀ c ∈ css, c.length = sz) (hm : m ≤ 140737488355328) : ∀ o, (Res.b b T cs).says o → (Res.row (some ⟨b, 0, none⟩) m m T sz css).says o := fun o h => by
 have ho : o = some (.cells cs.toArray T (0, 0)) := h
 refine ⟨rfl, hl, hw, Nat.le_refl _, by unfold maxLen; omega, cs.toArray, ho, ?_, ?_⟩
 ·have := flatten_len hw; rw [hf, hl] at this; simpa using this
 ·have := flatten_len hw; rw [hf, hl] at this; rw [hf, ← this]; simp
theorem rd_row {a : Option Addr} {m c' T sz : Nat} {css : List (List Value)} (hm : Res.row a m c' T sz css ∈ ρ) (ha : 0 < m → a ≠ none) (hl : css.length = m) (hw : ∀ c ∈ css, c.length = sz) : Rd ρ κ a m sz css :=
  ⟨hl, hw, fun h0 => by
    cases a with
    | none => exact absurd rfl (ha h0)
    | some ad => exact ⟨ad, rfl, fun w hs j u hu => by
        obtain ⟨h1, h2, h3, h4, h5, cur, h6, h7, h8⟩ : (Res.row (some ad) m c' T sz css).holds w := hs.own _ hm
        have hj : j < css.flatten.length := by rcases Nat.lt_or_ge j css.flatten.length with h | h; exact h; rw [List.getElem?_eq_none h] at hu; cases hu
        rw [flatten_len h3, h2] at hj
        rw [h1, add_none, Nat.zero_add]
        have hc2 : w.cell? ⟨ad.block, j, none⟩ = cur.toList[j]? := by simp [World.cell?, h6]
        rw [hc2]
        rw [← h8, List.getElem?_take, if_pos hj] at hu; exact hu⟩⟩
theorem row_some {a : Option Addr} {m c' T sz : Nat} {css : List (List Value)} (hm : Res.row a m c' T sz css ∈ ρ) : ∀ β, Inv β ρ κ → (css.length = m ∧ m ≤ c') ∧ (0 < m → ∃ b, a = some ⟨b, 0, none⟩) := fun β hi => by
 have h := hi.own _ hm
 cases a with
 | none => obtain ⟨rfl, rfl, rfl⟩ := h; exact ⟨⟨rfl, Nat.le_refl _⟩, fun h => absurd h (by omega)⟩
 | some ad => obtain ⟨h1, h2, h3, h4, h5, cur, h6, h7, h8⟩ := h; exact ⟨⟨h2, h4⟩, fun _ => ⟨ad.block, by rw [h1]⟩⟩
theorem sh_pub {b T : Nat} {cs : List Value} (hS : κ.S b) (h : (Res.b b T cs).says κ.w.heap[b]?) : Sh κ b 0 cs := ⟨hS, fun j u hu => by
 have hb : κ.w.heap[b]? = some (.cells cs.toArray T (0, 0)) := h
 rw [Nat.zero_add, cell_of_cells hb]; exact hu⟩
theorem sl_row {b m c' T sz : Nat} {css : List (List Value)} (hS : κ.S b) (h : (Res.row (some ⟨b, 0, none⟩) m c' T sz css).says κ.w.heap[b]?) : Sl κ (some ⟨b, 0, none⟩) m c' sz css := by
 obtain ⟨h1, h2, h3, h4, h5, cur, h6, h7, h8⟩ := h
 refine ⟨h2, h4, h3, fun h0 => ⟨b, 0, rfl, fun j cs hj => ⟨hS, fun i u hu => ?_⟩⟩⟩
 have hi : i < sz := by
  have := h3 cs (List.mem_of_getElem? hj)
  rcases Nat.lt_or_ge i cs.length with h | h
  ·omega
  ·rw [List.getElem?_eq_none h] at hu; cases hu
 have hg := flatten_get h3 hj hi
 have hjm : j < m := by rw [← h2]; exact (List.getElem?_eq_some_iff.1 hj).1
 have hlt : j * sz + i < m * sz := by
  have : (j + 1) * sz ≤ m * sz := Nat.mul_le_mul_right _ hjm
  rw [Nat.add_mul] at this; omega
 have hc2 : κ.w.cell? ⟨b, 0 + j * sz + i, none⟩ = cur.toList[j * sz + i]? := by simp [World.cell?, h6]
 rw [hc2]
 rw [← h8, List.getElem?_take, if_pos hlt] at hg
 rw [hg]; exact hu
def pubK (κ : Kr) : Option Addr → Kr
 | none => κ
 | some ad => ⟨κ.w, fun i => κ.S i ∨ i = ad.block⟩
theorem pubK_w (κ : Kr) (a : Option Addr) : (pubK κ a).w = κ.w := by cases a <;> rfl
theorem pub_row {a : Option Addr} {m c' T sz : Nat} {css : List (List Value)} {l : List Res} (hi : Inv β (Res.row a m c' T sz css :: l) κ) : Inv β l (pubK κ a) ∧ Kle κ (pubK κ a) ∧ Sl (pubK κ a) a m c' sz css := by
 have ho := hi.own _ (List.mem_cons_self)
 cases a with
 | none =>
  obtain ⟨rfl, rfl, rfl⟩ := ho
  exact ⟨hi.sub (List.sublist_cons_self _ _), .refl _, .nil⟩
 | some ad =>
  obtain ⟨h1, h2⟩ := hi.pub (r := Res.row (some ad) m c' T sz css) (b := ad.block) rfl
  have e : ad = ⟨ad.block, 0, none⟩ := ho.1
  refine ⟨h1, h2, ?_⟩
  have ho' : (Res.row (some ad) m c' T sz css).says κ.w.heap[ad.block]? := ho
  unfold pubK
  rw [e] at ho' ⊢
  exact sl_row (κ := ⟨κ.w, fun i => κ.S i ∨ i = ad.block⟩) (.inr rfl) ho'
theorem RV1.sub {rv : ResultVar} {v : Value} {ρ' : List Res} (hs : ∀ r ∈ ρ', r ∈ ρ) (h : RV1 rv σ ρ' v) : RV1 rv σ ρ v := by
 cases rv with
 | tmp t => exact h
 | cell t T => obtain ⟨b, off, Tb, cs, h1, h2, h3⟩ := h; exact ⟨b, off, Tb, cs, h1, hs _ h2, h3⟩
theorem RV.sub {rs : List ResultVar} {v : Value} {ρ' : List Res} (hs : ∀ r ∈ ρ', r ∈ ρ) (h : RV rs σ ρ' v) : RV rs σ ρ v := by
 match rs, h with
 | [], h => exact h
 | [r], h => exact RV1.sub hs h
 | [r, s], ⟨v1, v2, h1, h2, h3⟩ => exact ⟨v1, v2, h1.sub hs, h2.sub hs, h3⟩
 | [r, s, t], ⟨v1, v2, v3, h1, h2, h3, h4⟩ => exact ⟨v1, v2, v3, h1.sub hs, h2.sub hs, h3.sub hs, h4⟩
theorem wc_pubrow {a : Option Addr} {m c' T sz : Nat} {css : List (List Value)} {l : List Res} (hp : Pick ρ (Res.row a m c' T sz css) l) (h : ∀ κ', Kle κ κ' → Sl κ' a m c' sz css → WC β n x K σ l κ') : WC β n x K σ ρ κ := fun hi A hr Q hq => by
 obtain ⟨h2, h3, h4⟩ := pub_row (hi.perm hp)
 have h1 := pubK_w κ a
 have := h _ h3 h4 h2 A hr Q fun e a' σ' ρ' κ'' g1 g2 g3 g4 => hq e a' σ' ρ' κ'' g1 g2 (h3.trans g3) g4
 rwa [h1] at this
theorem wl_pubrow {ops : Array Oper} {lo : List Oper} {K : Post} {a : Option Addr} {m c' T sz : Nat} {css : List (List Value)} {l : List Res} (hp : Pick ρ (Res.row a m c' T sz css) l) (h : ∀ κ', Kle κ κ' → Sl κ' a m c' sz css → WL β n ops lo K σ l κ') : WL β n ops lo K σ ρ κ := fun hi A hr Q hq => by
 obtain ⟨h2, h3, h4⟩ := pub_row (hi.perm hp)
 have h1 := pubK_w κ a
 have := h _ h3 h4 h2 A hr Q fun a' σ' ρ' κ'' g1 g2 g3 g4 => hq a' σ' ρ' κ'' g1 g2 (h3.trans g3) g4
 rwa [h1] at this
theorem wl_pub {ops : Array Oper} {lo : List Oper} {K : Post} {r : Res} {l : List Res} {b : Nat} (hp : Pick ρ r l) (hb : r.blk = some b) (h : ∀ κ', Kle κ κ' → κ'.S b → r.says κ'.w.heap[b]? → WL β n ops lo K σ l κ') : WL β n ops lo K σ ρ κ := fun hi a hr Q hq => by
 have hi2 := hi.perm hp
 obtain ⟨h1, h2⟩ := hi2.pub hb
 have hs := hi2.own r (by simp)
 unfold Res.holds at hs; rw [hb] at hs
 exact h _ h2 (.inr rfl) hs h1 a hr Q fun a' σ' ρ' κ' g1 g2 g3 g4 => hq a' σ' ρ' κ' g1 g2 (h2.trans g3) g4
theorem wrap_u8 {r : Int} (h : 0 ≤ r ∧ r ≤ 255) : IntKind.u8.wrap r = r := by
 have e : IntKind.u8.wrap r = r % 256 := rfl
 rw [e]; omega
variable {o : Oper} {x y : Operand} {c : Bool} {t t' : Nat} {a b : Int}
def Lit (σ : Env) : Nat → List (Nat × Operand) → List (List Value) → Prop
 | _, [], css => css = []
 | k, (i, x) :: r, css => ∃ cs css', css = cs :: css' ∧ i = k ∧ cellsL (ev σ x) = cs ∧ Lit σ (k + 1) r css'
theorem Lit.nil {k : Nat} : Lit σ k [] [] := rfl
theorem Lit.one {k : Nat} {x : Operand} {v : Value} {r : List (Nat × Operand)} {css : List (List Value)} (h1 : ev σ x = v) (h2 : cellsL v = [v]) (h : Lit σ (k + 1) r css) : Lit σ k ((k, x) :: r) ([v] :: css) := ⟨_, _, rfl, rfl, by rw [h1]; exact h2, h⟩
theorem Lit.agg {k : Nat} {x : Operand} {cs : List Value} {r : List (Nat × Operand)} {css : List (List Value)} (h1 : ev σ x = .agg cs.toArray) (h : Lit σ (k + 1) r css) : Lit σ k ((k, x) :: r) (cs :: css) := ⟨_, _, rfl, rfl, by rw [h1]; rfl, h⟩
theorem Lit.spec : ∀ {k : Nat} {parts : List (Nat × Operand)} {css : List (List Value)}, Lit σ k parts css → parts.map (fun p => (p.1, ev σ p.2)) = ((parts.map fun p => ev σ p.2).zipIdx k).map (fun p => (p.2, p.1)) ∧ (parts.map fun p => ev σ p.2).map cellsL = css
 | _, [], _, h => by subst h; exact ⟨rfl, rfl⟩
 | k, (i, x) :: r, _, ⟨cs, css', e1, e2, h1, h2⟩ => by
  subst e1; subst e2
  obtain ⟨h3, h4⟩ := h2.spec
  refine ⟨?_, ?_⟩
  ·simp only [List.map_cons, List.zipIdx_cons, h3]
  ·simp only [List.map_cons, h4, h1]
theorem late_lit {t E len sz by' : Nat} {z : Value} {parts : List (Nat × Operand)} {css : List (List Value)} (hg : o.guard = none) (ho : o.op = .buildSlice t len parts.toArray) (hu : und t = some (.slice E)) (hi : inf E = some (z, sz, by')) (hz : Nat.beq z.cells.size sz = true)
    (hp : Lit σ 0 parts css) (hl : Nat.beq css.length len = true) (hw : (css.all fun cs => Nat.beq cs.length sz) = true) (hb : Nat.ble (len * sz) 16777216 = true) : LateRun o σ E css.flatten (fun b => .slice (some ⟨b, 0, none⟩) len len) := by
  obtain ⟨h1, h2⟩ := hp.spec
  have h3 := late_bs (o := o) (σ := σ) (parts.map fun p => ev σ p.2) hg ho hu hi hz h1 (by have := congrArg List.length h2; have h4 := Nat.eq_of_beq_eq_true hl; simp at this ⊢; omega) (fun v hv => by
    have : cellsL v ∈ css := by rw [← h2]; exact List.mem_map_of_mem hv
    exact Nat.eq_of_beq_eq_true (List.all_eq_true.1 hw _ this)) (Nat.le_of_ble_eq_true hb)
  rwa [List.flatMap_def, h2] at h3
theorem ol_lit {K : Value → List Res → Kr → Prop} {t E len sz by' : Nat} {z : Value} {parts : List (Nat × Operand)} {css : List (List Value)} (hg : o.guard = none) (ho : o.op = .buildSlice t len parts.toArray) (hu : und t = some (.slice E)) (hi : inf E = some (z, sz, by')) (hz : Nat.beq z.cells.size sz = true)
    (hp : Lit σ 0 parts css) (hl : Nat.beq css.length len = true) (hw : (css.all fun cs => Nat.beq cs.length sz) = true) (hb : Nat.ble (len * sz) 16777216 = true) (hb2 : Nat.ble len 16777216 = true) (h : ∀ b κ', Kle κ κ' → K (.slice (some ⟨b, 0, none⟩) len len) (Res.row (some ⟨b, 0, none⟩) len len E sz css :: ρ) κ') : OpL o σ ρ κ K := fun β hinv Nx hk => by
  refine ol_late (late_lit hg ho hu hi hz hp hl hw hb) (K := fun v ρ' κ' => ∃ b, v = .slice (some ⟨b, 0, none⟩) len len ∧ ρ' = Res.b b E css.flatten :: ρ ∧ K v (Res.row (some ⟨b, 0, none⟩) len len E sz css :: ρ) κ') (fun b κ' hk => ⟨b, rfl, rfl, h b κ' hk⟩) β hinv Nx fun v ρ' κ' h1 h2 h3 => ?_
  obtain ⟨b, rfl, rfl, h4⟩ := h3
  have hbb := Nat.le_of_ble_eq_true hb2
  exact hk _ _ κ' (h1.view (r' := Res.row (some ⟨b, 0, none⟩) len len E sz css) Pick.h rfl (row_of_b rfl (Nat.eq_of_beq_eq_true hl) (fun c hc => Nat.eq_of_beq_eq_true (List.all_eq_true.1 hw c hc)) (by omega))) h2 h4
end
end SX
end Go.Proofs.YtiijbkaiipjpkaaGreatDoor
set_option maxRecDepth 100000
namespace Go.Proofs.YtiijbkaiipjpkaaGreatDoor
namespace SX
open Go
def WS (β : Base) (n : Nat) (ops : Array Oper) (K : Post) (m : Nat) (L : Array Bool) (σ : Env) (ρd ρs : List Res) (κ : Kr) : Prop :=
 Inv β (ρd ++ ρs) κ → ∀ a, Rel n a σ → ∀ Q : Act → World → Prop, (∀ a' σ' ρ' κ', Rel n a' σ' → Inv β ρ' κ' → Kle κ κ' → K σ' ρ' κ' → Q a' κ'.w) → wpAnyH Tryz.prog .any ops (NP Q) (Stab ρs κ) m L a κ.w
section
variable {β : Base} {n m : Nat} {ops : Array Oper} {K : Post} {L : Array Bool} {σ : Env} {ρ ρd ρs : List Res} {κ : Kr} {o : Oper} {i d : Nat} {v : Value}
theorem Stab.of {κ' : Kr} (h : Inv β (ρd ++ ρs) κ') (hk : Kle κ κ') : Stab ρs κ κ'.w := ⟨hk.keep, fun r hr => h.own r (List.mem_append.2 (.inr hr))⟩
theorem ws_start {K : Exit → Post} {id : Nat} {l : List Oper} (hp : ρ.Perm (ρd ++ ρs)) (h : ∀ κ', Kle κ κ' → WS β n l.toArray (K .normal) l.length (Array.replicate l.length false) σ ρd ρs κ') : WC β n (.region id l.toArray true) K σ ρ κ := fun hi a hr Q hq => by
 have hk1 : Kle κ ⟨{ κ.w with drawn := κ.w.drawn + 1 }, κ.S⟩ := ⟨Nat.le_refl _, fun _ h => h, fun _ _ => rfl⟩
 have hs := h _ hk1 (hi.perm hp).drew a hr (fun a w => Q .normal a w) fun a' σ' ρ' κ' g1 g2 g3 g4 => hq _ a' σ' ρ' κ' g1 g2 (hk1.trans g3) g4
 exact wp_mono (wp_region_held mixed (by simpa using hs)) fun e a w h => by rw [h.1]; exact h.2
theorem ws_done (hr : (Region.ready .any ops L).isEmpty = true) (h : K σ (ρd ++ ρs) κ) : WS β n ops K m L σ ρd ρs κ := fun hi a hra Q hq =>
 wpAnyH_done (by simpa using hr) ⟨rfl, hq a σ _ κ hra hi (.refl _) h⟩ m
def okQ (ops : Array Oper) (L : Array Bool) (i : Nat) : Bool := Region.noSelect ops && Region.free .any ops L i && (Region.ready .any ops L).contains i
theorem ws_q (i : Nat) (hok : okQ ops L i = true) (ho : ops[i]? = some o) (hg : o.guard = none) (hd : o.dst = some d) (hlt : Nat.blt d n = true) (h : OpQ true o σ ρs κ v) (hw : WS β n ops K m (L.setIfInBounds i true) (upd σ d v) ρd ρs κ) : WS β n ops K (m + 1) L σ ρd ρs κ := fun hi a hr Q hq => by
 unfold okQ at hok
 simp only [Bool.and_eq_true] at hok
 refine wpAnyH_take ho hok.1.1 hok.1.2 hok.2 (fun _ _ _ h => by cases h.1) (v := v) (.inl ⟨by simp [Region.wanted, hg], fun w hw' => by rw [hr.eval]; exact h rfl w hw'⟩) (Stab.of hi (.refl _)) ?_
 rw [← updO_some hd] at hw
 exact hw hi _ (hr.put (dst_some hd hlt) v) Q hq
def Step (β : Base) (n : Nat) (ops : Array Oper) (K : Post) (m : Nat) (L : Array Bool) (σ : Env) (ρd ρs : List Res) (κ : Kr) (i : Nat) : Prop :=
 ∃ o, ops[i]? = some o ∧ dstOk n o.dst = true ∧ ((o.guard = none ∧ OpL o σ (ρd ++ ρs) κ fun v ρ' κ' => ∃ ρd', ρ' = ρd' ++ ρs ∧ WS β n ops K m (L.setIfInBounds i true) (updO σ o.dst v) ρd' ρs κ') ∨
  (∃ c, GuardIs ops σ o c ∧ OpG c o σ (ρd ++ ρs) κ fun v κ' => WS β n ops K m (L.setIfInBounds i true) (updO σ o.dst (gv c v)) ρd ρs κ'))
theorem step_l (ho : ops[i]? = some o) (hg : o.guard = none) (hd : o.dst = some d) (hlt : Nat.blt d n = true) (h : OpL o σ (ρd ++ ρs) κ fun v ρ' κ' => ∃ ρd', ρ' = ρd' ++ ρs ∧ WS β n ops K m (L.setIfInBounds i true) (upd σ d v) ρd' ρs κ') : Step β n ops K m L σ ρd ρs κ i :=
 ⟨o, ho, dst_some hd hlt, .inl ⟨hg, by simp only [updO_some hd]; exact h⟩⟩
theorem step_l0 (ho : ops[i]? = some o) (hg : o.guard = none) (hd : o.dst = none) (h : OpL o σ (ρd ++ ρs) κ fun _ ρ' κ' => ∃ ρd', ρ' = ρd' ++ ρs ∧ WS β n ops K m (L.setIfInBounds i true) σ ρd' ρs κ') : Step β n ops K m L σ ρd ρs κ i :=
 ⟨o, ho, by rw [hd]; rfl, .inl ⟨hg, by simp only [hd]; exact h⟩⟩
theorem Step.op (h : Step β n ops K m L σ ρd ρs κ i) (hi : Inv β (ρd ++ ρs) κ) (a : Act) (hr : Rel n a σ) (Q : Act → World → Prop) (hq : ∀ a' σ' ρ' κ', Rel n a' σ' → Inv β ρ' κ' → Kle κ κ' → K σ' ρ' κ' → Q a' κ'.w) :
    wpOp Tryz.prog ops (NP Q) i (fun a' w' => Stab ρs κ w' ∧ wpAnyH Tryz.prog .any ops (NP Q) (Stab ρs κ) m (L.setIfInBounds i true) a' w') a κ.w := by
  obtain ⟨o, ho, hd, h⟩ := h
  unfold wpOp
  simp only [ho]
  have fin : ∀ (σ' : Env) (ρ' : List Res) (κ' : Kr) (a' : Act), Rel n a' σ' → Inv β (ρ' ++ ρs) κ' → Kle κ κ' → WS β n ops K m (L.setIfInBounds i true) σ' ρ' ρs κ' → Stab ρs κ κ'.w ∧ wpAnyH Tryz.prog .any ops (NP Q) (Stab ρs κ) m (L.setIfInBounds i true) a' κ'.w := fun σ' ρ' κ' a' k1 k2 k3 k4 =>
    ⟨Stab.of k2 k3, wpAnyH_weak (fun w hw => ⟨fun b hb => (hw.keep b (k3.sh b hb)).trans (k3.keep b hb), hw.own⟩) _ _ _ _ (k4 k2 a' k1 Q fun a'' σ'' ρ'' κ'' g1 g2 g3 g4 => hq a'' σ'' ρ'' κ'' g1 g2 (k3.trans g3) g4)⟩
  rcases h with ⟨hg, hw⟩ | ⟨c, hg, hw⟩
  · rw [if_pos (by simp [Region.wanted, hg])]
    refine .inl (wp_of_out hr.eval (hw β hi (fun v w => Stab ρs κ w ∧ wpAnyH Tryz.prog .any ops (NP Q) (Stab ρs κ) m (L.setIfInBounds i true) (a.put o.dst v) w) fun v ρ' κ' hi' hle' hw' => ?_) fun _ _ h => h)
    obtain ⟨ρd', rfl, hw'⟩ := hw'
    exact fin _ ρd' κ' _ (hr.put hd v) hi' hle' hw'
  · rw [wanted_rel hr, hg]
    cases c with
    | false =>
      have h2 := hw.2 rfl
      simp only [gv_false] at h2
      exact fin _ ρd κ _ (hr.put hd _) hi (.refl _) h2
    | true =>
      refine .inl (wp_of_out hr.eval ((hw.1 rfl) β hi (fun v w => Stab ρs κ w ∧ wpAnyH Tryz.prog .any ops (NP Q) (Stab ρs κ) m (L.setIfInBounds i true) (a.put o.dst v) w) fun v ρ' κ' hi' hle' hw' => ?_) fun _ _ h => h)
      obtain ⟨rfl, hw'⟩ := hw'
      simp only [gv_true] at hw'
      exact fin _ ρd κ' _ (hr.put hd v) hi' hle' hw'
theorem ws_one (i : Nat) (hr : (Region.ready .any ops L == [i]) = true) (h : Step β n ops K m L σ ρd ρs κ i) : WS β n ops K (m + 1) L σ ρd ρs κ := fun hi a hra Q hq =>
 wpAnyH_all (by simpa using hr) (by simp) fun j hj => by
  simp only [List.mem_cons, List.not_mem_nil, or_false] at hj
  subst hj; exact h.op hi a hra Q hq
theorem ws_two (i j : Nat) (hr : (Region.ready .any ops L == [i, j]) = true) (h : Step β n ops K m L σ ρd ρs κ i) (h2 : Step β n ops K m L σ ρd ρs κ j) : WS β n ops K (m + 1) L σ ρd ρs κ := fun hi a hra Q hq =>
 wpAnyH_all (by simpa using hr) (by simp) fun k hk => by
  simp only [List.mem_cons, List.not_mem_nil, or_false] at hk
  rcases hk with rfl | rfl
  ·exact h.op hi a hra Q hq
  ·exact h2.op hi a hra Q hq
end
section
variable {β : Base} {n : Nat} {ops : Array Oper} {K : Post} {o : Oper} {r : List (Nat × Oper)} {σ : Env} {ρd : List Res} {κ : Kr}
theorem ol_q {K : Value → List Res → Kr → Prop} {v : Value} {ρ : List Res} (h : OpQ true o σ ρ κ v) (hk : K v ρ κ) : OpL o σ ρ κ K := fun _ hi Nx hn => by
 rw [h rfl κ.w hi.stab]
 exact hn v ρ κ hi (.refl _) hk
end
end SX
end Go.Proofs.YtiijbkaiipjpkaaGreatDoor
set_option maxRecDepth 100000
namespace Go.Proofs.YtiijbkaiipjpkaaGreatDoor
namespace SX
open Go
section
variable {o : Oper} {σ : Env} {ρ : List Res} {κ : Kr} {c : Bool} {x y : Operand} {K : Value → List Res → Kr → Prop}
theorem oq_indexA {t E len by' : Nat} {cs : List Value} {v z : Value} {k : IntKind} {i : Int} {j : Nat} {d : TypeDesc} (ho : o.op = .index t x y) (hu : und t = some (.array len E)) (hE : und E = some d) (hd : isAggD d = false) (hi : inf E = some (z, 1, by'))
    (hx : Ev σ c x (.agg cs.toArray)) (hy : Ev σ c y (.int k i)) (hj : c = true → i = (j : Int)) (hlt : c = true → j < len) (hv : c = true → cs[j]? = some v) : OpQ c o σ ρ κ v := fun hc w _ => by
  have h1 := hj hc; have h2 := hlt hc; have h3 := hv hc
  simp only [execOp, ho, hx hc, hy hc, Instr.index, asIntOf, Sem.run_bind, Sem.run_pure, Result.andThen_ok, run_underlying (und_ok hu), run_sizeOf hi, part, run_isAgg hE, hd]
  simp [h1, h2, h3, run_sizeOf hi, run_isAgg hE, hd, part]
theorem oq_indexP {t E len b off sz by' : Nat} {z : Value} {k : IntKind} {i : Int} {j : Nat} (ho : o.op = .indexAddr t x y) (hu : und t = some (.array len E)) (hi : inf E = some (z, sz, by'))
    (hx : Ev σ c x (.pointer (some ⟨b, off, none⟩))) (hy : Ev σ c y (.int k i)) (hj : c = true → i = (j : Int)) (hlt : c = true → j < len) : OpQ c o σ ρ κ (.pointer (some ⟨b, off + j * sz, none⟩)) := fun hc w _ => by
  have h1 := hj hc; have h2 := hlt hc
  simp only [execOp, ho, hx hc, hy hc, Instr.indexAt, asIntOf, Instr.sureAddr, Sem.run_bind, Sem.run_pure, Result.andThen_ok, run_underlying (und_ok hu)]
  simp [h1, h2, run_sizeOf hi, add_none]
theorem ol_storeI {t : Nat} {b off T by' : Nat} {z v : Value} {cs : List Value} {ρ' : List Res} (ho : o.op = .store t x y) (hx : ev σ x = .pointer (some ⟨b, off, none⟩)) (hv : ev σ y = v) (hv1 : cellsL v = [v])
    (hz : inf t = some (z, 1, by')) (h1 : v.oneCell' = true) (hu : Upd ρ (Res.b b T cs) (Res.b b T (cs.set off v)) ρ') (hl : off < cs.length)
    (h : ∀ κ', Kle κ κ' → K undef ρ' κ') : OpL o σ ρ κ K := by
  rw [set_eq_take hl] at hu
  exact ol_store ho hx (by rw [hv]; exact hv1) hz rfl (by simp [h1]) (Nat.ble_eq_true_of_le (by simp only [List.length_cons, List.length_nil]; omega)) hu h
theorem flat_set {sz : Nat} {css : List (List Value)} {k j : Nat} {cs vs : List Value} (hw : ∀ cs ∈ css, cs.length = sz) (hk : css[k]? = some cs) (hj : j + vs.length ≤ sz) :
    css.flatten.take (k * sz + j) ++ vs ++ css.flatten.drop (k * sz + j + vs.length) = (css.set k (cs.take j ++ vs ++ cs.drop (j + vs.length))).flatten := by
  have hlt : k < css.length := (List.getElem?_eq_some_iff.1 hk).1
  have hcs : css[k] = cs := (List.getElem?_eq_some_iff.1 hk).2
  have hcl : cs.length = sz := hw cs (List.mem_of_getElem? hk)
  have hsplit : css = css.take k ++ cs :: css.drop (k + 1) := by
    rw [← hcs, ← List.drop_eq_getElem_cons hlt, List.take_append_drop]
  have hpre : (css.take k).flatten.length = k * sz := by rw [flatten_len (fun c h => hw c (List.mem_of_mem_take h)), List.length_take, Nat.min_eq_left (by omega)]
  rw [List.set_eq_take_append_cons_drop, if_pos hlt]
  have hf : css.flatten = (css.take k).flatten ++ (cs ++ (css.drop (k + 1)).flatten) := by
    conv => lhs; rw [hsplit]
    simp
  rw [hf]
  have t1 : List.take (k * sz + j) ((css.take k).flatten ++ (cs ++ (css.drop (k + 1)).flatten)) = (css.take k).flatten ++ cs.take j := by
    rw [List.take_append, hpre, List.take_of_length_le (by omega), Nat.add_sub_cancel_left, List.take_append_of_le_length (by omega)]
  have t2 : List.drop (k * sz + j + vs.length) ((css.take k).flatten ++ (cs ++ (css.drop (k + 1)).flatten)) = cs.drop (j + vs.length) ++ (css.drop (k + 1)).flatten := by
    rw [List.drop_append, hpre, List.drop_of_length_le (by omega), show k * sz + j + vs.length - k * sz = j + vs.length by omega, List.drop_append_of_le_length (by omega)]; rfl
  rw [t1, t2]
  simp
theorem take_mid {A V D : List Value} {N : Nat} (h : A.length + V.length ≤ N) : (A ++ V ++ D).take N = A ++ V ++ D.take (N - (A.length + V.length)) := by
 rw [List.take_append, List.take_of_length_le (by rw [List.length_append]; exact h), List.length_append]
theorem ol_rowstore {t b n c' T sz sz2 by' off k j : Nat} {z : Value} {css : List (List Value)} {cs vs : List Value} {ρ' : List Res} (ho : o.op = .store t x y) (hx : ev σ x = .pointer (some ⟨b, off, none⟩)) (hoff : off = k * sz + j) (hv : cellsL (ev σ y) = vs)
    (hz : inf t = some (z, sz2, by')) (hsz : vs.length = sz2) (h1 : vs.all Value.oneCell' = true) (hk : css[k]? = some cs) (hj : j + vs.length ≤ sz) (hu : Upd ρ (Res.row (some ⟨b, 0, none⟩) n c' T sz css) (Res.row (some ⟨b, 0, none⟩) n c' T sz (css.set k (cs.take j ++ vs ++ cs.drop (j + vs.length)))) ρ')
    (h : ∀ κ', Kle κ κ' → K undef ρ' κ') : OpL o σ ρ κ K := fun β hi Nx hkk => by
  obtain ⟨l1, l2, hρ, hρ'⟩ := hu
  obtain ⟨g0, g1, g2, g3, g4, cur, g5, g6, g7⟩ : (Res.row (some ⟨b, 0, none⟩) n c' T sz css).holds κ.w := hi.own _ (by rw [hρ]; simp)
  have hlt : k < css.length := (List.getElem?_eq_some_iff.1 hk).1
  have hb : κ.w.heap[b]? = some (.cells cur.toList.toArray T (0, 0)) := by simpa using g5
  have hkn : k * sz + sz ≤ n * sz := by rw [← Nat.succ_mul]; exact Nat.mul_le_mul_right _ (by omega)
  have hnc : n * sz ≤ c' * sz := Nat.mul_le_mul_right _ g3
  have hl : off + vs.length ≤ cur.toList.length := by simp only [Array.length_toList, g6, hoff]; omega
  obtain ⟨w', hrun, e1, e2, e3, e4, e5, e6⟩ := run_store_own hb hl h1
  have hcs : (ev σ y).cells = vs.toArray := by rw [← hv, ← cellsL_eq]
  have hsz' : vs.toArray.size = sz2 := by simpa using hsz
  unfold execOp
  simp only [ho, hx, Instr.storeAt, Instr.sureAddr, storeVar, Sem.run_bind, Sem.run_pure, Result.andThen_ok, run_sizeOf hz, hcs, hsz', ne_eq, not_true_eq_false, if_false, hrun, OutV]
  have hlen : (css.set k (cs.take j ++ vs ++ cs.drop (j + vs.length))).length = n := by simp [g1]
  have hcl : cs.length = sz := g2 cs (List.mem_of_getElem? hk)
  have hsays : (Res.row (some ⟨b, 0, none⟩) n c' T sz (css.set k (cs.take j ++ vs ++ cs.drop (j + vs.length)))).says w'.heap[b]? := by
    refine ⟨rfl, hlen, fun d hd => ?_, g3, g4, _, e3, ?_, ?_⟩
    · rcases List.mem_or_eq_of_mem_set hd with hd | hd
      · exact g2 d hd
      · rw [hd]; simp only [List.length_append, List.length_take, List.length_drop]; omega
    · have := hl; simp only [Array.length_toList, g6] at this
      simp only [List.size_toArray, List.length_append, List.length_take, List.length_drop, Array.length_toList, g6]; omega
    · rw [← flat_set g2 hk hj, ← g7, hoff]
      have hcl2 : cur.toList.length = c' * sz := by simp [g6]
      have hA : (List.take (k * sz + j) cur.toList).length = k * sz + j := by rw [List.length_take, hcl2]; omega
      rw [take_mid (by rw [hA]; omega), hA]
      have a1 : List.take (k * sz + j) (List.take (n * sz) cur.toList) = List.take (k * sz + j) cur.toList := by rw [List.take_take, Nat.min_eq_left (by omega)]
      have a2 : List.drop (k * sz + j + vs.length) (List.take (n * sz) cur.toList) = List.take (n * sz - (k * sz + j + vs.length)) (List.drop (k * sz + j + vs.length) cur.toList) := by rw [List.drop_take]
      rw [a1, a2]
  obtain ⟨hi', hk'⟩ := hi.turn (r := Res.row (some ⟨b, 0, none⟩) n c' T sz css) (r' := Res.row (some ⟨b, 0, none⟩) n c' T sz (css.set k (cs.take j ++ vs ++ cs.drop (j + vs.length)))) hρ rfl rfl e1 e2 hsays e4 e5 e6 (sem_drawn _ _ _ _ _ hrun)
  rw [← hρ'] at hi'
  exact hkk _ _ _ hi' hk' (h _ hk')
end
end SX
end Go.Proofs.YtiijbkaiipjpkaaGreatDoor
