/- Walks: what quote.Print's operations give at a byte below 32 (a law a byte, by the kernel). -/
import Derived.Test.YtngofdaciacglaaGreatDoorBld2
namespace Go.Proofs.YtngofdaciacglaaGreatDoor
open Go.RowKit Go.Lib
/-- The eight operations at the byte c. -/
structure CtlOps (c : Nat) (hi d1 lo d2 : Int) (s1 s2 s3 s4 : ByteArray) : Prop where
  shr : ∀ W, (binOp .shr 5 (.int .u8 c) (.int .u64 4)).run Tryz.prog W = .ok (.int .u8 hi) W
  ix1 : ∀ W, (Instr.index 9 (.string ⟨#[48, 49]⟩) (.int .u8 hi)).run Tryz.prog W = .ok (.int .u8 d1) W
  cv1 : ∀ W, (Go.convert 5 9 (.int .u8 d1)).run Tryz.prog W = .ok (.string s1) W
  ad1 : ∀ W, (binOp .add 9 (.string ⟨#[92, 117, 48, 48]⟩) (.string s1)).run Tryz.prog W = .ok (.string s2) W
  and : ∀ W, (binOp .and 5 (.int .u8 c) (.int .u8 15)).run Tryz.prog W = .ok (.int .u8 lo) W
  ix2 : ∀ W, (Instr.index 9 (.string ⟨#[48, 49, 50, 51, 52, 53, 54, 55, 56, 57, 97, 98, 99, 100, 101, 102]⟩) (.int .u8 lo)).run Tryz.prog W = .ok (.int .u8 d2) W
  cv2 : ∀ W, (Go.convert 5 9 (.int .u8 d2)).run Tryz.prog W = .ok (.string s3) W
  ad2 : ∀ W, (binOp .add 9 (.string s2) (.string s3)).run Tryz.prog W = .ok (.string s4) W
/-- .. whatever lies between. -/
def Ctl (c : Nat) (l : List UInt8) : Prop := ∃ hi d1 lo d2 s1 s2 s3, CtlOps c hi d1 lo d2 s1 s2 s3 (bs l)
theorem ctl0 : Ctl 0 [92, 117, 48, 48, 48, 48] := ⟨0, 48, 0, 48, bs [48], bs [92, 117, 48, 48, 48], bs [48], fun _ => by kernel_rfl, fun _ => by kernel_rfl, fun _ => by kernel_rfl, fun _ => by kernel_rfl, fun _ => by kernel_rfl, fun _ => by kernel_rfl, fun _ => by kernel_rfl, fun _ => by kernel_rfl⟩
theorem ctl1 : Ctl 1 [92, 117, 48, 48, 48, 49] := ⟨0, 48, 1, 49, bs [48], bs [92, 117, 48, 48, 48], bs [49], fun _ => by kernel_rfl, fun _ => by kernel_rfl, fun _ => by kernel_rfl, fun _ => by kernel_rfl, fun _ => by kernel_rfl, fun _ => by kernel_rfl, fun _ => by kernel_rfl, fun _ => by kernel_rfl⟩
theorem ctl2 : Ctl 2 [92, 117, 48, 48, 48, 50] := ⟨0, 48, 2, 50, bs [48], bs [92, 117, 48, 48, 48], bs [50], fun _ => by kernel_rfl, fun _ => by kernel_rfl, fun _ => by kernel_rfl, fun _ => by kernel_rfl, fun _ => by kernel_rfl, fun _ => by kernel_rfl, fun _ => by kernel_rfl, fun _ => by kernel_rfl⟩
theorem ctl3 : Ctl 3 [92, 117, 48, 48, 48, 51] := ⟨0, 48, 3, 51, bs [48], bs [92, 117, 48, 48, 48], bs [51], fun _ => by kernel_rfl, fun _ => by kernel_rfl, fun _ => by kernel_rfl, fun _ => by kernel_rfl, fun _ => by kernel_rfl, fun _ => by kernel_rfl, fun _ => by kernel_rfl, fun _ => by kernel_rfl⟩
theorem ctl4 : Ctl 4 [92, 117, 48, 48, 48, 52] := ⟨0, 48, 4, 52, bs [48], bs [92, 117, 48, 48, 48], bs [52], fun _ => by kernel_rfl, fun _ => by kernel_rfl, fun _ => by kernel_rfl, fun _ => by kernel_rfl, fun _ => by kernel_rfl, fun _ => by kernel_rfl, fun _ => by kernel_rfl, fun _ => by kernel_rfl⟩
theorem ctl5 : Ctl 5 [92, 117, 48, 48, 48, 53] := ⟨0, 48, 5, 53, bs [48], bs [92, 117, 48, 48, 48], bs [53], fun _ => by kernel_rfl, fun _ => by kernel_rfl, fun _ => by kernel_rfl, fun _ => by kernel_rfl, fun _ => by kernel_rfl, fun _ => by kernel_rfl, fun _ => by kernel_rfl, fun _ => by kernel_rfl⟩
theorem ctl6 : Ctl 6 [92, 117, 48, 48, 48, 54] := ⟨0, 48, 6, 54, bs [48], bs [92, 117, 48, 48, 48], bs [54], fun _ => by kernel_rfl, fun _ => by kernel_rfl, fun _ => by kernel_rfl, fun _ => by kernel_rfl, fun _ => by kernel_rfl, fun _ => by kernel_rfl, fun _ => by kernel_rfl, fun _ => by kernel_rfl⟩
theorem ctl7 : Ctl 7 [92, 117, 48, 48, 48, 55] := ⟨0, 48, 7, 55, bs [48], bs [92, 117, 48, 48, 48], bs [55], fun _ => by kernel_rfl, fun _ => by kernel_rfl, fun _ => by kernel_rfl, fun _ => by kernel_rfl, fun _ => by kernel_rfl, fun _ => by kernel_rfl, fun _ => by kernel_rfl, fun _ => by kernel_rfl⟩
theorem ctl8 : Ctl 8 [92, 117, 48, 48, 48, 56] := ⟨0, 48, 8, 56, bs [48], bs [92, 117, 48, 48, 48], bs [56], fun _ => by kernel_rfl, fun _ => by kernel_rfl, fun _ => by kernel_rfl, fun _ => by kernel_rfl, fun _ => by kernel_rfl, fun _ => by kernel_rfl, fun _ => by kernel_rfl, fun _ => by kernel_rfl⟩
theorem ctl9 : Ctl 9 [92, 117, 48, 48, 48, 57] := ⟨0, 48, 9, 57, bs [48], bs [92, 117, 48, 48, 48], bs [57], fun _ => by kernel_rfl, fun _ => by kernel_rfl, fun _ => by kernel_rfl, fun _ => by kernel_rfl, fun _ => by kernel_rfl, fun _ => by kernel_rfl, fun _ => by kernel_rfl, fun _ => by kernel_rfl⟩
theorem ctl10 : Ctl 10 [92, 117, 48, 48, 48, 97] := ⟨0, 48, 10, 97, bs [48], bs [92, 117, 48, 48, 48], bs [97], fun _ => by kernel_rfl, fun _ => by kernel_rfl, fun _ => by kernel_rfl, fun _ => by kernel_rfl, fun _ => by kernel_rfl, fun _ => by kernel_rfl, fun _ => by kernel_rfl, fun _ => by kernel_rfl⟩
theorem ctl11 : Ctl 11 [92, 117, 48, 48, 48, 98] := ⟨0, 48, 11, 98, bs [48], bs [92, 117, 48, 48, 48], bs [98], fun _ => by kernel_rfl, fun _ => by kernel_rfl, fun _ => by kernel_rfl, fun _ => by kernel_rfl, fun _ => by kernel_rfl, fun _ => by kernel_rfl, fun _ => by kernel_rfl, fun _ => by kernel_rfl⟩
theorem ctl12 : Ctl 12 [92, 117, 48, 48, 48, 99] := ⟨0, 48, 12, 99, bs [48], bs [92, 117, 48, 48, 48], bs [99], fun _ => by kernel_rfl, fun _ => by kernel_rfl, fun _ => by kernel_rfl, fun _ => by kernel_rfl, fun _ => by kernel_rfl, fun _ => by kernel_rfl, fun _ => by kernel_rfl, fun _ => by kernel_rfl⟩
theorem ctl13 : Ctl 13 [92, 117, 48, 48, 48, 100] := ⟨0, 48, 13, 100, bs [48], bs [92, 117, 48, 48, 48], bs [100], fun _ => by kernel_rfl, fun _ => by kernel_rfl, fun _ => by kernel_rfl, fun _ => by kernel_rfl, fun _ => by kernel_rfl, fun _ => by kernel_rfl, fun _ => by kernel_rfl, fun _ => by kernel_rfl⟩
theorem ctl14 : Ctl 14 [92, 117, 48, 48, 48, 101] := ⟨0, 48, 14, 101, bs [48], bs [92, 117, 48, 48, 48], bs [101], fun _ => by kernel_rfl, fun _ => by kernel_rfl, fun _ => by kernel_rfl, fun _ => by kernel_rfl, fun _ => by kernel_rfl, fun _ => by kernel_rfl, fun _ => by kernel_rfl, fun _ => by kernel_rfl⟩
theorem ctl15 : Ctl 15 [92, 117, 48, 48, 48, 102] := ⟨0, 48, 15, 102, bs [48], bs [92, 117, 48, 48, 48], bs [102], fun _ => by kernel_rfl, fun _ => by kernel_rfl, fun _ => by kernel_rfl, fun _ => by kernel_rfl, fun _ => by kernel_rfl, fun _ => by kernel_rfl, fun _ => by kernel_rfl, fun _ => by kernel_rfl⟩
theorem ctl16 : Ctl 16 [92, 117, 48, 48, 49, 48] := ⟨1, 49, 0, 48, bs [49], bs [92, 117, 48, 48, 49], bs [48], fun _ => by kernel_rfl, fun _ => by kernel_rfl, fun _ => by kernel_rfl, fun _ => by kernel_rfl, fun _ => by kernel_rfl, fun _ => by kernel_rfl, fun _ => by kernel_rfl, fun _ => by kernel_rfl⟩
theorem ctl17 : Ctl 17 [92, 117, 48, 48, 49, 49] := ⟨1, 49, 1, 49, bs [49], bs [92, 117, 48, 48, 49], bs [49], fun _ => by kernel_rfl, fun _ => by kernel_rfl, fun _ => by kernel_rfl, fun _ => by kernel_rfl, fun _ => by kernel_rfl, fun _ => by kernel_rfl, fun _ => by kernel_rfl, fun _ => by kernel_rfl⟩
theorem ctl18 : Ctl 18 [92, 117, 48, 48, 49, 50] := ⟨1, 49, 2, 50, bs [49], bs [92, 117, 48, 48, 49], bs [50], fun _ => by kernel_rfl, fun _ => by kernel_rfl, fun _ => by kernel_rfl, fun _ => by kernel_rfl, fun _ => by kernel_rfl, fun _ => by kernel_rfl, fun _ => by kernel_rfl, fun _ => by kernel_rfl⟩
theorem ctl19 : Ctl 19 [92, 117, 48, 48, 49, 51] := ⟨1, 49, 3, 51, bs [49], bs [92, 117, 48, 48, 49], bs [51], fun _ => by kernel_rfl, fun _ => by kernel_rfl, fun _ => by kernel_rfl, fun _ => by kernel_rfl, fun _ => by kernel_rfl, fun _ => by kernel_rfl, fun _ => by kernel_rfl, fun _ => by kernel_rfl⟩
theorem ctl20 : Ctl 20 [92, 117, 48, 48, 49, 52] := ⟨1, 49, 4, 52, bs [49], bs [92, 117, 48, 48, 49], bs [52], fun _ => by kernel_rfl, fun _ => by kernel_rfl, fun _ => by kernel_rfl, fun _ => by kernel_rfl, fun _ => by kernel_rfl, fun _ => by kernel_rfl, fun _ => by kernel_rfl, fun _ => by kernel_rfl⟩
theorem ctl21 : Ctl 21 [92, 117, 48, 48, 49, 53] := ⟨1, 49, 5, 53, bs [49], bs [92, 117, 48, 48, 49], bs [53], fun _ => by kernel_rfl, fun _ => by kernel_rfl, fun _ => by kernel_rfl, fun _ => by kernel_rfl, fun _ => by kernel_rfl, fun _ => by kernel_rfl, fun _ => by kernel_rfl, fun _ => by kernel_rfl⟩
theorem ctl22 : Ctl 22 [92, 117, 48, 48, 49, 54] := ⟨1, 49, 6, 54, bs [49], bs [92, 117, 48, 48, 49], bs [54], fun _ => by kernel_rfl, fun _ => by kernel_rfl, fun _ => by kernel_rfl, fun _ => by kernel_rfl, fun _ => by kernel_rfl, fun _ => by kernel_rfl, fun _ => by kernel_rfl, fun _ => by kernel_rfl⟩
theorem ctl23 : Ctl 23 [92, 117, 48, 48, 49, 55] := ⟨1, 49, 7, 55, bs [49], bs [92, 117, 48, 48, 49], bs [55], fun _ => by kernel_rfl, fun _ => by kernel_rfl, fun _ => by kernel_rfl, fun _ => by kernel_rfl, fun _ => by kernel_rfl, fun _ => by kernel_rfl, fun _ => by kernel_rfl, fun _ => by kernel_rfl⟩
theorem ctl24 : Ctl 24 [92, 117, 48, 48, 49, 56] := ⟨1, 49, 8, 56, bs [49], bs [92, 117, 48, 48, 49], bs [56], fun _ => by kernel_rfl, fun _ => by kernel_rfl, fun _ => by kernel_rfl, fun _ => by kernel_rfl, fun _ => by kernel_rfl, fun _ => by kernel_rfl, fun _ => by kernel_rfl, fun _ => by kernel_rfl⟩
theorem ctl25 : Ctl 25 [92, 117, 48, 48, 49, 57] := ⟨1, 49, 9, 57, bs [49], bs [92, 117, 48, 48, 49], bs [57], fun _ => by kernel_rfl, fun _ => by kernel_rfl, fun _ => by kernel_rfl, fun _ => by kernel_rfl, fun _ => by kernel_rfl, fun _ => by kernel_rfl, fun _ => by kernel_rfl, fun _ => by kernel_rfl⟩
theorem ctl26 : Ctl 26 [92, 117, 48, 48, 49, 97] := ⟨1, 49, 10, 97, bs [49], bs [92, 117, 48, 48, 49], bs [97], fun _ => by kernel_rfl, fun _ => by kernel_rfl, fun _ => by kernel_rfl, fun _ => by kernel_rfl, fun _ => by kernel_rfl, fun _ => by kernel_rfl, fun _ => by kernel_rfl, fun _ => by kernel_rfl⟩
theorem ctl27 : Ctl 27 [92, 117, 48, 48, 49, 98] := ⟨1, 49, 11, 98, bs [49], bs [92, 117, 48, 48, 49], bs [98], fun _ => by kernel_rfl, fun _ => by kernel_rfl, fun _ => by kernel_rfl, fun _ => by kernel_rfl, fun _ => by kernel_rfl, fun _ => by kernel_rfl, fun _ => by kernel_rfl, fun _ => by kernel_rfl⟩
theorem ctl28 : Ctl 28 [92, 117, 48, 48, 49, 99] := ⟨1, 49, 12, 99, bs [49], bs [92, 117, 48, 48, 49], bs [99], fun _ => by kernel_rfl, fun _ => by kernel_rfl, fun _ => by kernel_rfl, fun _ => by kernel_rfl, fun _ => by kernel_rfl, fun _ => by kernel_rfl, fun _ => by kernel_rfl, fun _ => by kernel_rfl⟩
theorem ctl29 : Ctl 29 [92, 117, 48, 48, 49, 100] := ⟨1, 49, 13, 100, bs [49], bs [92, 117, 48, 48, 49], bs [100], fun _ => by kernel_rfl, fun _ => by kernel_rfl, fun _ => by kernel_rfl, fun _ => by kernel_rfl, fun _ => by kernel_rfl, fun _ => by kernel_rfl, fun _ => by kernel_rfl, fun _ => by kernel_rfl⟩
theorem ctl30 : Ctl 30 [92, 117, 48, 48, 49, 101] := ⟨1, 49, 14, 101, bs [49], bs [92, 117, 48, 48, 49], bs [101], fun _ => by kernel_rfl, fun _ => by kernel_rfl, fun _ => by kernel_rfl, fun _ => by kernel_rfl, fun _ => by kernel_rfl, fun _ => by kernel_rfl, fun _ => by kernel_rfl, fun _ => by kernel_rfl⟩
theorem ctl31 : Ctl 31 [92, 117, 48, 48, 49, 102] := ⟨1, 49, 15, 102, bs [49], bs [92, 117, 48, 48, 49], bs [102], fun _ => by kernel_rfl, fun _ => by kernel_rfl, fun _ => by kernel_rfl, fun _ => by kernel_rfl, fun _ => by kernel_rfl, fun _ => by kernel_rfl, fun _ => by kernel_rfl, fun _ => by kernel_rfl⟩
theorem ctl_any (b : UInt8) (h : b.toNat < 32) (h1 : b.toNat ≠ 10) (h2 : b.toNat ≠ 9) (h3 : b.toNat ≠ 13) : Ctl b.toNat (qB b) := by
  have e : b = b.toNat.toUInt8 := by simp
  generalize hc : b.toNat = c at h h1 h2 h3 e
  subst e
  have hs : c = 0 ∨ c = 1 ∨ c = 2 ∨ c = 3 ∨ c = 4 ∨ c = 5 ∨ c = 6 ∨ c = 7 ∨ c = 8 ∨ c = 11 ∨ c = 12 ∨ c = 14 ∨ c = 15 ∨ c = 16 ∨ c = 17 ∨ c = 18 ∨ c = 19 ∨ c = 20 ∨ c = 21 ∨ c = 22 ∨ c = 23 ∨ c = 24 ∨ c = 25 ∨ c = 26 ∨ c = 27 ∨ c = 28 ∨ c = 29 ∨ c = 30 ∨ c = 31 := by omega
  rcases hs with rfl | rfl | rfl | rfl | rfl | rfl | rfl | rfl | rfl | rfl | rfl | rfl | rfl | rfl | rfl | rfl | rfl | rfl | rfl | rfl | rfl | rfl | rfl | rfl | rfl | rfl | rfl | rfl | rfl
  · exact ctl0
  · exact ctl1
  · exact ctl2
  · exact ctl3
  · exact ctl4
  · exact ctl5
  · exact ctl6
  · exact ctl7
  · exact ctl8
  · exact ctl11
  · exact ctl12
  · exact ctl14
  · exact ctl15
  · exact ctl16
  · exact ctl17
  · exact ctl18
  · exact ctl19
  · exact ctl20
  · exact ctl21
  · exact ctl22
  · exact ctl23
  · exact ctl24
  · exact ctl25
  · exact ctl26
  · exact ctl27
  · exact ctl28
  · exact ctl29
  · exact ctl30
  · exact ctl31
end Go.Proofs.YtngofdaciacglaaGreatDoor
