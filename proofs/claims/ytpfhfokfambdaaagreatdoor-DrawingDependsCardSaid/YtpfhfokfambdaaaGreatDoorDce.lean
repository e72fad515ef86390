/- A part of the proof of a law of this seat: LcXb; no conditions. -/
import Derived.KernelRfl
import Derived.Test.YtpfhfokfambdaaaGreatDoorDcb
import Derived.Test.YtpfhfokfambdaaaGreatDoorProg
namespace Go.Proofs.YtpfhfokfambdaaaGreatDoor
open Ev Ev.LC Ev.LK
/-- (*metrolab/drawing.reader).line -/
def e59_1 : LC :=
  .seq (.draw [0, 1, 3, 7, 0, 16, 48, 127, 255, 511, 511, 1023, 4095] [ ⟨some 19, none, .mov (.t 0)⟩, ⟨some 20, none, .nilck (.t 19)⟩, ⟨some 21, none, .fieldA 3 (.t 20)⟩, ⟨some 22, none, .load none (.t 21)⟩, ⟨some 23, none, .mov (.t 1)⟩, ⟨some 24, none, .idxA 1 (.t 23) (.i 0)⟩, ⟨some 25, none, .load none (.t 24)⟩, ⟨some 26, none, .lookup true (.d .nilf) (.t 22) (.t 25)⟩, ⟨some 18, none, .mov (.t 26)⟩, ⟨some 27, none, .ext (.t 18) 0⟩, ⟨some 28, none, .ext (.t 18) 1⟩, ⟨some 5, none, .mov (.t 27)⟩, ⟨some 6, none, .mov (.t 28)⟩]) (.seq (.seq (.region [ ⟨some 29, none, .mov (.t 6)⟩, ⟨some 30, none, .not (.t 29)⟩]) (.cond (.t 30) (.seq (.region [ ⟨some 4, none, .mov (.i 4)⟩]) .ret) .skip)) (.seq (.region [ ⟨some 31, none, .mov (.t 5)⟩, ⟨some 32, none, .mov (.t 1)⟩, ⟨some 33, none, .callvD (.t 31) [.t 32]⟩, ⟨some 4, none, .mov (.t 33)⟩]) .ret))
def q59_1 : LC := e59_1
theorem u59_1 : Unf q59_1 e59_1 := fun _ _ _ _ _ => (rfl)
def e59_2 : LC :=
  .seq (.seq (.draw [0, 1, 3, 7, 15, 31, 0, 64, 192, 448, 1023] [ ⟨some 7, none, .mov (.t 0)⟩, ⟨some 8, none, .nilck (.t 7)⟩, ⟨some 9, none, .fieldA 0 (.t 8)⟩, ⟨some 10, none, .fieldA 0 (.t 9)⟩, ⟨some 11, none, .load none (.t 10)⟩, ⟨some 12, none, .bin .eql (.t 11) (.s [])⟩, ⟨some 13, none, .mov (.t 1)⟩, ⟨some 14, none, .idxA 1 (.t 13) (.i 0)⟩, ⟨some 15, none, .load none (.t 14)⟩, ⟨some 16, none, .bin .eql (.t 15) (.s [100, 114, 97, 119, 105, 110, 103])⟩, ⟨some 17, none, .beq true (.t 12) (.t 16)⟩]) (.cond (.t 17) (.seq (.region [ ⟨some 4, none, .mov (.i 4)⟩]) .ret) .skip)) q59_1
def q59_2 : LC := e59_2
theorem u59_2 : Unf q59_2 e59_2 := fun _ _ _ _ _ => (rfl)
def d_drawing_reader_line : LC :=
  .seq (.region [ ⟨some 4, none, .mov (.i 0)⟩]) q59_2
def c_drawing_reader_line : LC := d_drawing_reader_line
theorem w_drawing_reader_line : Unf c_drawing_reader_line d_drawing_reader_line := fun _ _ _ _ _ => (rfl)
attribute [simp] e59_1 u59_1 e59_2 u59_2 d_drawing_reader_line w_drawing_reader_line
theorem k_drawing_reader_line : chkF Tryz.prog Tryz.f59 2 [(4, none)] c_drawing_reader_line = true := by kernel_rfl
/-- metrolab/drawing.index -/
def d_drawing_index : LC :=
  .seq (.region [ ⟨some 2, none, .box 2 (.t 0)⟩, ⟨some 3, none, .box 3 (.t 1)⟩, ⟨some 4, none, .mov (.i 0)⟩]) (.lift 3 (.seq (.region [ ⟨some 5, none, .fieldA 1 (.t 2)⟩, ⟨some 6, none, .load none (.t 5)⟩, ⟨some 7, none, .fn 117 [.t 3]⟩, ⟨some 8, none, .call 116 [.t 6, .t 7]⟩, ⟨some 4, none, .mov (.t 8)⟩]) .ret))
def c_drawing_index : LC := d_drawing_index
theorem w_drawing_index : Unf c_drawing_index d_drawing_index := fun _ _ _ _ _ => (rfl)
attribute [simp] d_drawing_index w_drawing_index
theorem k_drawing_index : chkF Tryz.prog Tryz.f62 2 [(4, none)] c_drawing_index = true := by kernel_rfl
/-- metrolab/drawing.own -/
def e73_1 : LC :=
  .draw [0, 1, 0, 0, 8, 0, 56, 120, 248, 504, 1023, 2047, 4095] [ ⟨some 14, none, .fieldA 8 (.t 1)⟩, ⟨some 15, none, .load none (.t 14)⟩, ⟨some 16, none, .mov (.t 3)⟩, ⟨some 17, none, .fieldA 8 (.t 1)⟩, ⟨some 18, none, .load none (.t 17)⟩, ⟨some 19, none, .mov (.t 3)⟩, ⟨some 20, none, .idxA 5 (.t 18) (.t 19)⟩, ⟨some 21, none, .fieldA 4 (.t 20)⟩, ⟨some 22, none, .load none (.t 21)⟩, ⟨some 23, none, .call 125 [.t 22]⟩, ⟨some 24, none, .idxA 5 (.t 15) (.t 16)⟩, ⟨some 25, none, .fieldA 4 (.t 24)⟩, ⟨none, none, .store 1 (.t 25) (.t 23)⟩]
def q73_1 : LC := e73_1
theorem u73_1 : Unf q73_1 e73_1 := fun _ _ _ _ _ => (rfl)
def e73_2 : LC :=
  .seq (.cond (.t 12) .skip (.exit 0)) (.keep [1, 2, 10, 11] [1, 2, 6] (.seq (.block 1 (.seq (.region [ ⟨some 13, none, .mov (.t 11)⟩, ⟨some 3, none, .mov (.t 13)⟩]) q73_1)) (.keep [1, 2, 10, 11] [1, 2, 6] (.tail [1, 2, 10, 11] [1, 2, 6] (.region [ ⟨some 26, none, .bin .add (.t 11) (.i 1)⟩, ⟨some 11, none, .mov (.t 26)⟩])))))
def q73_2 : LC := e73_2
theorem u73_2 : Unf q73_2 e73_2 := fun _ _ _ _ _ => (rfl)
def e73_3 : LC :=
  .seq (.seq (.region [ ⟨some 8, none, .fieldA 8 (.t 1)⟩, ⟨some 9, none, .load none (.t 8)⟩, ⟨some 10, none, .lenL (.t 9)⟩, ⟨some 11, none, .mov (.i 0)⟩]) (.block 0 (.keep [1, 2, 10, 11] [1, 2, 6] (.loop (.seq (.region [ ⟨some 12, none, .bin .lss (.t 11) (.t 10)⟩]) q73_2))))) (.seq (.region [ ⟨some 27, none, .load (some 9) (.t 1)⟩, ⟨none, none, .store 9 (.t 2) (.t 27)⟩]) .ret)
def q73_3 : LC := e73_3
theorem u73_3 : Unf q73_3 e73_3 := fun _ _ _ _ _ => (rfl)
def d_drawing_own : LC :=
  .seq (.region [ ⟨some 1, none, .box 1 (.t 0)⟩, ⟨some 2, none, .alloc 2 [.d (.str []), .d (.int .i64 0), .d (.int .i64 0), .d (.int .i64 0), .d (.int .i64 0), .d (.int .i64 0), .d (.int .i64 0), .d (.int .i64 0), .nils]⟩]) (.seq (.region [ ⟨some 4, none, .fieldA 8 (.t 1)⟩, ⟨some 5, none, .load none (.t 4)⟩, ⟨some 6, none, .cloneR 124 6 115 5 (.t 5)⟩, ⟨some 7, none, .fieldA 8 (.t 1)⟩, ⟨none, none, .store 1 (.t 7) (.t 6)⟩]) q73_3)
def c_drawing_own : LC := d_drawing_own
theorem w_drawing_own : Unf c_drawing_own d_drawing_own := fun _ _ _ _ _ => (rfl)
attribute [simp] e73_1 u73_1 e73_2 u73_2 e73_3 u73_3 d_drawing_own w_drawing_own
theorem k_drawing_own : chkF Tryz.prog Tryz.f73 1 [(2, some (some 9))] c_drawing_own = true := by kernel_rfl
/-- metrolab/metrolabref20.Index -/
def e74_1 : LC :=
  .seq (.block 1 (.seq (.region [ ⟨some 13, none, .fieldA 1 (.t 2)⟩, ⟨some 14, none, .load none (.t 13)⟩, ⟨some 15, none, .mov (.t 5)⟩, ⟨some 16, none, .idxA 9 (.t 14) (.t 15)⟩, ⟨some 17, none, .fieldA 0 (.t 16)⟩, ⟨some 18, none, .load none (.t 17)⟩, ⟨some 19, none, .mov (.t 1)⟩, ⟨some 20, none, .bin .eql (.t 18) (.t 19)⟩]) (.cond (.t 20) (.seq (.region [ ⟨some 21, none, .mov (.t 5)⟩, ⟨some 4, none, .mov (.t 21)⟩]) .ret) .skip))) (.keep [1, 2, 5] [2] (.tail [1, 2, 5] [2] (.region [ ⟨some 11, none, .mov (.t 5)⟩, ⟨some 12, none, .bin .add (.t 11) (.i 1)⟩, ⟨some 5, none, .mov (.t 12)⟩])))
def q74_1 : LC := e74_1
theorem u74_1 : Unf q74_1 e74_1 := fun _ _ _ _ _ => (rfl)
def e74_2 : LC :=
  .block 0 (.keep [1, 2, 5] [2] (.loop (.seq (.seq (.region [ ⟨some 6, none, .mov (.t 5)⟩, ⟨some 7, none, .fieldA 1 (.t 2)⟩, ⟨some 8, none, .load none (.t 7)⟩, ⟨some 9, none, .lenL (.t 8)⟩, ⟨some 10, none, .bin .lss (.t 6) (.t 9)⟩]) (.cond (.t 10) .skip (.exit 0))) q74_1)))
def q74_2 : LC := e74_2
theorem u74_2 : Unf q74_2 e74_2 := fun _ _ _ _ _ => (rfl)
def d_metrolabref20_Index : LC :=
  .seq (.region [ ⟨some 2, none, .box 2 (.t 0)⟩, ⟨some 4, none, .mov (.i 0)⟩]) (.seq (.seq (.region [ ⟨some 5, none, .mov (.i 0)⟩]) q74_2) (.seq (.region [ ⟨some 4, none, .mov (.i (-1))⟩]) .ret))
def c_metrolabref20_Index : LC := d_metrolabref20_Index
theorem w_metrolabref20_Index : Unf c_metrolabref20_Index d_metrolabref20_Index := fun _ _ _ _ _ => (rfl)
attribute [simp] e74_1 u74_1 e74_2 u74_2 d_metrolabref20_Index w_metrolabref20_Index
theorem k_metrolabref20_Index : chkF Tryz.prog Tryz.f74 2 [(4, none)] c_metrolabref20_Index = true := by kernel_rfl
/-- metrolab/drawing.distance -/
def e75_1 : LC :=
  .seq (.region [ ⟨some 35, none, .fieldA 1 (.t 4)⟩, ⟨some 36, none, .load none (.t 35)⟩, ⟨some 37, none, .mov (.t 13)⟩, ⟨some 38, none, .idxA 9 (.t 36) (.t 37)⟩, ⟨some 39, none, .load (some 9) (.t 38)⟩, ⟨some 40, none, .mov (.t 3)⟩, ⟨some 41, none, .call 126 [.t 39, .t 40]⟩, ⟨some 34, none, .mov (.t 41)⟩, ⟨some 42, none, .ext (.t 34) 0⟩, ⟨some 43, none, .ext (.t 34) 1⟩, ⟨some 14, none, .alloc 14 [.d (.int .i64 0), .d (.int .i64 0)]⟩, ⟨none, none, .store 2 (.t 14) (.t 42)⟩, ⟨some 15, none, .mov (.t 43)⟩]) (.seq (.region [ ⟨some 44, none, .mov (.t 15)⟩, ⟨some 45, none, .bin .eql (.t 44) (.i 14)⟩]) (.cond (.t 45) (.seq (.region [ ⟨some 8, none, .mov (.i 0)⟩, ⟨some 9, none, .mov (.i 14)⟩]) .ret) .skip))
def q75_1 : LC := e75_1
theorem u75_1 : Unf q75_1 e75_1 := fun _ _ _ _ _ => (rfl)
def e75_2 : LC :=
  .keep [3, 4, 10, 11, 30, 31] [4] (.seq (.block 1 (.seq (.region [ ⟨some 33, none, .idx 2 1 none (.t 30) (.t 31)⟩, ⟨some 13, none, .mov (.t 33)⟩]) q75_1)) (.keep [3, 4, 10, 11, 30, 31] [4] (.tail [3, 4, 10, 11, 30, 31] [4] (.region [ ⟨some 46, none, .bin .add (.t 31) (.i 1)⟩, ⟨some 31, none, .mov (.t 46)⟩]))))
def q75_2 : LC := e75_2
theorem u75_2 : Unf q75_2 e75_2 := fun _ _ _ _ _ => (rfl)
def e75_3 : LC :=
  .seq (.draw [0, 1, 0, 7, 15, 31, 0, 127, 0, 256, 0, 1792, 3840, 7936, 0, 32767, 65535, 131071, 262143] [ ⟨some 47, none, .fieldA 1 (.t 4)⟩, ⟨some 48, none, .load none (.t 47)⟩, ⟨some 49, none, .mov (.t 11)⟩, ⟨some 50, none, .idxA 9 (.t 48) (.t 49)⟩, ⟨some 51, none, .fieldA 3 (.t 50)⟩, ⟨some 52, none, .load (some 3) (.t 51)⟩, ⟨some 53, none, .mov (.t 3)⟩, ⟨some 54, none, .call 127 [.t 52, .t 53]⟩, ⟨some 55, none, .fieldA 1 (.t 4)⟩, ⟨some 56, none, .load none (.t 55)⟩, ⟨some 57, none, .mov (.t 10)⟩, ⟨some 58, none, .idxA 9 (.t 56) (.t 57)⟩, ⟨some 59, none, .fieldA 3 (.t 58)⟩, ⟨some 60, none, .load (some 3) (.t 59)⟩, ⟨some 61, none, .mov (.t 3)⟩, ⟨some 62, none, .call 127 [.t 60, .t 61]⟩, ⟨some 63, none, .bin .sub (.t 54) (.t 62)⟩, ⟨some 8, none, .mov (.t 63)⟩, ⟨some 9, none, .mov (.i 0)⟩]) .ret
def q75_3 : LC := e75_3
theorem u75_3 : Unf q75_3 e75_3 := fun _ _ _ _ _ => (rfl)
def e75_4 : LC :=
  .seq (.seq (.region [ ⟨some 28, none, .mov (.t 10)⟩, ⟨some 29, none, .mov (.t 11)⟩, ⟨some 30, none, .build [.d (.int .i64 0), .d (.int .i64 0)] [(0, 1, .t 28), (1, 1, .t 29)]⟩, ⟨some 31, none, .mov (.i 0)⟩]) (.block 0 (.keep [3, 4, 10, 11, 30, 31] [4] (.loop (.seq (.region [ ⟨some 32, none, .bin .lss (.t 31) (.i 2)⟩]) (.seq (.cond (.t 32) .skip (.exit 0)) q75_2)))))) q75_3
def q75_4 : LC := e75_4
theorem u75_4 : Unf q75_4 e75_4 := fun _ _ _ _ _ => (rfl)
def e75_5 : LC :=
  .seq (.seq (.region [ ⟨some 22, none, .mov (.t 10)⟩, ⟨some 23, none, .bin .lss (.t 22) (.i 0)⟩, ⟨some 24, none, .mov (.t 23)⟩, ⟨some 25, some (24, false), .mov (.t 11)⟩, ⟨some 26, some (24, false), .bin .lss (.t 25) (.i 0)⟩, ⟨some 27, none, .pick (.t 24) (.b true) (.t 26)⟩]) (.cond (.t 27) (.seq (.region [ ⟨some 8, none, .mov (.i 0)⟩, ⟨some 9, none, .mov (.i 6)⟩]) .ret) .skip)) q75_4
def q75_5 : LC := e75_5
theorem u75_5 : Unf q75_5 e75_5 := fun _ _ _ _ _ => (rfl)
def e75_6 : LC :=
  .seq (.draw [0, 0, 3, 0, 0, 31, 63, 127] [ ⟨some 16, none, .load (some 3) (.t 4)⟩, ⟨some 17, none, .mov (.t 1)⟩, ⟨some 18, none, .call 62 [.t 16, .t 17]⟩, ⟨some 19, none, .load (some 3) (.t 4)⟩, ⟨some 20, none, .mov (.t 2)⟩, ⟨some 21, none, .call 62 [.t 19, .t 20]⟩, ⟨some 10, none, .mov (.t 18)⟩, ⟨some 11, none, .mov (.t 21)⟩]) q75_5
def q75_6 : LC := e75_6
theorem u75_6 : Unf q75_6 e75_6 := fun _ _ _ _ _ => (rfl)
def d_drawing_distance : LC :=
  .seq (.region [ ⟨some 4, none, .box 4 (.t 0)⟩, ⟨some 8, none, .mov (.i 0)⟩, ⟨some 9, none, .mov (.i 0)⟩]) q75_6
def c_drawing_distance : LC := d_drawing_distance
theorem w_drawing_distance : Unf c_drawing_distance d_drawing_distance := fun _ _ _ _ _ => (rfl)
attribute [simp] e75_1 u75_1 e75_2 u75_2 e75_3 u75_3 e75_4 u75_4 e75_5 u75_5 e75_6 u75_6 d_drawing_distance w_drawing_distance
theorem k_drawing_distance : chkF Tryz.prog Tryz.f75 4 [(8, none), (9, none)] c_drawing_distance = true := by kernel_rfl
/-- metrolab/metrolabref20.distance -/
def e77_1 : LC :=
  .seq (.draw [0, 1, 3, 0, 15, 0, 32, 103, 0, 487, 1023, 2047, 4095] [ ⟨some 46, none, .fieldA 3 (.t 13)⟩, ⟨some 47, none, .load (some 3) (.t 46)⟩, ⟨some 48, none, .call 129 [.t 47]⟩, ⟨some 49, none, .mov (.t 3)⟩, ⟨some 50, none, .idx 3 1 none (.t 48) (.t 49)⟩, ⟨some 51, none, .fieldA 3 (.t 12)⟩, ⟨some 52, none, .load (some 3) (.t 51)⟩, ⟨some 53, none, .call 129 [.t 52]⟩, ⟨some 54, none, .mov (.t 3)⟩, ⟨some 55, none, .idx 3 1 none (.t 53) (.t 54)⟩, ⟨some 56, none, .bin .sub (.t 50) (.t 55)⟩, ⟨some 8, none, .mov (.t 56)⟩, ⟨some 9, none, .mov (.i 0)⟩]) .ret
def q77_1 : LC := e77_1
theorem u77_1 : Unf q77_1 e77_1 := fun _ _ _ _ _ => (rfl)
def e77_2 : LC :=
  .seq (.seq (.region [ ⟨some 36, none, .load (some 9) (.t 12)⟩, ⟨some 37, none, .mov (.t 3)⟩, ⟨some 38, none, .call 128 [.t 36, .t 37]⟩, ⟨some 39, none, .not (.t 38)⟩, ⟨some 40, none, .mov (.t 39)⟩, ⟨some 41, some (40, false), .load (some 9) (.t 13)⟩, ⟨some 42, some (40, false), .mov (.t 3)⟩, ⟨some 43, some (40, false), .call 128 [.t 41, .t 42]⟩, ⟨some 44, some (40, false), .not (.t 43)⟩, ⟨some 45, none, .pick (.t 40) (.b true) (.t 44)⟩]) (.cond (.t 45) (.seq (.region [ ⟨some 8, none, .mov (.i 0)⟩, ⟨some 9, none, .mov (.i 14)⟩]) .ret) .skip)) q77_1
def q77_2 : LC := e77_2
theorem u77_2 : Unf q77_2 e77_2 := fun _ _ _ _ _ => (rfl)
def e77_3 : LC :=
  .seq (.draw [0, 1, 0, 7, 15, 0, 32, 0, 224, 480, 0, 0, 3103, 8191] [ ⟨some 26, none, .fieldA 1 (.t 4)⟩, ⟨some 27, none, .load none (.t 26)⟩, ⟨some 28, none, .mov (.t 10)⟩, ⟨some 29, none, .idxA 9 (.t 27) (.t 28)⟩, ⟨some 30, none, .load (some 9) (.t 29)⟩, ⟨some 31, none, .fieldA 1 (.t 4)⟩, ⟨some 32, none, .load none (.t 31)⟩, ⟨some 33, none, .mov (.t 11)⟩, ⟨some 34, none, .idxA 9 (.t 32) (.t 33)⟩, ⟨some 35, none, .load (some 9) (.t 34)⟩, ⟨some 12, none, .alloc 12 [.d (.str []), .d (.int .i64 0), .d (.int .i64 0), .d (.int .i64 0), .d (.int .i64 0), .d (.int .i64 0), .d (.int .i64 0), .d (.int .i64 0), .nils]⟩, ⟨some 13, none, .alloc 13 [.d (.str []), .d (.int .i64 0), .d (.int .i64 0), .d (.int .i64 0), .d (.int .i64 0), .d (.int .i64 0), .d (.int .i64 0), .d (.int .i64 0), .nils]⟩, ⟨none, none, .store 9 (.t 12) (.t 30)⟩, ⟨none, none, .store 9 (.t 13) (.t 35)⟩]) q77_2
def q77_3 : LC := e77_3
theorem u77_3 : Unf q77_3 e77_3 := fun _ _ _ _ _ => (rfl)
def e77_4 : LC :=
  .seq (.seq (.region [ ⟨some 20, none, .mov (.t 10)⟩, ⟨some 21, none, .bin .lss (.t 20) (.i 0)⟩, ⟨some 22, none, .mov (.t 21)⟩, ⟨some 23, some (22, false), .mov (.t 11)⟩, ⟨some 24, some (22, false), .bin .lss (.t 23) (.i 0)⟩, ⟨some 25, none, .pick (.t 22) (.b true) (.t 24)⟩]) (.cond (.t 25) (.seq (.region [ ⟨some 8, none, .mov (.i 0)⟩, ⟨some 9, none, .mov (.i 6)⟩]) .ret) .skip)) q77_3
def q77_4 : LC := e77_4
theorem u77_4 : Unf q77_4 e77_4 := fun _ _ _ _ _ => (rfl)
def e77_5 : LC :=
  .seq (.draw [0, 0, 3, 0, 0, 31, 63, 127] [ ⟨some 14, none, .load (some 3) (.t 4)⟩, ⟨some 15, none, .mov (.t 1)⟩, ⟨some 16, none, .call 74 [.t 14, .t 15]⟩, ⟨some 17, none, .load (some 3) (.t 4)⟩, ⟨some 18, none, .mov (.t 2)⟩, ⟨some 19, none, .call 74 [.t 17, .t 18]⟩, ⟨some 10, none, .mov (.t 16)⟩, ⟨some 11, none, .mov (.t 19)⟩]) q77_4
def q77_5 : LC := e77_5
theorem u77_5 : Unf q77_5 e77_5 := fun _ _ _ _ _ => (rfl)
def d_metrolabref20_distance : LC :=
  .seq (.region [ ⟨some 4, none, .box 4 (.t 0)⟩, ⟨some 8, none, .mov (.i 0)⟩, ⟨some 9, none, .mov (.i 0)⟩]) q77_5
def c_metrolabref20_distance : LC := d_metrolabref20_distance
theorem w_metrolabref20_distance : Unf c_metrolabref20_distance d_metrolabref20_distance := fun _ _ _ _ _ => (rfl)
attribute [simp] e77_1 u77_1 e77_2 u77_2 e77_3 u77_3 e77_4 u77_4 e77_5 u77_5 d_metrolabref20_distance w_metrolabref20_distance
theorem k_metrolabref20_distance : chkF Tryz.prog Tryz.f77 4 [(8, none), (9, none)] c_metrolabref20_distance = true := by kernel_rfl
/-- metrolab/drawing.with -/
def e80_1 : LC :=
  .seq (.draw [0, 1, 3, 0, 0, 16, 63, 127, 255] [ ⟨some 15, none, .fieldA 1 (.t 2)⟩, ⟨some 16, none, .load none (.t 15)⟩, ⟨some 17, none, .cloneR 135 17 49 9 (.t 16)⟩, ⟨some 18, none, .mov (.t 5)⟩, ⟨some 19, none, .load (some 9) (.t 3)⟩, ⟨some 20, none, .buildS 20 49 9 1 [(0, 9, .t 19)]⟩, ⟨some 21, none, .insR 134 49 9 (.t 17) (.t 18) (.t 20)⟩, ⟨some 22, none, .fieldA 1 (.t 2)⟩, ⟨none, none, .store 1 (.t 22) (.t 21)⟩]) (.seq (.region [ ⟨some 23, none, .load (some 3) (.t 2)⟩, ⟨none, none, .store 3 (.t 4) (.t 23)⟩]) .ret)
def q80_1 : LC := e80_1
theorem u80_1 : Unf q80_1 e80_1 := fun _ _ _ _ _ => (rfl)
def e80_2 : LC :=
  .seq (.region [ ⟨some 8, none, .fieldA 1 (.t 2)⟩, ⟨some 9, none, .load none (.t 8)⟩, ⟨some 10, none, .fieldA 0 (.t 3)⟩, ⟨some 11, none, .load none (.t 10)⟩, ⟨some 12, none, .callF 131 [.t 9, .t 11, .c (.at (.d (.fn 132 [])))]⟩, ⟨some 7, none, .mov (.t 12)⟩, ⟨some 13, none, .ext (.t 7) 0⟩, ⟨some 14, none, .ext (.t 7) 1⟩, ⟨some 5, none, .mov (.t 13)⟩, ⟨some 6, none, .mov (.t 14)⟩]) q80_1
def q80_2 : LC := e80_2
theorem u80_2 : Unf q80_2 e80_2 := fun _ _ _ _ _ => (rfl)
def d_drawing_with : LC :=
  .seq (.region [ ⟨some 2, none, .box 2 (.t 0)⟩, ⟨some 3, none, .box 3 (.t 1)⟩, ⟨some 4, none, .alloc 4 [.d (.str []), .nils, .nils]⟩]) q80_2
def c_drawing_with : LC := d_drawing_with
theorem w_drawing_with : Unf c_drawing_with d_drawing_with := fun _ _ _ _ _ => (rfl)
attribute [simp] e80_1 u80_1 e80_2 u80_2 d_drawing_with w_drawing_with
theorem k_drawing_with : chkF Tryz.prog Tryz.f80 2 [(4, some (some 3))] c_drawing_with = true := by kernel_rfl
/-- metrolab/drawing.Remove.1 -/
def e82_1 : LC :=
  .seq (.region [ ⟨some 4, none, .fieldA 0 (.t 2)⟩, ⟨some 5, none, .load none (.t 4)⟩, ⟨some 6, none, .load none (.t 1)⟩, ⟨some 7, none, .bin .eql (.t 5) (.t 6)⟩, ⟨some 8, none, .mov (.t 7)⟩, ⟨some 9, some (8, false), .fieldA 1 (.t 2)⟩, ⟨some 10, some (8, false), .load none (.t 9)⟩, ⟨some 11, some (8, false), .load none (.t 1)⟩, ⟨some 12, some (8, false), .bin .eql (.t 10) (.t 11)⟩, ⟨some 13, none, .pick (.t 8) (.b true) (.t 12)⟩, ⟨some 3, none, .mov (.t 13)⟩]) .ret
def q82_1 : LC := e82_1
theorem u82_1 : Unf q82_1 e82_1 := fun _ _ _ _ _ => (rfl)
def d_drawing_Remove_1 : LC :=
  .seq (.region [ ⟨some 2, none, .box 2 (.t 0)⟩, ⟨some 3, none, .mov (.b false)⟩]) q82_1
def c_drawing_Remove_1 : LC := d_drawing_Remove_1
theorem w_drawing_Remove_1 : Unf c_drawing_Remove_1 d_drawing_Remove_1 := fun _ _ _ _ _ => (rfl)
attribute [simp] e82_1 u82_1 d_drawing_Remove_1 w_drawing_Remove_1
theorem k_drawing_Remove_1 : chkF Tryz.prog Tryz.f82 2 [(3, none)] c_drawing_Remove_1 = true := by kernel_rfl
/-- metrolab/drawing.named -/
def e87_1 : LC :=
  .keep [3, 9, 10, 11, 16, 17, 18] [1003] (.seq (.block 3 (.seq (.region [ ⟨some 20, none, .idxA 2 (.t 16) (.t 18)⟩, ⟨some 21, none, .load (some 2) (.t 20)⟩, ⟨some 7, none, .alloc 7 [.d (.str []), .d (.int .i64 0)]⟩, ⟨none, none, .store 2 (.t 7) (.t 21)⟩]) (.region [ ⟨some 22, none, .mov (.t 3)⟩, ⟨some 23, none, .fieldA 0 (.t 7)⟩, ⟨some 24, none, .load none (.t 23)⟩, ⟨some 25, none, .buildS 25 9 1 1 [(0, 1, .t 24)]⟩, ⟨some 26, none, .append 9 1 (.t 22) (.t 25)⟩, ⟨some 3, none, .mov (.t 26)⟩]))) (.keep [3, 9, 10, 11, 16, 17, 18] [1003] (.tail [3, 9, 10, 11, 16, 17, 18] [1003] (.region [ ⟨some 27, none, .bin .add (.t 18) (.i 1)⟩, ⟨some 18, none, .mov (.t 27)⟩]))))
def q87_1 : LC := e87_1
theorem u87_1 : Unf q87_1 e87_1 := fun _ _ _ _ _ => (rfl)
def e87_2 : LC :=
  .seq (.region [ ⟨some 15, none, .fieldA 4 (.t 5)⟩, ⟨some 16, none, .load none (.t 15)⟩, ⟨some 17, none, .lenL (.t 16)⟩, ⟨some 18, none, .mov (.i 0)⟩]) (.block 2 (.keep [3, 9, 10, 11, 16, 17, 18] [1003] (.loop (.seq (.region [ ⟨some 19, none, .bin .lss (.t 18) (.t 17)⟩]) (.seq (.cond (.t 19) .skip (.exit 2)) q87_1)))))
def q87_2 : LC := e87_2
theorem u87_2 : Unf q87_2 e87_2 := fun _ _ _ _ _ => (rfl)
def e87_3 : LC :=
  .keep [3, 9, 10, 11] [1003] (.seq (.block 1 (.seq (.region [ ⟨some 13, none, .idxA 5 (.t 9) (.t 11)⟩, ⟨some 14, none, .load (some 5) (.t 13)⟩, ⟨some 5, none, .alloc 5 [.d (.int .i64 0), .d (.bool false), .d (.int .i64 0), .d (.int .i64 0), .nils]⟩, ⟨none, none, .store 5 (.t 5) (.t 14)⟩]) q87_2)) (.keep [3, 9, 10, 11] [1003] (.tail [3, 9, 10, 11] [1003] (.region [ ⟨some 28, none, .bin .add (.t 11) (.i 1)⟩, ⟨some 11, none, .mov (.t 28)⟩]))))
def q87_3 : LC := e87_3
theorem u87_3 : Unf q87_3 e87_3 := fun _ _ _ _ _ => (rfl)
def e87_4 : LC :=
  .own 3 1003 9 1 (.seq (.seq (.region [ ⟨some 8, none, .fieldA 8 (.t 1)⟩, ⟨some 9, none, .load none (.t 8)⟩, ⟨some 10, none, .lenL (.t 9)⟩, ⟨some 11, none, .mov (.i 0)⟩]) (.block 0 (.keep [3, 9, 10, 11] [1003] (.loop (.seq (.region [ ⟨some 12, none, .bin .lss (.t 11) (.t 10)⟩]) (.seq (.cond (.t 12) .skip (.exit 0)) q87_3)))))) (.seq (.region [ ⟨some 29, none, .mov (.t 3)⟩, ⟨some 2, none, .mov (.t 29)⟩]) (.lift 2 .ret)))
def q87_4 : LC := e87_4
theorem u87_4 : Unf q87_4 e87_4 := fun _ _ _ _ _ => (rfl)
def d_drawing_named : LC :=
  .seq (.region [ ⟨some 1, none, .box 1 (.t 0)⟩, ⟨some 2, none, .mov (.c (.at (.nils)))⟩]) (.lift 2 (.seq (.region [ ⟨some 3, none, .mov (.c (.at (.nils)))⟩]) q87_4))
def c_drawing_named : LC := d_drawing_named
theorem w_drawing_named : Unf c_drawing_named d_drawing_named := fun _ _ _ _ _ => (rfl)
attribute [simp] e87_1 u87_1 e87_2 u87_2 e87_3 u87_3 e87_4 u87_4 d_drawing_named w_drawing_named
theorem k_drawing_named : chkF Tryz.prog Tryz.f87 1 [(2, none)] c_drawing_named = true := by kernel_rfl
/-- metrolab/drawing.sorted -/
def d_drawing_sorted : LC :=
  .seq (.region [ ⟨some 2, none, .mov (.c (.at (.nils)))⟩]) (.seq (.region [ ⟨some 3, none, .mov (.t 0)⟩, ⟨some 4, none, .callD 141 [.t 3]⟩]) (.seq (.region [ ⟨some 5, none, .mov (.t 0)⟩, ⟨some 6, none, .callD 142 [.t 5]⟩, ⟨some 2, none, .mov (.t 6)⟩]) .ret))
def c_drawing_sorted : LC := d_drawing_sorted
theorem w_drawing_sorted : Unf c_drawing_sorted d_drawing_sorted := fun _ _ _ _ _ => (rfl)
attribute [simp] d_drawing_sorted w_drawing_sorted
theorem k_drawing_sorted : chkF Tryz.prog Tryz.f88 1 [(2, none)] c_drawing_sorted = true := by kernel_rfl
/-- metrolab/drawing.needs.1 -/
def e94_1 : LC :=
  .seq (.region [ ⟨some 20, none, .load none (.t 2)⟩, ⟨some 21, none, .mov (.t 6)⟩, ⟨some 22, none, .lookup false (.d (.bool false)) (.t 20) (.t 21)⟩, ⟨some 23, none, .not (.t 22)⟩]) (.cond (.t 23) (.seq (.region [ ⟨some 24, none, .load none (.t 2)⟩, ⟨some 25, none, .mov (.t 6)⟩, ⟨none, none, .mapUpd (.t 24) (.t 25) (.b true)⟩]) (.region [ ⟨some 26, none, .load none (.t 3)⟩, ⟨some 27, none, .mov (.t 6)⟩, ⟨some 28, none, .callvD (.t 26) [.t 27]⟩])) .skip)
def q94_1 : LC := e94_1
theorem u94_1 : Unf q94_1 e94_1 := fun _ _ _ _ _ => (rfl)
def e94_2 : LC :=
  .seq (.cond (.t 17) .skip (.exit 0)) (.seq (.block 1 (.seq (.region [ ⟨some 18, none, .idxA 1 (.t 14) (.t 16)⟩, ⟨some 19, none, .load none (.t 18)⟩, ⟨some 6, none, .mov (.t 19)⟩]) q94_1)) (.tailW [] (.region [ ⟨some 29, none, .bin .add (.t 16) (.i 1)⟩, ⟨some 16, none, .mov (.t 29)⟩])))
def q94_2 : LC := e94_2
theorem u94_2 : Unf q94_2 e94_2 := fun _ _ _ _ _ => (rfl)
def d_drawing_needs_1 : LC :=
  .seq (.draw [0, 1, 0, 0, 12, 31, 63, 127, 255, 0] [ ⟨some 7, none, .fieldA 1 (.t 1)⟩, ⟨some 8, none, .load none (.t 7)⟩, ⟨some 9, none, .load (some 3) (.t 1)⟩, ⟨some 10, none, .mov (.t 0)⟩, ⟨some 11, none, .call 62 [.t 9, .t 10]⟩, ⟨some 12, none, .idxA 9 (.t 8) (.t 11)⟩, ⟨some 13, none, .load (some 9) (.t 12)⟩, ⟨some 14, none, .call 87 [.t 13]⟩, ⟨some 15, none, .lenL (.t 14)⟩, ⟨some 16, none, .mov (.i 0)⟩]) (.block 0 (.weak [] (.loop (.seq (.region [ ⟨some 17, none, .bin .lss (.t 16) (.t 15)⟩]) q94_2))))
def c_drawing_needs_1 : LC := d_drawing_needs_1
theorem w_drawing_needs_1 : Unf c_drawing_needs_1 d_drawing_needs_1 := fun _ _ _ _ _ => (rfl)
attribute [simp] e94_1 u94_1 e94_2 u94_2 d_drawing_needs_1 w_drawing_needs_1
theorem k_drawing_needs_1 : chkF Tryz.prog Tryz.f94 4 [] c_drawing_needs_1 = true := by kernel_rfl
/-- metrolab/drawing.order -/
def e96_1 : LC :=
  .seq (.draw [0, 1, 0, 4, 15, 0, 32, 0, 128, 511, 0, 1024, 0, 4096, 16383, 0, 32768, 98304, 0, 262144, 786432, 2097151, 0, 4194304, 12582912, 0, 33554432, 100663296, 268435455, 536870911, 1073741823, 2147483647] [ ⟨some 5, none, .fieldA 0 (.t 2)⟩, ⟨some 6, none, .load none (.t 5)⟩, ⟨some 7, none, .fieldA 0 (.t 3)⟩, ⟨some 8, none, .load none (.t 7)⟩, ⟨some 9, none, .call 148 [.t 6, .t 8]⟩, ⟨some 10, none, .fieldA 1 (.t 2)⟩, ⟨some 11, none, .load none (.t 10)⟩, ⟨some 12, none, .fieldA 1 (.t 3)⟩, ⟨some 13, none, .load none (.t 12)⟩, ⟨some 14, none, .call 148 [.t 11, .t 13]⟩, ⟨some 15, none, .fieldA 2 (.t 2)⟩, ⟨some 16, none, .load none (.t 15)⟩, ⟨some 17, none, .fieldA 2 (.t 3)⟩, ⟨some 18, none, .load none (.t 17)⟩, ⟨some 19, none, .call 149 [.t 16, .t 18]⟩, ⟨some 20, none, .fieldA 3 (.t 2)⟩, ⟨some 21, none, .fieldA 0 (.t 20)⟩, ⟨some 22, none, .load none (.t 21)⟩, ⟨some 23, none, .fieldA 3 (.t 3)⟩, ⟨some 24, none, .fieldA 0 (.t 23)⟩, ⟨some 25, none, .load none (.t 24)⟩, ⟨some 26, none, .call 149 [.t 22, .t 25]⟩, ⟨some 27, none, .fieldA 3 (.t 2)⟩, ⟨some 28, none, .fieldA 1 (.t 27)⟩, ⟨some 29, none, .load none (.t 28)⟩, ⟨some 30, none, .fieldA 3 (.t 3)⟩, ⟨some 31, none, .fieldA 1 (.t 30)⟩, ⟨some 32, none, .load none (.t 31)⟩, ⟨some 33, none, .call 149 [.t 29, .t 32]⟩, ⟨some 34, none, .buildS 34 3 1 5 [(0, 1, .t 9), (1, 1, .t 14), (2, 1, .t 19), (3, 1, .t 26), (4, 1, .t 33)]⟩, ⟨some 35, none, .call 147 [.t 34]⟩, ⟨some 4, none, .mov (.t 35)⟩]) .ret
def q96_1 : LC := e96_1
theorem u96_1 : Unf q96_1 e96_1 := fun _ _ _ _ _ => (rfl)
def d_drawing_order : LC :=
  .seq (.region [ ⟨some 2, none, .box 2 (.t 0)⟩, ⟨some 3, none, .box 3 (.t 1)⟩, ⟨some 4, none, .mov (.i 0)⟩]) q96_1
def c_drawing_order : LC := d_drawing_order
theorem w_drawing_order : Unf c_drawing_order d_drawing_order := fun _ _ _ _ _ => (rfl)
attribute [simp] e96_1 u96_1 d_drawing_order w_drawing_order
theorem k_drawing_order : chkF Tryz.prog Tryz.f96 2 [(4, none)] c_drawing_order = true := by kernel_rfl
/-- metrolab/metrolabref20.Before -/
def e100_1 : LC :=
  .cond (.t 41) (.seq (.region [ ⟨some 42, none, .fieldA 3 (.t 2)⟩, ⟨some 43, none, .fieldA 0 (.t 42)⟩, ⟨some 44, none, .load none (.t 43)⟩, ⟨some 45, none, .fieldA 3 (.t 3)⟩, ⟨some 46, none, .fieldA 0 (.t 45)⟩, ⟨some 47, none, .load none (.t 46)⟩, ⟨some 48, none, .bin .lss (.t 44) (.t 47)⟩, ⟨some 4, none, .mov (.t 48)⟩]) .ret) .skip
def q100_1 : LC := e100_1
theorem u100_1 : Unf q100_1 e100_1 := fun _ _ _ _ _ => (rfl)
def e100_2 : LC :=
  .seq (.seq (.region [ ⟨some 35, none, .fieldA 3 (.t 2)⟩, ⟨some 36, none, .fieldA 0 (.t 35)⟩, ⟨some 37, none, .load none (.t 36)⟩, ⟨some 38, none, .fieldA 3 (.t 3)⟩, ⟨some 39, none, .fieldA 0 (.t 38)⟩, ⟨some 40, none, .load none (.t 39)⟩, ⟨some 41, none, .bin .neq (.t 37) (.t 40)⟩]) q100_1) (.seq (.region [ ⟨some 49, none, .fieldA 3 (.t 2)⟩, ⟨some 50, none, .fieldA 1 (.t 49)⟩, ⟨some 51, none, .load none (.t 50)⟩, ⟨some 52, none, .fieldA 3 (.t 3)⟩, ⟨some 53, none, .fieldA 1 (.t 52)⟩, ⟨some 54, none, .load none (.t 53)⟩, ⟨some 55, none, .bin .lss (.t 51) (.t 54)⟩, ⟨some 4, none, .mov (.t 55)⟩]) .ret)
def q100_2 : LC := e100_2
theorem u100_2 : Unf q100_2 e100_2 := fun _ _ _ _ _ => (rfl)
def e100_3 : LC :=
  .seq (.seq (.region [ ⟨some 25, none, .fieldA 2 (.t 2)⟩, ⟨some 26, none, .load none (.t 25)⟩, ⟨some 27, none, .fieldA 2 (.t 3)⟩, ⟨some 28, none, .load none (.t 27)⟩, ⟨some 29, none, .bin .neq (.t 26) (.t 28)⟩]) (.cond (.t 29) (.seq (.region [ ⟨some 30, none, .fieldA 2 (.t 2)⟩, ⟨some 31, none, .load none (.t 30)⟩, ⟨some 32, none, .fieldA 2 (.t 3)⟩, ⟨some 33, none, .load none (.t 32)⟩, ⟨some 34, none, .bin .lss (.t 31) (.t 33)⟩, ⟨some 4, none, .mov (.t 34)⟩]) .ret) .skip)) q100_2
def q100_3 : LC := e100_3
theorem u100_3 : Unf q100_3 e100_3 := fun _ _ _ _ _ => (rfl)
def e100_4 : LC :=
  .seq (.seq (.region [ ⟨some 15, none, .fieldA 1 (.t 2)⟩, ⟨some 16, none, .load none (.t 15)⟩, ⟨some 17, none, .fieldA 1 (.t 3)⟩, ⟨some 18, none, .load none (.t 17)⟩, ⟨some 19, none, .bin .neq (.t 16) (.t 18)⟩]) (.cond (.t 19) (.seq (.region [ ⟨some 20, none, .fieldA 1 (.t 2)⟩, ⟨some 21, none, .load none (.t 20)⟩, ⟨some 22, none, .fieldA 1 (.t 3)⟩, ⟨some 23, none, .load none (.t 22)⟩, ⟨some 24, none, .bin .lss (.t 21) (.t 23)⟩, ⟨some 4, none, .mov (.t 24)⟩]) .ret) .skip)) q100_3
def q100_4 : LC := e100_4
theorem u100_4 : Unf q100_4 e100_4 := fun _ _ _ _ _ => (rfl)
def e100_5 : LC :=
  .seq (.seq (.region [ ⟨some 5, none, .fieldA 0 (.t 2)⟩, ⟨some 6, none, .load none (.t 5)⟩, ⟨some 7, none, .fieldA 0 (.t 3)⟩, ⟨some 8, none, .load none (.t 7)⟩, ⟨some 9, none, .bin .neq (.t 6) (.t 8)⟩]) (.cond (.t 9) (.seq (.region [ ⟨some 10, none, .fieldA 0 (.t 2)⟩, ⟨some 11, none, .load none (.t 10)⟩, ⟨some 12, none, .fieldA 0 (.t 3)⟩, ⟨some 13, none, .load none (.t 12)⟩, ⟨some 14, none, .bin .lss (.t 11) (.t 13)⟩, ⟨some 4, none, .mov (.t 14)⟩]) .ret) .skip)) q100_4
def q100_5 : LC := e100_5
theorem u100_5 : Unf q100_5 e100_5 := fun _ _ _ _ _ => (rfl)
def d_metrolabref20_Before : LC :=
  .seq (.region [ ⟨some 2, none, .box 2 (.t 0)⟩, ⟨some 3, none, .box 3 (.t 1)⟩, ⟨some 4, none, .mov (.b false)⟩]) q100_5
def c_metrolabref20_Before : LC := d_metrolabref20_Before
theorem w_metrolabref20_Before : Unf c_metrolabref20_Before d_metrolabref20_Before := fun _ _ _ _ _ => (rfl)
attribute [simp] e100_1 u100_1 e100_2 u100_2 e100_3 u100_3 e100_4 u100_4 e100_5 u100_5 d_metrolabref20_Before w_metrolabref20_Before
theorem k_metrolabref20_Before : chkF Tryz.prog Tryz.f100 2 [(4, none)] c_metrolabref20_Before = true := by kernel_rfl
/-- metrolab/drawing.kinds -/
def d_drawing_kinds : LC :=
  .seq (.region [ ⟨some 2, none, .mov (.i 0)⟩]) (.seq (.region [ ⟨some 3, none, .buildS 3 9 1 5 [(0, 1, .s [112, 108, 97, 110, 101]), (1, 1, .s [104, 111, 108, 101]), (2, 1, .s [112, 105, 110]), (3, 1, .s [115, 108, 111, 116]), (4, 1, .s [98, 97, 108, 108])]⟩, ⟨some 4, none, .mov (.t 0)⟩, ⟨some 5, none, .call 63 [.t 3, .t 4]⟩, ⟨some 2, none, .mov (.t 5)⟩]) .ret)
def c_drawing_kinds : LC := d_drawing_kinds
theorem w_drawing_kinds : Unf c_drawing_kinds d_drawing_kinds := fun _ _ _ _ _ => (rfl)
attribute [simp] d_drawing_kinds w_drawing_kinds
theorem k_drawing_kinds : chkF Tryz.prog Tryz.f102 1 [(2, none)] c_drawing_kinds = true := by kernel_rfl
/-- metrolab/drawing.axes -/
def d_drawing_axes : LC :=
  .seq (.region [ ⟨some 2, none, .mov (.i 0)⟩]) (.seq (.region [ ⟨some 3, none, .buildS 3 9 1 3 [(0, 1, .s [120]), (1, 1, .s [121]), (2, 1, .s [122])]⟩, ⟨some 4, none, .mov (.t 0)⟩, ⟨some 5, none, .call 63 [.t 3, .t 4]⟩, ⟨some 2, none, .mov (.t 5)⟩]) .ret)
def c_drawing_axes : LC := d_drawing_axes
theorem w_drawing_axes : Unf c_drawing_axes d_drawing_axes := fun _ _ _ _ _ => (rfl)
attribute [simp] d_drawing_axes w_drawing_axes
theorem k_drawing_axes : chkF Tryz.prog Tryz.f103 1 [(2, none)] c_drawing_axes = true := by kernel_rfl
/-- metrolab/drawing.integers -/
def e104_1 : LC :=
  .seq (.seq (.region [ ⟨some 20, none, .mov (.t 8)⟩, ⟨some 21, none, .not (.t 20)⟩]) (.cond (.t 21) (.seq (.region [ ⟨some 2, none, .mov (.c (.at (.nils)))⟩, ⟨some 3, none, .mov (.i 4)⟩]) (.lift 2 .ret)) .skip)) (.region [ ⟨some 22, none, .mov (.t 4)⟩, ⟨some 23, none, .mov (.t 7)⟩, ⟨some 24, none, .buildS 24 3 1 1 [(0, 1, .t 23)]⟩, ⟨some 25, none, .append 3 1 (.t 22) (.t 24)⟩, ⟨some 4, none, .mov (.t 25)⟩])
def q104_1 : LC := e104_1
theorem u104_1 : Unf q104_1 e104_1 := fun _ _ _ _ _ => (rfl)
def e104_2 : LC :=
  .keep [4, 9, 10, 11] [1004] (.seq (.block 1 (.seq (.region [ ⟨some 13, none, .idxA 1 (.t 9) (.t 11)⟩, ⟨some 14, none, .load none (.t 13)⟩, ⟨some 6, none, .mov (.t 14)⟩]) (.seq (.region [ ⟨some 16, none, .mov (.t 6)⟩, ⟨some 17, none, .call 153 [.t 16]⟩, ⟨some 15, none, .mov (.t 17)⟩, ⟨some 18, none, .ext (.t 15) 0⟩, ⟨some 19, none, .ext (.t 15) 1⟩, ⟨some 7, none, .mov (.t 18)⟩, ⟨some 8, none, .mov (.t 19)⟩]) q104_1))) (.keep [4, 9, 10, 11] [1004] (.tail [4, 9, 10, 11] [1004] (.region [ ⟨some 26, none, .bin .add (.t 11) (.i 1)⟩, ⟨some 11, none, .mov (.t 26)⟩]))))
def q104_2 : LC := e104_2
theorem u104_2 : Unf q104_2 e104_2 := fun _ _ _ _ _ => (rfl)
def e104_3 : LC :=
  .seq (.seq (.region [ ⟨some 27, none, .mov (.t 4)⟩, ⟨some 28, none, .call 154 [.t 27, .c (.at (.d (.fn 155 [])))]⟩]) (.cond (.t 28) (.seq (.region [ ⟨some 2, none, .mov (.c (.at (.nils)))⟩, ⟨some 3, none, .mov (.i 2)⟩]) (.lift 2 .ret)) .skip)) (.seq (.region [ ⟨some 29, none, .mov (.t 4)⟩, ⟨some 2, none, .mov (.t 29)⟩, ⟨some 3, none, .mov (.i 0)⟩]) (.lift 2 .ret))
def q104_3 : LC := e104_3
theorem u104_3 : Unf q104_3 e104_3 := fun _ _ _ _ _ => (rfl)
def e104_4 : LC :=
  .own 4 1004 3 1 (.seq (.seq (.region [ ⟨some 9, none, .mov (.t 0)⟩, ⟨some 10, none, .lenL (.t 9)⟩, ⟨some 11, none, .mov (.i 0)⟩]) (.block 0 (.keep [4, 9, 10, 11] [1004] (.loop (.seq (.region [ ⟨some 12, none, .bin .lss (.t 11) (.t 10)⟩]) (.seq (.cond (.t 12) .skip (.exit 0)) q104_2)))))) q104_3)
def q104_4 : LC := e104_4
theorem u104_4 : Unf q104_4 e104_4 := fun _ _ _ _ _ => (rfl)
def d_drawing_integers : LC :=
  .seq (.region [ ⟨some 2, none, .mov (.c (.at (.nils)))⟩, ⟨some 3, none, .mov (.i 0)⟩]) (.lift 2 (.seq (.region [ ⟨some 4, none, .mov (.c (.at (.nils)))⟩]) q104_4))
def c_drawing_integers : LC := d_drawing_integers
theorem w_drawing_integers : Unf c_drawing_integers d_drawing_integers := fun _ _ _ _ _ => (rfl)
attribute [simp] e104_1 u104_1 e104_2 u104_2 e104_3 u104_3 e104_4 u104_4 d_drawing_integers w_drawing_integers
theorem k_drawing_integers : chkF Tryz.prog Tryz.f104 1 [(2, none), (3, none)] c_drawing_integers = true := by kernel_rfl
/-- (*metrolab/drawing.reader).frame.1 -/
def d_drawing_reader_frame_1 : LC :=
  .seq (.region [ ⟨some 2, none, .box 2 (.t 0)⟩, ⟨some 3, none, .mov (.b false)⟩]) (.seq (.region [ ⟨some 4, none, .fieldA 0 (.t 2)⟩, ⟨some 5, none, .load none (.t 4)⟩, ⟨some 6, none, .fieldA 0 (.t 1)⟩, ⟨some 7, none, .load none (.t 6)⟩, ⟨some 8, none, .bin .eql (.t 5) (.t 7)⟩, ⟨some 3, none, .mov (.t 8)⟩]) .ret)
def c_drawing_reader_frame_1 : LC := d_drawing_reader_frame_1
theorem w_drawing_reader_frame_1 : Unf c_drawing_reader_frame_1 d_drawing_reader_frame_1 := fun _ _ _ _ _ => (rfl)
attribute [simp] d_drawing_reader_frame_1 w_drawing_reader_frame_1
theorem k_drawing_reader_frame_1 : chkF Tryz.prog Tryz.f109 2 [(3, none)] c_drawing_reader_frame_1 = true := by kernel_rfl
/-- metrolab/drawing.index.1 -/
def d_drawing_index_1 : LC :=
  .seq (.region [ ⟨some 2, none, .box 2 (.t 0)⟩, ⟨some 3, none, .mov (.b false)⟩]) (.seq (.region [ ⟨some 4, none, .fieldA 0 (.t 2)⟩, ⟨some 5, none, .load none (.t 4)⟩, ⟨some 6, none, .load none (.t 1)⟩, ⟨some 7, none, .bin .eql (.t 5) (.t 6)⟩, ⟨some 3, none, .mov (.t 7)⟩]) .ret)
def c_drawing_index_1 : LC := d_drawing_index_1
theorem w_drawing_index_1 : Unf c_drawing_index_1 d_drawing_index_1 := fun _ _ _ _ _ => (rfl)
attribute [simp] d_drawing_index_1 w_drawing_index_1
theorem k_drawing_index_1 : chkF Tryz.prog Tryz.f117 2 [(3, none)] c_drawing_index_1 = true := by kernel_rfl
/-- metrolab/drawing.coordinate -/
def e127_1 : LC :=
  .seq (.region [ ⟨some 5, none, .fieldA 0 (.t 2)⟩, ⟨some 6, none, .load none (.t 5)⟩, ⟨some 7, none, .fieldA 1 (.t 2)⟩, ⟨some 8, none, .load none (.t 7)⟩, ⟨some 9, none, .fieldA 2 (.t 2)⟩, ⟨some 10, none, .load none (.t 9)⟩, ⟨some 11, none, .build [.d (.int .i64 0), .d (.int .i64 0), .d (.int .i64 0)] [(0, 1, .t 6), (1, 1, .t 8), (2, 1, .t 10)]⟩, ⟨some 12, none, .mov (.t 1)⟩, ⟨some 13, none, .idx 3 1 none (.t 11) (.t 12)⟩, ⟨some 4, none, .mov (.t 13)⟩]) .ret
def q127_1 : LC := e127_1
theorem u127_1 : Unf q127_1 e127_1 := fun _ _ _ _ _ => (rfl)
def d_drawing_coordinate : LC :=
  .seq (.region [ ⟨some 2, none, .box 2 (.t 0)⟩, ⟨some 4, none, .mov (.i 0)⟩]) q127_1
def c_drawing_coordinate : LC := d_drawing_coordinate
theorem w_drawing_coordinate : Unf c_drawing_coordinate d_drawing_coordinate := fun _ _ _ _ _ => (rfl)
attribute [simp] e127_1 u127_1 d_drawing_coordinate w_drawing_coordinate
theorem k_drawing_coordinate : chkF Tryz.prog Tryz.f127 2 [(4, none)] c_drawing_coordinate = true := by kernel_rfl
/-- metrolab/drawing.with.1 -/
def d_drawing_with_1 : LC :=
  .seq (.region [ ⟨some 2, none, .box 2 (.t 0)⟩, ⟨some 4, none, .mov (.i 0)⟩]) (.seq (.region [ ⟨some 5, none, .fieldA 0 (.t 2)⟩, ⟨some 6, none, .load none (.t 5)⟩, ⟨some 7, none, .mov (.t 1)⟩, ⟨some 8, none, .call 133 [.t 6, .t 7]⟩, ⟨some 4, none, .mov (.t 8)⟩]) .ret)
def c_drawing_with_1 : LC := d_drawing_with_1
theorem w_drawing_with_1 : Unf c_drawing_with_1 d_drawing_with_1 := fun _ _ _ _ _ => (rfl)
attribute [simp] d_drawing_with_1 w_drawing_with_1
theorem k_drawing_with_1 : chkF Tryz.prog Tryz.f132 2 [(4, none)] c_drawing_with_1 = true := by kernel_rfl
/-- metrolab/drawing.integer -/
def e153_1 : LC :=
  .seq (.region [ ⟨some 37, none, .mov (.t 0)⟩, ⟨some 38, none, .call 162 [.t 37]⟩, ⟨some 36, none, .mov (.t 38)⟩, ⟨some 39, none, .ext (.t 36) 0⟩, ⟨some 40, none, .ext (.t 36) 1⟩, ⟨some 6, none, .mov (.t 39)⟩, ⟨some 7, none, .mov (.t 40)⟩]) (.seq (.draw [0, 0, 2, 1, 15] [ ⟨some 41, none, .mov (.t 6)⟩, ⟨some 42, none, .mov (.t 7)⟩, ⟨some 43, none, .isNil false (.t 42) (.c (.at (.d .nili)))⟩, ⟨some 2, none, .mov (.t 41)⟩, ⟨some 3, none, .mov (.t 43)⟩]) .ret)
def q153_1 : LC := e153_1
theorem u153_1 : Unf q153_1 e153_1 := fun _ _ _ _ _ => (rfl)
def e153_2 : LC :=
  .seq (.seq (.region [ ⟨some 25, none, .mov (.t 4)⟩, ⟨some 26, none, .idxS (.t 25) (.i 0)⟩, ⟨some 27, none, .bin .eql (.t 26) (.c (.at (.d (.int .u8 48))))⟩, ⟨some 28, none, .mov (.t 27)⟩, ⟨some 29, some (28, true), .mov (.t 5)⟩, ⟨some 30, some (28, true), .mov (.t 29)⟩, ⟨some 31, some (30, false), .mov (.t 4)⟩, ⟨some 32, some (30, false), .lenS (.t 31)⟩, ⟨some 33, some (30, false), .bin .gtr (.t 32) (.i 1)⟩, ⟨some 34, some (28, true), .pick (.t 30) (.b true) (.t 33)⟩, ⟨some 35, none, .pick (.t 28) (.t 34) (.b false)⟩]) (.cond (.t 35) (.seq (.region [ ⟨some 2, none, .mov (.i 0)⟩, ⟨some 3, none, .mov (.b false)⟩]) .ret) .skip)) q153_1
def q153_2 : LC := e153_2
theorem u153_2 : Unf q153_2 e153_2 := fun _ _ _ _ _ => (rfl)
def e153_3 : LC :=
  .seq (.seq (.region [ ⟨some 13, none, .mov (.t 4)⟩, ⟨some 14, none, .bin .eql (.t 13) (.s [])⟩, ⟨some 15, none, .mov (.t 14)⟩, ⟨some 16, some (15, false), .mov (.t 4)⟩, ⟨some 17, some (15, false), .lenS (.t 16)⟩, ⟨some 18, some (15, false), .bin .gtr (.t 17) (.i 6)⟩, ⟨some 19, none, .pick (.t 15) (.b true) (.t 18)⟩, ⟨some 20, none, .mov (.t 19)⟩, ⟨some 21, some (20, false), .mov (.t 4)⟩, ⟨some 22, some (20, false), .call 204 [.t 21, .s [48, 49, 50, 51, 52, 53, 54, 55, 56, 57]]⟩, ⟨some 23, some (20, false), .bin .neq (.t 22) (.s [])⟩, ⟨some 24, none, .pick (.t 20) (.b true) (.t 23)⟩]) (.cond (.t 24) (.seq (.region [ ⟨some 2, none, .mov (.i 0)⟩, ⟨some 3, none, .mov (.b false)⟩]) .ret) .skip)) q153_2
def q153_3 : LC := e153_3
theorem u153_3 : Unf q153_3 e153_3 := fun _ _ _ _ _ => (rfl)
def d_drawing_integer : LC :=
  .seq (.region [ ⟨some 2, none, .mov (.i 0)⟩, ⟨some 3, none, .mov (.b false)⟩]) (.seq (.region [ ⟨some 9, none, .mov (.t 0)⟩, ⟨some 10, none, .call 203 [.t 9, .s [45]]⟩, ⟨some 8, none, .mov (.t 10)⟩, ⟨some 11, none, .ext (.t 8) 0⟩, ⟨some 12, none, .ext (.t 8) 1⟩, ⟨some 4, none, .mov (.t 11)⟩, ⟨some 5, none, .mov (.t 12)⟩]) q153_3)
def c_drawing_integer : LC := d_drawing_integer
theorem w_drawing_integer : Unf c_drawing_integer d_drawing_integer := fun _ _ _ _ _ => (rfl)
attribute [simp] e153_1 u153_1 e153_2 u153_2 e153_3 u153_3 d_drawing_integer w_drawing_integer
theorem k_drawing_integer : chkF Tryz.prog Tryz.f153 1 [(2, none), (3, none)] c_drawing_integer = true := by kernel_rfl
/-- metrolab/drawing.integers.1 -/
def d_drawing_integers_1 : LC :=
  .seq (.region [ ⟨some 2, none, .mov (.b false)⟩]) (.seq (.region [ ⟨some 3, none, .mov (.t 0)⟩, ⟨some 4, none, .bin .lss (.t 3) (.i (-100000))⟩, ⟨some 5, none, .mov (.t 4)⟩, ⟨some 6, some (5, false), .mov (.t 0)⟩, ⟨some 7, some (5, false), .bin .gtr (.t 6) (.i 100000)⟩, ⟨some 8, none, .pick (.t 5) (.b true) (.t 7)⟩, ⟨some 2, none, .mov (.t 8)⟩]) .ret)
def c_drawing_integers_1 : LC := d_drawing_integers_1
theorem w_drawing_integers_1 : Unf c_drawing_integers_1 d_drawing_integers_1 := fun _ _ _ _ _ => (rfl)
attribute [simp] d_drawing_integers_1 w_drawing_integers_1
theorem k_drawing_integers_1 : chkF Tryz.prog Tryz.f155 1 [(2, none)] c_drawing_integers_1 = true := by kernel_rfl
/-- slices.Equal[[]string,string] -/
def e15_1 : LC :=
  .seq (.draw [0, 0, 3, 7, 0, 0, 48, 112, 255] [ ⟨some 16, none, .mov (.t 0)⟩, ⟨some 17, none, .mov (.t 5)⟩, ⟨some 18, none, .idxA 1 (.t 16) (.t 17)⟩, ⟨some 19, none, .load none (.t 18)⟩, ⟨some 20, none, .mov (.t 1)⟩, ⟨some 21, none, .mov (.t 5)⟩, ⟨some 22, none, .idxA 1 (.t 20) (.t 21)⟩, ⟨some 23, none, .load none (.t 22)⟩, ⟨some 24, none, .bin .neq (.t 19) (.t 23)⟩]) (.cond (.t 24) (.seq (.region [ ⟨some 4, none, .mov (.b false)⟩]) .ret) .skip)
def q15_1 : LC := e15_1
theorem u15_1 : Unf q15_1 e15_1 := fun _ _ _ _ _ => (rfl)
def e15_2 : LC :=
  .seq (.cond (.t 14) .skip (.exit 0)) (.keep [0, 1, 12, 13] [] (.seq (.block 1 (.seq (.region [ ⟨some 15, none, .mov (.t 13)⟩, ⟨some 5, none, .mov (.t 15)⟩]) q15_1)) (.keep [0, 1, 12, 13] [] (.tail [0, 1, 12, 13] [] (.region [ ⟨some 25, none, .bin .add (.t 13) (.i 1)⟩, ⟨some 13, none, .mov (.t 25)⟩])))))
def q15_2 : LC := e15_2
theorem u15_2 : Unf q15_2 e15_2 := fun _ _ _ _ _ => (rfl)
def e15_3 : LC :=
  .seq (.seq (.region [ ⟨some 6, none, .mov (.t 0)⟩, ⟨some 7, none, .lenL (.t 6)⟩, ⟨some 8, none, .mov (.t 1)⟩, ⟨some 9, none, .lenL (.t 8)⟩, ⟨some 10, none, .bin .neq (.t 7) (.t 9)⟩]) (.cond (.t 10) (.seq (.region [ ⟨some 4, none, .mov (.b false)⟩]) .ret) .skip)) (.seq (.seq (.region [ ⟨some 11, none, .mov (.t 0)⟩, ⟨some 12, none, .lenL (.t 11)⟩, ⟨some 13, none, .mov (.i 0)⟩]) (.block 0 (.keep [0, 1, 12, 13] [] (.loop (.seq (.region [ ⟨some 14, none, .bin .lss (.t 13) (.t 12)⟩]) q15_2))))) (.seq (.region [ ⟨some 4, none, .mov (.b true)⟩]) .ret))
def q15_3 : LC := e15_3
theorem u15_3 : Unf q15_3 e15_3 := fun _ _ _ _ _ => (rfl)
def d_slices_Equal_string_string : LC :=
  .seq (.region [ ⟨some 4, none, .mov (.b false)⟩]) q15_3
def c_slices_Equal_string_string : LC := d_slices_Equal_string_string
theorem w_slices_Equal_string_string : Unf c_slices_Equal_string_string d_slices_Equal_string_string := fun _ _ _ _ _ => (rfl)
attribute [simp] e15_1 u15_1 e15_2 u15_2 e15_3 u15_3 d_slices_Equal_string_string w_slices_Equal_string_string
theorem k_slices_Equal_string_string : chkF Tryz.prog Tryz.f15 2 [(4, none)] c_slices_Equal_string_string = true := by kernel_rfl
/-- slices.Contains[[]string,string] -/
def d_slices_Contains_string_string : LC :=
  .seq (.region [ ⟨some 4, none, .mov (.b false)⟩]) (.seq (.region [ ⟨some 5, none, .mov (.t 0)⟩, ⟨some 6, none, .mov (.t 1)⟩, ⟨some 7, none, .call 63 [.t 5, .t 6]⟩, ⟨some 8, none, .bin .geq (.t 7) (.i 0)⟩, ⟨some 4, none, .mov (.t 8)⟩]) .ret)
def c_slices_Contains_string_string : LC := d_slices_Contains_string_string
theorem w_slices_Contains_string_string : Unf c_slices_Contains_string_string d_slices_Contains_string_string := fun _ _ _ _ _ => (rfl)
attribute [simp] d_slices_Contains_string_string w_slices_Contains_string_string
theorem k_slices_Contains_string_string : chkF Tryz.prog Tryz.f22 2 [(4, none)] c_slices_Contains_string_string = true := by kernel_rfl
/-- slices.IsSorted[[]string,string] -/
def e23_1 : LC :=
  .seq (.block 1 (.seq (.draw [0, 0, 3, 7, 0, 0, 32, 112, 240, 511] [ ⟨some 11, none, .mov (.t 0)⟩, ⟨some 12, none, .mov (.t 3)⟩, ⟨some 13, none, .idxA 1 (.t 11) (.t 12)⟩, ⟨some 14, none, .load none (.t 13)⟩, ⟨some 15, none, .mov (.t 0)⟩, ⟨some 16, none, .mov (.t 3)⟩, ⟨some 17, none, .bin .sub (.t 16) (.i 1)⟩, ⟨some 18, none, .idxA 1 (.t 15) (.t 17)⟩, ⟨some 19, none, .load none (.t 18)⟩, ⟨some 20, none, .call 64 [.t 14, .t 19]⟩]) (.cond (.t 20) (.seq (.region [ ⟨some 2, none, .mov (.b false)⟩]) .ret) .skip))) (.keep [0, 3] [] (.tail [0, 3] [] (.region [ ⟨some 9, none, .mov (.t 3)⟩, ⟨some 10, none, .bin .sub (.t 9) (.i 1)⟩, ⟨some 3, none, .mov (.t 10)⟩])))
def q23_1 : LC := e23_1
theorem u23_1 : Unf q23_1 e23_1 := fun _ _ _ _ _ => (rfl)
def e23_2 : LC :=
  .seq (.seq (.region [ ⟨some 4, none, .mov (.t 0)⟩, ⟨some 5, none, .lenL (.t 4)⟩, ⟨some 6, none, .bin .sub (.t 5) (.i 1)⟩, ⟨some 3, none, .mov (.t 6)⟩]) (.block 0 (.keep [0, 3] [] (.loop (.seq (.seq (.region [ ⟨some 7, none, .mov (.t 3)⟩, ⟨some 8, none, .bin .gtr (.t 7) (.i 0)⟩]) (.cond (.t 8) .skip (.exit 0))) q23_1))))) (.seq (.region [ ⟨some 2, none, .mov (.b true)⟩]) .ret)
def q23_2 : LC := e23_2
theorem u23_2 : Unf q23_2 e23_2 := fun _ _ _ _ _ => (rfl)
def d_slices_IsSorted_string_string : LC :=
  .seq (.region [ ⟨some 2, none, .mov (.b false)⟩]) q23_2
def c_slices_IsSorted_string_string : LC := d_slices_IsSorted_string_string
theorem w_slices_IsSorted_string_string : Unf c_slices_IsSorted_string_string d_slices_IsSorted_string_string := fun _ _ _ _ _ => (rfl)
attribute [simp] e23_1 u23_1 e23_2 u23_2 d_slices_IsSorted_string_string w_slices_IsSorted_string_string
theorem k_slices_IsSorted_string_string : chkF Tryz.prog Tryz.f23 1 [(2, none)] c_slices_IsSorted_string_string = true := by kernel_rfl
/-- slices.Index[[]string,string] -/
def e63_1 : LC :=
  .seq (.region [ ⟨some 11, none, .mov (.t 1)⟩, ⟨some 12, none, .mov (.t 0)⟩, ⟨some 13, none, .mov (.t 5)⟩, ⟨some 14, none, .idxA 1 (.t 12) (.t 13)⟩, ⟨some 15, none, .load none (.t 14)⟩, ⟨some 16, none, .bin .eql (.t 11) (.t 15)⟩]) (.cond (.t 16) (.seq (.region [ ⟨some 17, none, .mov (.t 5)⟩, ⟨some 4, none, .mov (.t 17)⟩]) .ret) .skip)
def q63_1 : LC := e63_1
theorem u63_1 : Unf q63_1 e63_1 := fun _ _ _ _ _ => (rfl)
def e63_2 : LC :=
  .seq (.cond (.t 9) .skip (.exit 0)) (.keep [0, 1, 7, 8] [] (.seq (.block 1 (.seq (.region [ ⟨some 10, none, .mov (.t 8)⟩, ⟨some 5, none, .mov (.t 10)⟩]) q63_1)) (.keep [0, 1, 7, 8] [] (.tail [0, 1, 7, 8] [] (.region [ ⟨some 18, none, .bin .add (.t 8) (.i 1)⟩, ⟨some 8, none, .mov (.t 18)⟩])))))
def q63_2 : LC := e63_2
theorem u63_2 : Unf q63_2 e63_2 := fun _ _ _ _ _ => (rfl)
def d_slices_Index_string_string : LC :=
  .seq (.region [ ⟨some 4, none, .mov (.i 0)⟩]) (.seq (.seq (.region [ ⟨some 6, none, .mov (.t 0)⟩, ⟨some 7, none, .lenL (.t 6)⟩, ⟨some 8, none, .mov (.i 0)⟩]) (.block 0 (.keep [0, 1, 7, 8] [] (.loop (.seq (.region [ ⟨some 9, none, .bin .lss (.t 8) (.t 7)⟩]) q63_2))))) (.seq (.region [ ⟨some 4, none, .mov (.i (-1))⟩]) .ret))
def c_slices_Index_string_string : LC := d_slices_Index_string_string
theorem w_slices_Index_string_string : Unf c_slices_Index_string_string d_slices_Index_string_string := fun _ _ _ _ _ => (rfl)
attribute [simp] e63_1 u63_1 e63_2 u63_2 d_slices_Index_string_string w_slices_Index_string_string
theorem k_slices_Index_string_string : chkF Tryz.prog Tryz.f63 2 [(4, none)] c_slices_Index_string_string = true := by kernel_rfl
/-- cmp.Less[string] -/
def e64_1 : LC :=
  .seq (.region [ ⟨some 5, none, .mov (.t 0)⟩, ⟨some 6, none, .call 118 [.t 5]⟩, ⟨some 7, none, .mov (.t 6)⟩, ⟨some 8, some (7, true), .mov (.t 1)⟩, ⟨some 9, some (7, true), .call 118 [.t 8]⟩, ⟨some 10, some (7, true), .not (.t 9)⟩, ⟨some 11, none, .pick (.t 7) (.t 10) (.b false)⟩, ⟨some 12, none, .mov (.t 11)⟩, ⟨some 13, some (12, false), .mov (.t 0)⟩, ⟨some 14, some (12, false), .mov (.t 1)⟩, ⟨some 15, some (12, false), .bin .lss (.t 13) (.t 14)⟩, ⟨some 16, none, .pick (.t 12) (.b true) (.t 15)⟩, ⟨some 4, none, .mov (.t 16)⟩]) .ret
def q64_1 : LC := e64_1
theorem u64_1 : Unf q64_1 e64_1 := fun _ _ _ _ _ => (rfl)
def d_cmp_Less_string : LC :=
  .seq (.region [ ⟨some 4, none, .mov (.b false)⟩]) q64_1
def c_cmp_Less_string : LC := d_cmp_Less_string
theorem w_cmp_Less_string : Unf c_cmp_Less_string d_cmp_Less_string := fun _ _ _ _ _ => (rfl)
attribute [simp] e64_1 u64_1 d_cmp_Less_string w_cmp_Less_string
theorem k_cmp_Less_string : chkF Tryz.prog Tryz.f64 2 [(4, none)] c_cmp_Less_string = true := by kernel_rfl
/-- slices.ContainsFunc[[]metrolab/api.Dimension,metrolab/api.Dimension] -/
def d_slices_ContainsFunc_api_Dimension_api_Dimension : LC :=
  .seq (.region [ ⟨some 4, none, .mov (.b false)⟩]) (.seq (.region [ ⟨some 5, none, .mov (.t 0)⟩, ⟨some 6, none, .mov (.t 1)⟩, ⟨some 7, none, .call 136 [.t 5, .t 6]⟩, ⟨some 8, none, .bin .geq (.t 7) (.i 0)⟩, ⟨some 4, none, .mov (.t 8)⟩]) .ret)
def c_slices_ContainsFunc_api_Dimension_api_Dimension : LC := d_slices_ContainsFunc_api_Dimension_api_Dimension
theorem w_slices_ContainsFunc_api_Dimension_api_Dimension : Unf c_slices_ContainsFunc_api_Dimension_api_Dimension d_slices_ContainsFunc_api_Dimension_api_Dimension := fun _ _ _ _ _ => (rfl)
attribute [simp] d_slices_ContainsFunc_api_Dimension_api_Dimension w_slices_ContainsFunc_api_Dimension_api_Dimension
theorem k_slices_ContainsFunc_api_Dimension_api_Dimension : chkF Tryz.prog Tryz.f81 2 [(4, none)] c_slices_ContainsFunc_api_Dimension_api_Dimension = true := by kernel_rfl
/-- slices.ContainsFunc[[]metrolab/api.Frame,metrolab/api.Frame] -/
def d_slices_ContainsFunc_api_Frame_api_Frame : LC :=
  .seq (.region [ ⟨some 4, none, .mov (.b false)⟩]) (.seq (.region [ ⟨some 5, none, .mov (.t 0)⟩, ⟨some 6, none, .mov (.t 1)⟩, ⟨some 7, none, .call 171 [.t 5, .t 6]⟩, ⟨some 8, none, .bin .geq (.t 7) (.i 0)⟩, ⟨some 4, none, .mov (.t 8)⟩]) .ret)
def c_slices_ContainsFunc_api_Frame_api_Frame : LC := d_slices_ContainsFunc_api_Frame_api_Frame
theorem w_slices_ContainsFunc_api_Frame_api_Frame : Unf c_slices_ContainsFunc_api_Frame_api_Frame d_slices_ContainsFunc_api_Frame_api_Frame := fun _ _ _ _ _ => (rfl)
attribute [simp] d_slices_ContainsFunc_api_Frame_api_Frame w_slices_ContainsFunc_api_Frame_api_Frame
theorem k_slices_ContainsFunc_api_Frame_api_Frame : chkF Tryz.prog Tryz.f108 2 [(4, none)] c_slices_ContainsFunc_api_Frame_api_Frame = true := by kernel_rfl
/-- slices.BinarySearchFunc[[]metrolab/api.Dimension,metrolab/api.Dimension,metrolab/api.Dimension] -/
def e110_1 : LC :=
  .seq (.draw [0, 0, 0, 6, 14, 0, 63, 127] [ ⟨some 24, none, .mov (.t 2)⟩, ⟨some 25, none, .mov (.t 0)⟩, ⟨some 26, none, .mov (.t 11)⟩, ⟨some 27, none, .idxA 5 (.t 25) (.t 26)⟩, ⟨some 28, none, .load (some 5) (.t 27)⟩, ⟨some 29, none, .load (some 5) (.t 4)⟩, ⟨some 30, none, .callv (.t 24) [.t 28, .t 29]⟩, ⟨some 31, none, .bin .lss (.t 30) (.i 0)⟩]) (.cond (.t 31) (.region [ ⟨some 32, none, .mov (.t 11)⟩, ⟨some 33, none, .bin .add (.t 32) (.i 1)⟩, ⟨some 9, none, .mov (.t 33)⟩]) (.region [ ⟨some 34, none, .mov (.t 11)⟩, ⟨some 10, none, .mov (.t 34)⟩]))
def q110_1 : LC := e110_1
theorem u110_1 : Unf q110_1 e110_1 := fun _ _ _ _ _ => (rfl)
def e110_2 : LC :=
  .tail [0, 2, 4, 8, 9, 10] [4] (.block 1 (.seq (.region [ ⟨some 18, none, .mov (.t 9)⟩, ⟨some 19, none, .mov (.t 10)⟩, ⟨some 20, none, .bin .add (.t 18) (.t 19)⟩, ⟨some 21, none, .conv .u64 (.t 20)⟩, ⟨some 22, none, .bin .shr (.t 21) (.c (.at (.d (.int .u64 1))))⟩, ⟨some 23, none, .conv .i64 (.t 22)⟩, ⟨some 11, none, .mov (.t 23)⟩]) q110_1))
def q110_2 : LC := e110_2
theorem u110_2 : Unf q110_2 e110_2 := fun _ _ _ _ _ => (rfl)
def e110_3 : LC :=
  .keep [0, 2, 4, 8, 9] [4] (.seq (.draw [0, 0, 0, 6, 14, 30, 30, 30, 222, 478, 30, 2046, 4094, 8190, 4095, 32767] [ ⟨some 35, none, .mov (.t 9)⟩, ⟨some 36, none, .mov (.t 9)⟩, ⟨some 37, none, .mov (.t 8)⟩, ⟨some 38, none, .bin .lss (.t 36) (.t 37)⟩, ⟨some 39, none, .mov (.t 38)⟩, ⟨some 40, some (39, true), .mov (.t 2)⟩, ⟨some 41, some (39, true), .mov (.t 0)⟩, ⟨some 42, some (39, true), .mov (.t 9)⟩, ⟨some 43, some (39, true), .idxA 5 (.t 41) (.t 42)⟩, ⟨some 44, some (39, true), .load (some 5) (.t 43)⟩, ⟨some 45, some (39, true), .load (some 5) (.t 4)⟩, ⟨some 46, some (39, true), .callv (.t 40) [.t 44, .t 45]⟩, ⟨some 47, some (39, true), .bin .eql (.t 46) (.i 0)⟩, ⟨some 48, none, .pick (.t 39) (.t 47) (.b false)⟩, ⟨some 6, none, .mov (.t 35)⟩, ⟨some 7, none, .mov (.t 48)⟩]) .ret)
def q110_3 : LC := e110_3
theorem u110_3 : Unf q110_3 e110_3 := fun _ _ _ _ _ => (rfl)
def e110_4 : LC :=
  .seq (.block 0 (.keep [0, 2, 4, 8, 9, 10] [4] (.loop (.seq (.seq (.region [ ⟨some 15, none, .mov (.t 9)⟩, ⟨some 16, none, .mov (.t 10)⟩, ⟨some 17, none, .bin .lss (.t 15) (.t 16)⟩]) (.cond (.t 17) .skip (.exit 0))) q110_2)))) q110_3
def q110_4 : LC := e110_4
theorem u110_4 : Unf q110_4 e110_4 := fun _ _ _ _ _ => (rfl)
def d_slices_BinarySearchFunc_api_Dimension_api_Dimension_api_Dimension : LC :=
  .seq (.region [ ⟨some 4, none, .box 4 (.t 1)⟩, ⟨some 6, none, .mov (.i 0)⟩, ⟨some 7, none, .mov (.b false)⟩]) (.seq (.region [ ⟨some 12, none, .mov (.t 0)⟩, ⟨some 13, none, .lenL (.t 12)⟩, ⟨some 8, none, .mov (.t 13)⟩]) (.seq (.region [ ⟨some 14, none, .mov (.t 8)⟩, ⟨some 9, none, .mov (.i 0)⟩, ⟨some 10, none, .mov (.t 14)⟩]) q110_4))
def c_slices_BinarySearchFunc_api_Dimension_api_Dimension_api_Dimension : LC := d_slices_BinarySearchFunc_api_Dimension_api_Dimension_api_Dimension
theorem w_slices_BinarySearchFunc_api_Dimension_api_Dimension_api_Dimension : Unf c_slices_BinarySearchFunc_api_Dimension_api_Dimension_api_Dimension d_slices_BinarySearchFunc_api_Dimension_api_Dimension_api_Dimension := fun _ _ _ _ _ => (rfl)
attribute [simp] e110_1 u110_1 e110_2 u110_2 e110_3 u110_3 e110_4 u110_4 d_slices_BinarySearchFunc_api_Dimension_api_Dimension_api_Dimension w_slices_BinarySearchFunc_api_Dimension_api_Dimension_api_Dimension
theorem k_slices_BinarySearchFunc_api_Dimension_api_Dimension_api_Dimension : chkF Tryz.prog Tryz.f110 3 [(6, none), (7, none)] c_slices_BinarySearchFunc_api_Dimension_api_Dimension_api_Dimension = true := by kernel_rfl
/-- slices.IndexFunc[[]string,string] -/
def e112_1 : LC :=
  .seq (.region [ ⟨some 11, none, .mov (.t 1)⟩, ⟨some 12, none, .mov (.t 0)⟩, ⟨some 13, none, .mov (.t 5)⟩, ⟨some 14, none, .idxA 1 (.t 12) (.t 13)⟩, ⟨some 15, none, .load none (.t 14)⟩, ⟨some 16, none, .callv (.t 11) [.t 15]⟩]) (.cond (.t 16) (.seq (.region [ ⟨some 17, none, .mov (.t 5)⟩, ⟨some 4, none, .mov (.t 17)⟩]) .ret) .skip)
def q112_1 : LC := e112_1
theorem u112_1 : Unf q112_1 e112_1 := fun _ _ _ _ _ => (rfl)
def e112_2 : LC :=
  .seq (.cond (.t 9) .skip (.exit 0)) (.keep [0, 1, 7, 8] [] (.seq (.block 1 (.seq (.region [ ⟨some 10, none, .mov (.t 8)⟩, ⟨some 5, none, .mov (.t 10)⟩]) q112_1)) (.keep [0, 1, 7, 8] [] (.tail [0, 1, 7, 8] [] (.region [ ⟨some 18, none, .bin .add (.t 8) (.i 1)⟩, ⟨some 8, none, .mov (.t 18)⟩])))))
def q112_2 : LC := e112_2
theorem u112_2 : Unf q112_2 e112_2 := fun _ _ _ _ _ => (rfl)
def d_slices_IndexFunc_string_string : LC :=
  .seq (.region [ ⟨some 4, none, .mov (.i 0)⟩]) (.seq (.seq (.region [ ⟨some 6, none, .mov (.t 0)⟩, ⟨some 7, none, .lenL (.t 6)⟩, ⟨some 8, none, .mov (.i 0)⟩]) (.block 0 (.keep [0, 1, 7, 8] [] (.loop (.seq (.region [ ⟨some 9, none, .bin .lss (.t 8) (.t 7)⟩]) q112_2))))) (.seq (.region [ ⟨some 4, none, .mov (.i (-1))⟩]) .ret))
def c_slices_IndexFunc_string_string : LC := d_slices_IndexFunc_string_string
theorem w_slices_IndexFunc_string_string : Unf c_slices_IndexFunc_string_string d_slices_IndexFunc_string_string := fun _ _ _ _ _ => (rfl)
attribute [simp] e112_1 u112_1 e112_2 u112_2 d_slices_IndexFunc_string_string w_slices_IndexFunc_string_string
theorem k_slices_IndexFunc_string_string : chkF Tryz.prog Tryz.f112 2 [(4, none)] c_slices_IndexFunc_string_string = true := by kernel_rfl
/-- slices.IndexFunc[[]metrolab/api.Feature,metrolab/api.Feature] -/
def e116_1 : LC :=
  .seq (.region [ ⟨some 11, none, .mov (.t 1)⟩, ⟨some 12, none, .mov (.t 0)⟩, ⟨some 13, none, .mov (.t 5)⟩, ⟨some 14, none, .idxA 9 (.t 12) (.t 13)⟩, ⟨some 15, none, .load (some 9) (.t 14)⟩, ⟨some 16, none, .callv (.t 11) [.t 15]⟩]) (.cond (.t 16) (.seq (.region [ ⟨some 17, none, .mov (.t 5)⟩, ⟨some 4, none, .mov (.t 17)⟩]) .ret) .skip)
def q116_1 : LC := e116_1
theorem u116_1 : Unf q116_1 e116_1 := fun _ _ _ _ _ => (rfl)
def e116_2 : LC :=
  .seq (.cond (.t 9) .skip (.exit 0)) (.keep [0, 1, 7, 8] [] (.seq (.block 1 (.seq (.region [ ⟨some 10, none, .mov (.t 8)⟩, ⟨some 5, none, .mov (.t 10)⟩]) q116_1)) (.keep [0, 1, 7, 8] [] (.tail [0, 1, 7, 8] [] (.region [ ⟨some 18, none, .bin .add (.t 8) (.i 1)⟩, ⟨some 8, none, .mov (.t 18)⟩])))))
def q116_2 : LC := e116_2
theorem u116_2 : Unf q116_2 e116_2 := fun _ _ _ _ _ => (rfl)
def d_slices_IndexFunc_api_Feature_api_Feature : LC :=
  .seq (.region [ ⟨some 4, none, .mov (.i 0)⟩]) (.seq (.seq (.region [ ⟨some 6, none, .mov (.t 0)⟩, ⟨some 7, none, .lenL (.t 6)⟩, ⟨some 8, none, .mov (.i 0)⟩]) (.block 0 (.keep [0, 1, 7, 8] [] (.loop (.seq (.region [ ⟨some 9, none, .bin .lss (.t 8) (.t 7)⟩]) q116_2))))) (.seq (.region [ ⟨some 4, none, .mov (.i (-1))⟩]) .ret))
def c_slices_IndexFunc_api_Feature_api_Feature : LC := d_slices_IndexFunc_api_Feature_api_Feature
theorem w_slices_IndexFunc_api_Feature_api_Feature : Unf c_slices_IndexFunc_api_Feature_api_Feature d_slices_IndexFunc_api_Feature_api_Feature := fun _ _ _ _ _ => (rfl)
attribute [simp] e116_1 u116_1 e116_2 u116_2 d_slices_IndexFunc_api_Feature_api_Feature w_slices_IndexFunc_api_Feature_api_Feature
theorem k_slices_IndexFunc_api_Feature_api_Feature : chkF Tryz.prog Tryz.f116 2 [(4, none)] c_slices_IndexFunc_api_Feature_api_Feature = true := by kernel_rfl
/-- cmp.isNaN[string] -/
def d_cmp_isNaN_string : LC :=
  .seq (.region [ ⟨some 2, none, .mov (.b false)⟩]) (.seq (.region [ ⟨some 3, none, .mov (.t 0)⟩, ⟨some 4, none, .mov (.t 0)⟩, ⟨some 5, none, .bin .neq (.t 3) (.t 4)⟩, ⟨some 2, none, .mov (.t 5)⟩]) .ret)
def c_cmp_isNaN_string : LC := d_cmp_isNaN_string
theorem w_cmp_isNaN_string : Unf c_cmp_isNaN_string d_cmp_isNaN_string := fun _ _ _ _ _ => (rfl)
attribute [simp] d_cmp_isNaN_string w_cmp_isNaN_string
theorem k_cmp_isNaN_string : chkF Tryz.prog Tryz.f118 1 [(2, none)] c_cmp_isNaN_string = true := by kernel_rfl
/-- slices.BinarySearchFunc[[]metrolab/api.Feature,metrolab/api.Feature,string] -/
def e131_1 : LC :=
  .seq (.region [ ⟨some 24, none, .mov (.t 2)⟩, ⟨some 25, none, .mov (.t 0)⟩, ⟨some 26, none, .mov (.t 11)⟩, ⟨some 27, none, .idxA 9 (.t 25) (.t 26)⟩, ⟨some 28, none, .load (some 9) (.t 27)⟩, ⟨some 29, none, .mov (.t 1)⟩, ⟨some 30, none, .callv (.t 24) [.t 28, .t 29]⟩, ⟨some 31, none, .bin .lss (.t 30) (.i 0)⟩]) (.cond (.t 31) (.region [ ⟨some 32, none, .mov (.t 11)⟩, ⟨some 33, none, .bin .add (.t 32) (.i 1)⟩, ⟨some 9, none, .mov (.t 33)⟩]) (.region [ ⟨some 34, none, .mov (.t 11)⟩, ⟨some 10, none, .mov (.t 34)⟩]))
def q131_1 : LC := e131_1
theorem u131_1 : Unf q131_1 e131_1 := fun _ _ _ _ _ => (rfl)
def e131_2 : LC :=
  .tail [0, 1, 2, 8, 9, 10] [] (.block 1 (.seq (.region [ ⟨some 18, none, .mov (.t 9)⟩, ⟨some 19, none, .mov (.t 10)⟩, ⟨some 20, none, .bin .add (.t 18) (.t 19)⟩, ⟨some 21, none, .conv .u64 (.t 20)⟩, ⟨some 22, none, .bin .shr (.t 21) (.c (.at (.d (.int .u64 1))))⟩, ⟨some 23, none, .conv .i64 (.t 22)⟩, ⟨some 11, none, .mov (.t 23)⟩]) q131_1))
def q131_2 : LC := e131_2
theorem u131_2 : Unf q131_2 e131_2 := fun _ _ _ _ _ => (rfl)
def e131_3 : LC :=
  .keep [0, 1, 2, 8, 9] [] (.seq (.region [ ⟨some 35, none, .mov (.t 9)⟩, ⟨some 36, none, .mov (.t 9)⟩, ⟨some 37, none, .mov (.t 8)⟩, ⟨some 38, none, .bin .lss (.t 36) (.t 37)⟩, ⟨some 39, none, .mov (.t 38)⟩, ⟨some 40, some (39, true), .mov (.t 2)⟩, ⟨some 41, some (39, true), .mov (.t 0)⟩, ⟨some 42, some (39, true), .mov (.t 9)⟩, ⟨some 43, some (39, true), .idxA 9 (.t 41) (.t 42)⟩, ⟨some 44, some (39, true), .load (some 9) (.t 43)⟩, ⟨some 45, some (39, true), .mov (.t 1)⟩, ⟨some 46, some (39, true), .callv (.t 40) [.t 44, .t 45]⟩, ⟨some 47, some (39, true), .bin .eql (.t 46) (.i 0)⟩, ⟨some 48, none, .pick (.t 39) (.t 47) (.b false)⟩, ⟨some 6, none, .mov (.t 35)⟩, ⟨some 7, none, .mov (.t 48)⟩]) .ret)
def q131_3 : LC := e131_3
theorem u131_3 : Unf q131_3 e131_3 := fun _ _ _ _ _ => (rfl)
def e131_4 : LC :=
  .seq (.block 0 (.keep [0, 1, 2, 8, 9, 10] [] (.loop (.seq (.seq (.region [ ⟨some 15, none, .mov (.t 9)⟩, ⟨some 16, none, .mov (.t 10)⟩, ⟨some 17, none, .bin .lss (.t 15) (.t 16)⟩]) (.cond (.t 17) .skip (.exit 0))) q131_2)))) q131_3
def q131_4 : LC := e131_4
theorem u131_4 : Unf q131_4 e131_4 := fun _ _ _ _ _ => (rfl)
def d_slices_BinarySearchFunc_api_Feature_api_Feature_string : LC :=
  .seq (.region [ ⟨some 6, none, .mov (.i 0)⟩, ⟨some 7, none, .mov (.b false)⟩]) (.seq (.region [ ⟨some 12, none, .mov (.t 0)⟩, ⟨some 13, none, .lenL (.t 12)⟩, ⟨some 8, none, .mov (.t 13)⟩]) (.seq (.region [ ⟨some 14, none, .mov (.t 8)⟩, ⟨some 9, none, .mov (.i 0)⟩, ⟨some 10, none, .mov (.t 14)⟩]) q131_4))
def c_slices_BinarySearchFunc_api_Feature_api_Feature_string : LC := d_slices_BinarySearchFunc_api_Feature_api_Feature_string
theorem w_slices_BinarySearchFunc_api_Feature_api_Feature_string : Unf c_slices_BinarySearchFunc_api_Feature_api_Feature_string d_slices_BinarySearchFunc_api_Feature_api_Feature_string := fun _ _ _ _ _ => (rfl)
attribute [simp] e131_1 u131_1 e131_2 u131_2 e131_3 u131_3 e131_4 u131_4 d_slices_BinarySearchFunc_api_Feature_api_Feature_string w_slices_BinarySearchFunc_api_Feature_api_Feature_string
theorem k_slices_BinarySearchFunc_api_Feature_api_Feature_string : chkF Tryz.prog Tryz.f131 3 [(6, none), (7, none)] c_slices_BinarySearchFunc_api_Feature_api_Feature_string = true := by kernel_rfl
/-- slices.IndexFunc[[]metrolab/api.Dimension,metrolab/api.Dimension] -/
def e136_1 : LC :=
  .seq (.region [ ⟨some 11, none, .mov (.t 1)⟩, ⟨some 12, none, .mov (.t 0)⟩, ⟨some 13, none, .mov (.t 5)⟩, ⟨some 14, none, .idxA 5 (.t 12) (.t 13)⟩, ⟨some 15, none, .load (some 5) (.t 14)⟩, ⟨some 16, none, .callv (.t 11) [.t 15]⟩]) (.cond (.t 16) (.seq (.region [ ⟨some 17, none, .mov (.t 5)⟩, ⟨some 4, none, .mov (.t 17)⟩]) .ret) .skip)
def q136_1 : LC := e136_1
theorem u136_1 : Unf q136_1 e136_1 := fun _ _ _ _ _ => (rfl)
def e136_2 : LC :=
  .seq (.cond (.t 9) .skip (.exit 0)) (.keep [0, 1, 7, 8] [] (.seq (.block 1 (.seq (.region [ ⟨some 10, none, .mov (.t 8)⟩, ⟨some 5, none, .mov (.t 10)⟩]) q136_1)) (.keep [0, 1, 7, 8] [] (.tail [0, 1, 7, 8] [] (.region [ ⟨some 18, none, .bin .add (.t 8) (.i 1)⟩, ⟨some 8, none, .mov (.t 18)⟩])))))
def q136_2 : LC := e136_2
theorem u136_2 : Unf q136_2 e136_2 := fun _ _ _ _ _ => (rfl)
def d_slices_IndexFunc_api_Dimension_api_Dimension : LC :=
  .seq (.region [ ⟨some 4, none, .mov (.i 0)⟩]) (.seq (.seq (.region [ ⟨some 6, none, .mov (.t 0)⟩, ⟨some 7, none, .lenL (.t 6)⟩, ⟨some 8, none, .mov (.i 0)⟩]) (.block 0 (.keep [0, 1, 7, 8] [] (.loop (.seq (.region [ ⟨some 9, none, .bin .lss (.t 8) (.t 7)⟩]) q136_2))))) (.seq (.region [ ⟨some 4, none, .mov (.i (-1))⟩]) .ret))
def c_slices_IndexFunc_api_Dimension_api_Dimension : LC := d_slices_IndexFunc_api_Dimension_api_Dimension
theorem w_slices_IndexFunc_api_Dimension_api_Dimension : Unf c_slices_IndexFunc_api_Dimension_api_Dimension d_slices_IndexFunc_api_Dimension_api_Dimension := fun _ _ _ _ _ => (rfl)
attribute [simp] e136_1 u136_1 e136_2 u136_2 d_slices_IndexFunc_api_Dimension_api_Dimension w_slices_IndexFunc_api_Dimension_api_Dimension
theorem k_slices_IndexFunc_api_Dimension_api_Dimension : chkF Tryz.prog Tryz.f136 2 [(4, none)] c_slices_IndexFunc_api_Dimension_api_Dimension = true := by kernel_rfl
/-- cmp.Or[int] -/
def e147_1 : LC :=
  .keep [3, 6, 7, 8] [] (.seq (.block 1 (.seq (.region [ ⟨some 10, none, .idxA 1 (.t 6) (.t 8)⟩, ⟨some 11, none, .load none (.t 10)⟩, ⟨some 5, none, .mov (.t 11)⟩]) (.seq (.region [ ⟨some 12, none, .mov (.t 5)⟩, ⟨some 13, none, .mov (.t 3)⟩, ⟨some 14, none, .bin .neq (.t 12) (.t 13)⟩]) (.cond (.t 14) (.seq (.region [ ⟨some 15, none, .mov (.t 5)⟩, ⟨some 2, none, .mov (.t 15)⟩]) .ret) .skip)))) (.keep [3, 6, 7, 8] [] (.tail [3, 6, 7, 8] [] (.region [ ⟨some 16, none, .bin .add (.t 8) (.i 1)⟩, ⟨some 8, none, .mov (.t 16)⟩]))))
def q147_1 : LC := e147_1
theorem u147_1 : Unf q147_1 e147_1 := fun _ _ _ _ _ => (rfl)
def e147_2 : LC :=
  .seq (.seq (.region [ ⟨some 6, none, .mov (.t 0)⟩, ⟨some 7, none, .lenL (.t 6)⟩, ⟨some 8, none, .mov (.i 0)⟩]) (.block 0 (.keep [3, 6, 7, 8] [] (.loop (.seq (.region [ ⟨some 9, none, .bin .lss (.t 8) (.t 7)⟩]) (.seq (.cond (.t 9) .skip (.exit 0)) q147_1)))))) (.seq (.region [ ⟨some 17, none, .mov (.t 3)⟩, ⟨some 2, none, .mov (.t 17)⟩]) .ret)
def q147_2 : LC := e147_2
theorem u147_2 : Unf q147_2 e147_2 := fun _ _ _ _ _ => (rfl)
def d_cmp_Or_int : LC :=
  .seq (.region [ ⟨some 2, none, .mov (.i 0)⟩]) (.seq (.region [ ⟨some 3, none, .mov (.i 0)⟩]) q147_2)
def c_cmp_Or_int : LC := d_cmp_Or_int
theorem w_cmp_Or_int : Unf c_cmp_Or_int d_cmp_Or_int := fun _ _ _ _ _ => (rfl)
attribute [simp] e147_1 u147_1 e147_2 u147_2 d_cmp_Or_int w_cmp_Or_int
theorem k_cmp_Or_int : chkF Tryz.prog Tryz.f147 1 [(2, none)] c_cmp_Or_int = true := by kernel_rfl
/-- cmp.Compare[string] -/
def e148_1 : LC :=
  .seq (.seq (.region [ ⟨some 14, none, .mov (.t 0)⟩, ⟨some 15, none, .mov (.t 1)⟩, ⟨some 16, none, .bin .lss (.t 14) (.t 15)⟩]) (.cond (.t 16) (.seq (.region [ ⟨some 4, none, .mov (.i (-1))⟩]) .ret) .skip)) (.seq (.seq (.region [ ⟨some 17, none, .mov (.t 0)⟩, ⟨some 18, none, .mov (.t 1)⟩, ⟨some 19, none, .bin .gtr (.t 17) (.t 18)⟩]) (.cond (.t 19) (.seq (.region [ ⟨some 4, none, .mov (.i 1)⟩]) .ret) .skip)) (.seq (.region [ ⟨some 4, none, .mov (.i 0)⟩]) .ret))
def q148_1 : LC := e148_1
theorem u148_1 : Unf q148_1 e148_1 := fun _ _ _ _ _ => (rfl)
def e148_2 : LC :=
  .seq (.seq (.region [ ⟨some 11, none, .mov (.t 5)⟩]) (.cond (.t 11) (.seq (.seq (.region [ ⟨some 12, none, .mov (.t 6)⟩]) (.cond (.t 12) (.seq (.region [ ⟨some 4, none, .mov (.i 0)⟩]) .ret) .skip)) (.seq (.region [ ⟨some 4, none, .mov (.i (-1))⟩]) .ret)) .skip)) (.seq (.seq (.region [ ⟨some 13, none, .mov (.t 6)⟩]) (.cond (.t 13) (.seq (.region [ ⟨some 4, none, .mov (.i 1)⟩]) .ret) .skip)) q148_1)
def q148_2 : LC := e148_2
theorem u148_2 : Unf q148_2 e148_2 := fun _ _ _ _ _ => (rfl)
def d_cmp_Compare_string : LC :=
  .seq (.region [ ⟨some 4, none, .mov (.i 0)⟩]) (.seq (.region [ ⟨some 7, none, .mov (.t 0)⟩, ⟨some 8, none, .call 118 [.t 7]⟩, ⟨some 5, none, .mov (.t 8)⟩]) (.seq (.region [ ⟨some 9, none, .mov (.t 1)⟩, ⟨some 10, none, .call 118 [.t 9]⟩, ⟨some 6, none, .mov (.t 10)⟩]) q148_2))
def c_cmp_Compare_string : LC := d_cmp_Compare_string
theorem w_cmp_Compare_string : Unf c_cmp_Compare_string d_cmp_Compare_string := fun _ _ _ _ _ => (rfl)
attribute [simp] e148_1 u148_1 e148_2 u148_2 d_cmp_Compare_string w_cmp_Compare_string
theorem k_cmp_Compare_string : chkF Tryz.prog Tryz.f148 2 [(4, none)] c_cmp_Compare_string = true := by kernel_rfl
/-- cmp.Compare[int] -/
def e149_1 : LC :=
  .seq (.seq (.region [ ⟨some 14, none, .mov (.t 0)⟩, ⟨some 15, none, .mov (.t 1)⟩, ⟨some 16, none, .bin .lss (.t 14) (.t 15)⟩]) (.cond (.t 16) (.seq (.region [ ⟨some 4, none, .mov (.i (-1))⟩]) .ret) .skip)) (.seq (.seq (.region [ ⟨some 17, none, .mov (.t 0)⟩, ⟨some 18, none, .mov (.t 1)⟩, ⟨some 19, none, .bin .gtr (.t 17) (.t 18)⟩]) (.cond (.t 19) (.seq (.region [ ⟨some 4, none, .mov (.i 1)⟩]) .ret) .skip)) (.seq (.region [ ⟨some 4, none, .mov (.i 0)⟩]) .ret))
def q149_1 : LC := e149_1
theorem u149_1 : Unf q149_1 e149_1 := fun _ _ _ _ _ => (rfl)
def e149_2 : LC :=
  .seq (.seq (.region [ ⟨some 11, none, .mov (.t 5)⟩]) (.cond (.t 11) (.seq (.seq (.region [ ⟨some 12, none, .mov (.t 6)⟩]) (.cond (.t 12) (.seq (.region [ ⟨some 4, none, .mov (.i 0)⟩]) .ret) .skip)) (.seq (.region [ ⟨some 4, none, .mov (.i (-1))⟩]) .ret)) .skip)) (.seq (.seq (.region [ ⟨some 13, none, .mov (.t 6)⟩]) (.cond (.t 13) (.seq (.region [ ⟨some 4, none, .mov (.i 1)⟩]) .ret) .skip)) q149_1)
def q149_2 : LC := e149_2
theorem u149_2 : Unf q149_2 e149_2 := fun _ _ _ _ _ => (rfl)
def d_cmp_Compare_int : LC :=
  .seq (.region [ ⟨some 4, none, .mov (.i 0)⟩]) (.seq (.region [ ⟨some 7, none, .mov (.t 0)⟩, ⟨some 8, none, .call 199 [.t 7]⟩, ⟨some 5, none, .mov (.t 8)⟩]) (.seq (.region [ ⟨some 9, none, .mov (.t 1)⟩, ⟨some 10, none, .call 199 [.t 9]⟩, ⟨some 6, none, .mov (.t 10)⟩]) q149_2))
def c_cmp_Compare_int : LC := d_cmp_Compare_int
theorem w_cmp_Compare_int : Unf c_cmp_Compare_int d_cmp_Compare_int := fun _ _ _ _ _ => (rfl)
attribute [simp] e149_1 u149_1 e149_2 u149_2 d_cmp_Compare_int w_cmp_Compare_int
theorem k_cmp_Compare_int : chkF Tryz.prog Tryz.f149 2 [(4, none)] c_cmp_Compare_int = true := by kernel_rfl
/-- slices.ContainsFunc[[]int,int] -/
def d_slices_ContainsFunc_int_int : LC :=
  .seq (.region [ ⟨some 4, none, .mov (.b false)⟩]) (.seq (.region [ ⟨some 5, none, .mov (.t 0)⟩, ⟨some 6, none, .mov (.t 1)⟩, ⟨some 7, none, .call 205 [.t 5, .t 6]⟩, ⟨some 8, none, .bin .geq (.t 7) (.i 0)⟩, ⟨some 4, none, .mov (.t 8)⟩]) .ret)
def c_slices_ContainsFunc_int_int : LC := d_slices_ContainsFunc_int_int
theorem w_slices_ContainsFunc_int_int : Unf c_slices_ContainsFunc_int_int d_slices_ContainsFunc_int_int := fun _ _ _ _ _ => (rfl)
attribute [simp] d_slices_ContainsFunc_int_int w_slices_ContainsFunc_int_int
theorem k_slices_ContainsFunc_int_int : chkF Tryz.prog Tryz.f154 2 [(4, none)] c_slices_ContainsFunc_int_int = true := by kernel_rfl
/-- slices.IndexFunc[[]metrolab/frame.row,metrolab/frame.row] -/
def e159_1 : LC :=
  .seq (.region [ ⟨some 11, none, .mov (.t 1)⟩, ⟨some 12, none, .mov (.t 0)⟩, ⟨some 13, none, .mov (.t 5)⟩, ⟨some 14, none, .idxA 6 (.t 12) (.t 13)⟩, ⟨some 15, none, .load (some 6) (.t 14)⟩, ⟨some 16, none, .callv (.t 11) [.t 15]⟩]) (.cond (.t 16) (.seq (.region [ ⟨some 17, none, .mov (.t 5)⟩, ⟨some 4, none, .mov (.t 17)⟩]) .ret) .skip)
def q159_1 : LC := e159_1
theorem u159_1 : Unf q159_1 e159_1 := fun _ _ _ _ _ => (rfl)
def e159_2 : LC :=
  .seq (.cond (.t 9) .skip (.exit 0)) (.keep [0, 1, 7, 8] [] (.seq (.block 1 (.seq (.region [ ⟨some 10, none, .mov (.t 8)⟩, ⟨some 5, none, .mov (.t 10)⟩]) q159_1)) (.keep [0, 1, 7, 8] [] (.tail [0, 1, 7, 8] [] (.region [ ⟨some 18, none, .bin .add (.t 8) (.i 1)⟩, ⟨some 8, none, .mov (.t 18)⟩])))))
def q159_2 : LC := e159_2
theorem u159_2 : Unf q159_2 e159_2 := fun _ _ _ _ _ => (rfl)
def d_slices_IndexFunc_frame_row_frame_row : LC :=
  .seq (.region [ ⟨some 4, none, .mov (.i 0)⟩]) (.seq (.seq (.region [ ⟨some 6, none, .mov (.t 0)⟩, ⟨some 7, none, .lenL (.t 6)⟩, ⟨some 8, none, .mov (.i 0)⟩]) (.block 0 (.keep [0, 1, 7, 8] [] (.loop (.seq (.region [ ⟨some 9, none, .bin .lss (.t 8) (.t 7)⟩]) q159_2))))) (.seq (.region [ ⟨some 4, none, .mov (.i (-1))⟩]) .ret))
def c_slices_IndexFunc_frame_row_frame_row : LC := d_slices_IndexFunc_frame_row_frame_row
theorem w_slices_IndexFunc_frame_row_frame_row : Unf c_slices_IndexFunc_frame_row_frame_row d_slices_IndexFunc_frame_row_frame_row := fun _ _ _ _ _ => (rfl)
attribute [simp] e159_1 u159_1 e159_2 u159_2 d_slices_IndexFunc_frame_row_frame_row w_slices_IndexFunc_frame_row_frame_row
theorem k_slices_IndexFunc_frame_row_frame_row : chkF Tryz.prog Tryz.f159 2 [(4, none)] c_slices_IndexFunc_frame_row_frame_row = true := by kernel_rfl
/-- slices.ContainsFunc[[]metrolab/api.Datum,metrolab/api.Datum] -/
def d_slices_ContainsFunc_api_Datum_api_Datum : LC :=
  .seq (.region [ ⟨some 4, none, .mov (.b false)⟩]) (.seq (.region [ ⟨some 5, none, .mov (.t 0)⟩, ⟨some 6, none, .mov (.t 1)⟩, ⟨some 7, none, .call 214 [.t 5, .t 6]⟩, ⟨some 8, none, .bin .geq (.t 7) (.i 0)⟩, ⟨some 4, none, .mov (.t 8)⟩]) .ret)
def c_slices_ContainsFunc_api_Datum_api_Datum : LC := d_slices_ContainsFunc_api_Datum_api_Datum
theorem w_slices_ContainsFunc_api_Datum_api_Datum : Unf c_slices_ContainsFunc_api_Datum_api_Datum d_slices_ContainsFunc_api_Datum_api_Datum := fun _ _ _ _ _ => (rfl)
attribute [simp] d_slices_ContainsFunc_api_Datum_api_Datum w_slices_ContainsFunc_api_Datum_api_Datum
theorem k_slices_ContainsFunc_api_Datum_api_Datum : chkF Tryz.prog Tryz.f169 2 [(4, none)] c_slices_ContainsFunc_api_Datum_api_Datum = true := by kernel_rfl
/-- slices.IndexFunc[[]metrolab/api.Frame,metrolab/api.Frame] -/
def e171_1 : LC :=
  .seq (.region [ ⟨some 11, none, .mov (.t 1)⟩, ⟨some 12, none, .mov (.t 0)⟩, ⟨some 13, none, .mov (.t 5)⟩, ⟨some 14, none, .idxA 5 (.t 12) (.t 13)⟩, ⟨some 15, none, .load (some 5) (.t 14)⟩, ⟨some 16, none, .callv (.t 11) [.t 15]⟩]) (.cond (.t 16) (.seq (.region [ ⟨some 17, none, .mov (.t 5)⟩, ⟨some 4, none, .mov (.t 17)⟩]) .ret) .skip)
def q171_1 : LC := e171_1
theorem u171_1 : Unf q171_1 e171_1 := fun _ _ _ _ _ => (rfl)
def e171_2 : LC :=
  .seq (.cond (.t 9) .skip (.exit 0)) (.keep [0, 1, 7, 8] [] (.seq (.block 1 (.seq (.region [ ⟨some 10, none, .mov (.t 8)⟩, ⟨some 5, none, .mov (.t 10)⟩]) q171_1)) (.keep [0, 1, 7, 8] [] (.tail [0, 1, 7, 8] [] (.region [ ⟨some 18, none, .bin .add (.t 8) (.i 1)⟩, ⟨some 8, none, .mov (.t 18)⟩])))))
def q171_2 : LC := e171_2
theorem u171_2 : Unf q171_2 e171_2 := fun _ _ _ _ _ => (rfl)
def d_slices_IndexFunc_api_Frame_api_Frame : LC :=
  .seq (.region [ ⟨some 4, none, .mov (.i 0)⟩]) (.seq (.seq (.region [ ⟨some 6, none, .mov (.t 0)⟩, ⟨some 7, none, .lenL (.t 6)⟩, ⟨some 8, none, .mov (.i 0)⟩]) (.block 0 (.keep [0, 1, 7, 8] [] (.loop (.seq (.region [ ⟨some 9, none, .bin .lss (.t 8) (.t 7)⟩]) q171_2))))) (.seq (.region [ ⟨some 4, none, .mov (.i (-1))⟩]) .ret))
def c_slices_IndexFunc_api_Frame_api_Frame : LC := d_slices_IndexFunc_api_Frame_api_Frame
theorem w_slices_IndexFunc_api_Frame_api_Frame : Unf c_slices_IndexFunc_api_Frame_api_Frame d_slices_IndexFunc_api_Frame_api_Frame := fun _ _ _ _ _ => (rfl)
attribute [simp] e171_1 u171_1 e171_2 u171_2 d_slices_IndexFunc_api_Frame_api_Frame w_slices_IndexFunc_api_Frame_api_Frame
theorem k_slices_IndexFunc_api_Frame_api_Frame : chkF Tryz.prog Tryz.f171 2 [(4, none)] c_slices_IndexFunc_api_Frame_api_Frame = true := by kernel_rfl
/-- cmp.isNaN[int] -/
def d_cmp_isNaN_int : LC :=
  .seq (.region [ ⟨some 2, none, .mov (.b false)⟩]) (.seq (.region [ ⟨some 3, none, .mov (.t 0)⟩, ⟨some 4, none, .mov (.t 0)⟩, ⟨some 5, none, .bin .neq (.t 3) (.t 4)⟩, ⟨some 2, none, .mov (.t 5)⟩]) .ret)
def c_cmp_isNaN_int : LC := d_cmp_isNaN_int
theorem w_cmp_isNaN_int : Unf c_cmp_isNaN_int d_cmp_isNaN_int := fun _ _ _ _ _ => (rfl)
attribute [simp] d_cmp_isNaN_int w_cmp_isNaN_int
theorem k_cmp_isNaN_int : chkF Tryz.prog Tryz.f199 1 [(2, none)] c_cmp_isNaN_int = true := by kernel_rfl
/-- strings.CutPrefix -/
def d_strings_CutPrefix : LC :=
  .seq (.region [ ⟨some 4, none, .mov (.s [])⟩, ⟨some 5, none, .mov (.b false)⟩]) (.seq (.region [ ⟨some 6, none, .mov (.t 0)⟩, ⟨some 7, none, .mov (.t 1)⟩, ⟨some 8, none, .call 241 [.t 6, .t 7]⟩, ⟨some 9, none, .ext (.t 8) 0⟩, ⟨some 10, none, .ext (.t 8) 1⟩, ⟨some 4, none, .mov (.t 9)⟩, ⟨some 5, none, .mov (.t 10)⟩]) .ret)
def c_strings_CutPrefix : LC := d_strings_CutPrefix
theorem w_strings_CutPrefix : Unf c_strings_CutPrefix d_strings_CutPrefix := fun _ _ _ _ _ => (rfl)
attribute [simp] d_strings_CutPrefix w_strings_CutPrefix
theorem k_strings_CutPrefix : chkF Tryz.prog Tryz.f203 2 [(4, none), (5, none)] c_strings_CutPrefix = true := by kernel_rfl
/-- strings.Trim -/
def e204_1 : LC :=
  .seq (.draw [0, 0, 2, 7, 0, 16, 63, 127] [ ⟨some 22, none, .mov (.t 0)⟩, ⟨some 23, none, .mov (.t 1)⟩, ⟨some 24, none, .idxS (.t 23) (.i 0)⟩, ⟨some 25, none, .call 243 [.t 22, .t 24]⟩, ⟨some 26, none, .mov (.t 1)⟩, ⟨some 27, none, .idxS (.t 26) (.i 0)⟩, ⟨some 28, none, .call 242 [.t 25, .t 27]⟩, ⟨some 4, none, .mov (.t 28)⟩]) .ret
def q204_1 : LC := e204_1
theorem u204_1 : Unf q204_1 e204_1 := fun _ _ _ _ _ => (rfl)
def e204_2 : LC :=
  .seq (.seq (.region [ ⟨some 30, none, .mov (.t 1)⟩, ⟨some 31, none, .call 244 [.t 30]⟩, ⟨some 29, none, .mov (.t 31)⟩, ⟨some 32, none, .ext (.t 29) 0⟩, ⟨some 33, none, .ext (.t 29) 1⟩, ⟨some 5, none, .alloc 5 [.d (.bool false), .d (.bool false), .d (.bool false), .d (.bool false), .d (.bool false), .d (.bool false), .d (.bool false), .d (.bool false), .d (.bool false), .d (.bool false), .d (.bool false), .d (.bool false), .d (.bool false), .d (.bool false), .d (.bool false), .d (.bool false), .d (.bool false), .d (.bool false), .d (.bool false), .d (.bool false), .d (.bool false), .d (.bool false), .d (.bool false), .d (.bool false), .d (.bool false), .d (.bool false), .d (.bool false), .d (.bool false), .d (.bool false), .d (.bool false), .d (.bool false), .d (.bool false), .d (.bool false), .d (.bool false), .d (.bool false), .d (.bool false), .d (.bool false), .d (.bool false), .d (.bool false), .d (.bool false), .d (.bool false), .d (.bool false), .d (.bool false), .d (.bool false), .d (.bool false), .d (.bool false), .d (.bool false), .d (.bool false), .d (.bool false), .d (.bool false), .d (.bool false), .d (.bool false), .d (.bool false), .d (.bool false), .d (.bool false), .d (.bool false), .d (.bool false), .d (.bool false), .d (.bool false), .d (.bool false), .d (.bool false), .d (.bool false), .d (.bool false), .d (.bool false), .d (.bool false), .d (.bool false), .d (.bool false), .d (.bool false), .d (.bool false), .d (.bool false), .d (.bool false), .d (.bool false), .d (.bool false), .d (.bool false), .d (.bool false), .d (.bool false), .d (.bool false), .d (.bool false), .d (.bool false), .d (.bool false), .d (.bool false), .d (.bool false), .d (.bool false), .d (.bool false), .d (.bool false), .d (.bool false), .d (.bool false), .d (.bool false), .d (.bool false), .d (.bool false), .d (.bool false), .d (.bool false), .d (.bool false), .d (.bool false), .d (.bool false), .d (.bool false), .d (.bool false), .d (.bool false), .d (.bool false), .d (.bool false), .d (.bool false), .d (.bool false), .d (.bool false), .d (.bool false), .d (.bool false), .d (.bool false), .d (.bool false), .d (.bool false), .d (.bool false), .d (.bool false), .d (.bool false), .d (.bool false), .d (.bool false), .d (.bool false), .d (.bool false), .d (.bool false), .d (.bool false), .d (.bool false), .d (.bool false), .d (.bool false), .d (.bool false), .d (.bool false), .d (.bool false), .d (.bool false), .d (.bool false), .d (.bool false), .d (.bool false), .d (.bool false), .d (.bool false), .d (.bool false), .d (.bool false), .d (.bool false), .d (.bool false), .d (.bool false), .d (.bool false), .d (.bool false), .d (.bool false), .d (.bool false), .d (.bool false), .d (.bool false), .d (.bool false), .d (.bool false), .d (.bool false), .d (.bool false), .d (.bool false), .d (.bool false), .d (.bool false), .d (.bool false), .d (.bool false), .d (.bool false), .d (.bool false), .d (.bool false), .d (.bool false), .d (.bool false), .d (.bool false), .d (.bool false), .d (.bool false), .d (.bool false), .d (.bool false), .d (.bool false), .d (.bool false), .d (.bool false), .d (.bool false), .d (.bool false), .d (.bool false), .d (.bool false), .d (.bool false), .d (.bool false), .d (.bool false), .d (.bool false), .d (.bool false), .d (.bool false), .d (.bool false), .d (.bool false), .d (.bool false), .d (.bool false), .d (.bool false), .d (.bool false), .d (.bool false), .d (.bool false), .d (.bool false), .d (.bool false), .d (.bool false), .d (.bool false), .d (.bool false), .d (.bool false), .d (.bool false), .d (.bool false), .d (.bool false), .d (.bool false), .d (.bool false), .d (.bool false), .d (.bool false), .d (.bool false), .d (.bool false), .d (.bool false), .d (.bool false), .d (.bool false), .d (.bool false), .d (.bool false), .d (.bool false), .d (.bool false), .d (.bool false), .d (.bool false), .d (.bool false), .d (.bool false), .d (.bool false), .d (.bool false), .d (.bool false), .d (.bool false), .d (.bool false), .d (.bool false), .d (.bool false), .d (.bool false), .d (.bool false), .d (.bool false), .d (.bool false), .d (.bool false), .d (.bool false), .d (.bool false), .d (.bool false), .d (.bool false), .d (.bool false), .d (.bool false), .d (.bool false), .d (.bool false), .d (.bool false), .d (.bool false), .d (.bool false), .d (.bool false), .d (.bool false), .d (.bool false), .d (.bool false), .d (.bool false), .d (.bool false), .d (.bool false), .d (.bool false), .d (.bool false), .d (.bool false), .d (.bool false), .d (.bool false), .d (.bool false), .d (.bool false), .d (.bool false), .d (.bool false), .d (.bool false), .d (.bool false), .d (.bool false), .d (.bool false), .d (.bool false), .d (.bool false), .d (.bool false), .d (.bool false), .d (.bool false), .d (.bool false), .d (.bool false)]⟩, ⟨none, none, .store 256 (.t 5) (.t 32)⟩, ⟨some 6, none, .mov (.t 33)⟩]) (.seq (.region [ ⟨some 34, none, .mov (.t 6)⟩]) (.cond (.t 34) (.seq (.region [ ⟨some 35, none, .mov (.t 0)⟩, ⟨some 36, none, .call 246 [.t 35, .t 5]⟩, ⟨some 37, none, .call 245 [.t 36, .t 5]⟩, ⟨some 4, none, .mov (.t 37)⟩]) .ret) .skip))) (.seq (.region [ ⟨some 38, none, .mov (.t 0)⟩, ⟨some 39, none, .mov (.t 1)⟩, ⟨some 40, none, .call 248 [.t 38, .t 39]⟩, ⟨some 41, none, .mov (.t 1)⟩, ⟨some 42, none, .call 247 [.t 40, .t 41]⟩, ⟨some 4, none, .mov (.t 42)⟩]) .ret)
def q204_2 : LC := e204_2
theorem u204_2 : Unf q204_2 e204_2 := fun _ _ _ _ _ => (rfl)
def e204_3 : LC :=
  .seq (.seq (.region [ ⟨some 14, none, .mov (.t 1)⟩, ⟨some 15, none, .lenS (.t 14)⟩, ⟨some 16, none, .bin .eql (.t 15) (.i 1)⟩, ⟨some 17, none, .mov (.t 16)⟩, ⟨some 18, some (17, true), .mov (.t 1)⟩, ⟨some 19, some (17, true), .idxS (.t 18) (.i 0)⟩, ⟨some 20, some (17, true), .bin .lss (.t 19) (.c (.at (.d (.int .u8 128))))⟩, ⟨some 21, none, .pick (.t 17) (.t 20) (.b false)⟩]) (.cond (.t 21) q204_1 .skip)) q204_2
def q204_3 : LC := e204_3
theorem u204_3 : Unf q204_3 e204_3 := fun _ _ _ _ _ => (rfl)
def e204_4 : LC :=
  .seq (.seq (.region [ ⟨some 7, none, .mov (.t 0)⟩, ⟨some 8, none, .bin .eql (.t 7) (.s [])⟩, ⟨some 9, none, .mov (.t 8)⟩, ⟨some 10, some (9, false), .mov (.t 1)⟩, ⟨some 11, some (9, false), .bin .eql (.t 10) (.s [])⟩, ⟨some 12, none, .pick (.t 9) (.b true) (.t 11)⟩]) (.cond (.t 12) (.seq (.region [ ⟨some 13, none, .mov (.t 0)⟩, ⟨some 4, none, .mov (.t 13)⟩]) .ret) .skip)) q204_3
def q204_4 : LC := e204_4
theorem u204_4 : Unf q204_4 e204_4 := fun _ _ _ _ _ => (rfl)
def d_strings_Trim : LC :=
  .seq (.region [ ⟨some 4, none, .mov (.s [])⟩]) q204_4
def c_strings_Trim : LC := d_strings_Trim
theorem w_strings_Trim : Unf c_strings_Trim d_strings_Trim := fun _ _ _ _ _ => (rfl)
attribute [simp] e204_1 u204_1 e204_2 u204_2 e204_3 u204_3 e204_4 u204_4 d_strings_Trim w_strings_Trim
theorem k_strings_Trim : chkF Tryz.prog Tryz.f204 2 [(4, none)] c_strings_Trim = true := by kernel_rfl
/-- slices.IndexFunc[[]int,int] -/
def e205_1 : LC :=
  .seq (.region [ ⟨some 11, none, .mov (.t 1)⟩, ⟨some 12, none, .mov (.t 0)⟩, ⟨some 13, none, .mov (.t 5)⟩, ⟨some 14, none, .idxA 1 (.t 12) (.t 13)⟩, ⟨some 15, none, .load none (.t 14)⟩, ⟨some 16, none, .callv (.t 11) [.t 15]⟩]) (.cond (.t 16) (.seq (.region [ ⟨some 17, none, .mov (.t 5)⟩, ⟨some 4, none, .mov (.t 17)⟩]) .ret) .skip)
def q205_1 : LC := e205_1
theorem u205_1 : Unf q205_1 e205_1 := fun _ _ _ _ _ => (rfl)
def e205_2 : LC :=
  .seq (.cond (.t 9) .skip (.exit 0)) (.keep [0, 1, 7, 8] [] (.seq (.block 1 (.seq (.region [ ⟨some 10, none, .mov (.t 8)⟩, ⟨some 5, none, .mov (.t 10)⟩]) q205_1)) (.keep [0, 1, 7, 8] [] (.tail [0, 1, 7, 8] [] (.region [ ⟨some 18, none, .bin .add (.t 8) (.i 1)⟩, ⟨some 8, none, .mov (.t 18)⟩])))))
def q205_2 : LC := e205_2
theorem u205_2 : Unf q205_2 e205_2 := fun _ _ _ _ _ => (rfl)
def d_slices_IndexFunc_int_int : LC :=
  .seq (.region [ ⟨some 4, none, .mov (.i 0)⟩]) (.seq (.seq (.region [ ⟨some 6, none, .mov (.t 0)⟩, ⟨some 7, none, .lenL (.t 6)⟩, ⟨some 8, none, .mov (.i 0)⟩]) (.block 0 (.keep [0, 1, 7, 8] [] (.loop (.seq (.region [ ⟨some 9, none, .bin .lss (.t 8) (.t 7)⟩]) q205_2))))) (.seq (.region [ ⟨some 4, none, .mov (.i (-1))⟩]) .ret))
def c_slices_IndexFunc_int_int : LC := d_slices_IndexFunc_int_int
theorem w_slices_IndexFunc_int_int : Unf c_slices_IndexFunc_int_int d_slices_IndexFunc_int_int := fun _ _ _ _ _ => (rfl)
attribute [simp] e205_1 u205_1 e205_2 u205_2 d_slices_IndexFunc_int_int w_slices_IndexFunc_int_int
theorem k_slices_IndexFunc_int_int : chkF Tryz.prog Tryz.f205 2 [(4, none)] c_slices_IndexFunc_int_int = true := by kernel_rfl
/-- strings.CutSuffix -/
def d_strings_CutSuffix : LC :=
  .seq (.region [ ⟨some 4, none, .mov (.s [])⟩, ⟨some 5, none, .mov (.b false)⟩]) (.seq (.region [ ⟨some 6, none, .mov (.t 0)⟩, ⟨some 7, none, .mov (.t 1)⟩, ⟨some 8, none, .call 254 [.t 6, .t 7]⟩, ⟨some 9, none, .ext (.t 8) 0⟩, ⟨some 10, none, .ext (.t 8) 1⟩, ⟨some 4, none, .mov (.t 9)⟩, ⟨some 5, none, .mov (.t 10)⟩]) .ret)
def c_strings_CutSuffix : LC := d_strings_CutSuffix
theorem w_strings_CutSuffix : Unf c_strings_CutSuffix d_strings_CutSuffix := fun _ _ _ _ _ => (rfl)
attribute [simp] d_strings_CutSuffix w_strings_CutSuffix
theorem k_strings_CutSuffix : chkF Tryz.prog Tryz.f209 2 [(4, none), (5, none)] c_strings_CutSuffix = true := by kernel_rfl
/-- slices.IndexFunc[[]metrolab/api.Datum,metrolab/api.Datum] -/
def e214_1 : LC :=
  .seq (.region [ ⟨some 11, none, .mov (.t 1)⟩, ⟨some 12, none, .mov (.t 0)⟩, ⟨some 13, none, .mov (.t 5)⟩, ⟨some 14, none, .idxA 2 (.t 12) (.t 13)⟩, ⟨some 15, none, .load (some 2) (.t 14)⟩, ⟨some 16, none, .callv (.t 11) [.t 15]⟩]) (.cond (.t 16) (.seq (.region [ ⟨some 17, none, .mov (.t 5)⟩, ⟨some 4, none, .mov (.t 17)⟩]) .ret) .skip)
def q214_1 : LC := e214_1
theorem u214_1 : Unf q214_1 e214_1 := fun _ _ _ _ _ => (rfl)
def e214_2 : LC :=
  .seq (.cond (.t 9) .skip (.exit 0)) (.keep [0, 1, 7, 8] [] (.seq (.block 1 (.seq (.region [ ⟨some 10, none, .mov (.t 8)⟩, ⟨some 5, none, .mov (.t 10)⟩]) q214_1)) (.keep [0, 1, 7, 8] [] (.tail [0, 1, 7, 8] [] (.region [ ⟨some 18, none, .bin .add (.t 8) (.i 1)⟩, ⟨some 8, none, .mov (.t 18)⟩])))))
def q214_2 : LC := e214_2
theorem u214_2 : Unf q214_2 e214_2 := fun _ _ _ _ _ => (rfl)
def d_slices_IndexFunc_api_Datum_api_Datum : LC :=
  .seq (.region [ ⟨some 4, none, .mov (.i 0)⟩]) (.seq (.seq (.region [ ⟨some 6, none, .mov (.t 0)⟩, ⟨some 7, none, .lenL (.t 6)⟩, ⟨some 8, none, .mov (.i 0)⟩]) (.block 0 (.keep [0, 1, 7, 8] [] (.loop (.seq (.region [ ⟨some 9, none, .bin .lss (.t 8) (.t 7)⟩]) q214_2))))) (.seq (.region [ ⟨some 4, none, .mov (.i (-1))⟩]) .ret))
def c_slices_IndexFunc_api_Datum_api_Datum : LC := d_slices_IndexFunc_api_Datum_api_Datum
theorem w_slices_IndexFunc_api_Datum_api_Datum : Unf c_slices_IndexFunc_api_Datum_api_Datum d_slices_IndexFunc_api_Datum_api_Datum := fun _ _ _ _ _ => (rfl)
attribute [simp] e214_1 u214_1 e214_2 u214_2 d_slices_IndexFunc_api_Datum_api_Datum w_slices_IndexFunc_api_Datum_api_Datum
theorem k_slices_IndexFunc_api_Datum_api_Datum : chkF Tryz.prog Tryz.f214 2 [(4, none)] c_slices_IndexFunc_api_Datum_api_Datum = true := by kernel_rfl
/-- strings.trimLeftByte -/
def e242_1 : LC :=
  .seq (.seq (.region [ ⟨some 5, none, .mov (.t 0)⟩, ⟨some 6, none, .lenS (.t 5)⟩, ⟨some 7, none, .bin .gtr (.t 6) (.i 0)⟩, ⟨some 8, none, .mov (.t 7)⟩, ⟨some 9, some (8, true), .mov (.t 0)⟩, ⟨some 10, some (8, true), .idxS (.t 9) (.i 0)⟩, ⟨some 11, some (8, true), .mov (.t 1)⟩, ⟨some 12, some (8, true), .bin .eql (.t 10) (.t 11)⟩, ⟨some 13, none, .pick (.t 8) (.t 12) (.b false)⟩]) (.cond (.t 13) .skip (.exit 0))) (.tail [0, 1] [] (.block 1 (.region [ ⟨some 14, none, .mov (.t 0)⟩, ⟨some 15, none, .slcS (.t 14) (some (.i 1)) none⟩, ⟨some 0, none, .mov (.t 15)⟩])))
def q242_1 : LC := e242_1
theorem u242_1 : Unf q242_1 e242_1 := fun _ _ _ _ _ => (rfl)
def d_strings_trimLeftByte : LC :=
  .seq (.region [ ⟨some 4, none, .mov (.s [])⟩]) (.seq (.block 0 (.keep [0, 1] [] (.loop q242_1))) (.keep [0] [] (.seq (.region [ ⟨some 16, none, .mov (.t 0)⟩, ⟨some 4, none, .mov (.t 16)⟩]) .ret)))
def c_strings_trimLeftByte : LC := d_strings_trimLeftByte
theorem w_strings_trimLeftByte : Unf c_strings_trimLeftByte d_strings_trimLeftByte := fun _ _ _ _ _ => (rfl)
attribute [simp] e242_1 u242_1 d_strings_trimLeftByte w_strings_trimLeftByte
theorem k_strings_trimLeftByte : chkF Tryz.prog Tryz.f242 2 [(4, none)] c_strings_trimLeftByte = true := by kernel_rfl
/-- strings.trimRightByte -/
def e243_1 : LC :=
  .seq (.seq (.region [ ⟨some 5, none, .mov (.t 0)⟩, ⟨some 6, none, .lenS (.t 5)⟩, ⟨some 7, none, .bin .gtr (.t 6) (.i 0)⟩, ⟨some 8, none, .mov (.t 7)⟩, ⟨some 9, some (8, true), .mov (.t 0)⟩, ⟨some 10, some (8, true), .mov (.t 0)⟩, ⟨some 11, some (8, true), .lenS (.t 10)⟩, ⟨some 12, some (8, true), .bin .sub (.t 11) (.i 1)⟩, ⟨some 13, some (8, true), .idxS (.t 9) (.t 12)⟩, ⟨some 14, some (8, true), .mov (.t 1)⟩, ⟨some 15, some (8, true), .bin .eql (.t 13) (.t 14)⟩, ⟨some 16, none, .pick (.t 8) (.t 15) (.b false)⟩]) (.cond (.t 16) .skip (.exit 0))) (.tail [0, 1] [] (.block 1 (.region [ ⟨some 17, none, .mov (.t 0)⟩, ⟨some 18, none, .mov (.t 0)⟩, ⟨some 19, none, .lenS (.t 18)⟩, ⟨some 20, none, .bin .sub (.t 19) (.i 1)⟩, ⟨some 21, none, .slcS (.t 17) none (some (.t 20))⟩, ⟨some 0, none, .mov (.t 21)⟩])))
def q243_1 : LC := e243_1
theorem u243_1 : Unf q243_1 e243_1 := fun _ _ _ _ _ => (rfl)
def d_strings_trimRightByte : LC :=
  .seq (.region [ ⟨some 4, none, .mov (.s [])⟩]) (.seq (.block 0 (.keep [0, 1] [] (.loop q243_1))) (.keep [0] [] (.seq (.region [ ⟨some 22, none, .mov (.t 0)⟩, ⟨some 4, none, .mov (.t 22)⟩]) .ret)))
def c_strings_trimRightByte : LC := d_strings_trimRightByte
theorem w_strings_trimRightByte : Unf c_strings_trimRightByte d_strings_trimRightByte := fun _ _ _ _ _ => (rfl)
attribute [simp] e243_1 u243_1 d_strings_trimRightByte w_strings_trimRightByte
theorem k_strings_trimRightByte : chkF Tryz.prog Tryz.f243 2 [(4, none)] c_strings_trimRightByte = true := by kernel_rfl
/-- strings.makeASCIISet -/
def e244_1 : LC :=
  .seq (.seq (.region [ ⟨some 15, none, .mov (.t 5)⟩, ⟨some 16, none, .bin .geq (.t 15) (.c (.at (.d (.int .u8 128))))⟩]) (.cond (.t 16) (.seq (.region [ ⟨some 17, none, .load (some 256) (.t 2)⟩, ⟨none, none, .store 256 (.t 2) (.t 17)⟩, ⟨some 3, none, .mov (.b false)⟩]) .ret) .skip)) (.region [ ⟨some 18, none, .mov (.t 5)⟩, ⟨some 19, none, .idxAA 256 1 (.t 2) (.t 18)⟩, ⟨none, none, .store 1 (.t 19) (.b true)⟩])
def q244_1 : LC := e244_1
theorem u244_1 : Unf q244_1 e244_1 := fun _ _ _ _ _ => (rfl)
def e244_2 : LC :=
  .seq (.block 1 (.seq (.region [ ⟨some 12, none, .mov (.t 0)⟩, ⟨some 13, none, .mov (.t 4)⟩, ⟨some 14, none, .idxS (.t 12) (.t 13)⟩, ⟨some 5, none, .mov (.t 14)⟩]) q244_1)) (.keep [0, 2, 4] [2] (.tail [0, 2, 4] [2] (.region [ ⟨some 10, none, .mov (.t 4)⟩, ⟨some 11, none, .bin .add (.t 10) (.i 1)⟩, ⟨some 4, none, .mov (.t 11)⟩])))
def q244_2 : LC := e244_2
theorem u244_2 : Unf q244_2 e244_2 := fun _ _ _ _ _ => (rfl)
def e244_3 : LC :=
  .seq (.seq (.region [ ⟨some 4, none, .mov (.i 0)⟩]) (.block 0 (.keep [0, 2, 4] [2] (.loop (.seq (.seq (.region [ ⟨some 6, none, .mov (.t 4)⟩, ⟨some 7, none, .mov (.t 0)⟩, ⟨some 8, none, .lenS (.t 7)⟩, ⟨some 9, none, .bin .lss (.t 6) (.t 8)⟩]) (.cond (.t 9) .skip (.exit 0))) q244_2))))) (.seq (.region [ ⟨some 20, none, .load (some 256) (.t 2)⟩, ⟨none, none, .store 256 (.t 2) (.t 20)⟩, ⟨some 3, none, .mov (.b true)⟩]) .ret)
def q244_3 : LC := e244_3
theorem u244_3 : Unf q244_3 e244_3 := fun _ _ _ _ _ => (rfl)
def d_strings_makeASCIISet : LC :=
  .seq (.region [ ⟨some 2, none, .alloc 2 [.d (.bool false), .d (.bool false), .d (.bool false), .d (.bool false), .d (.bool false), .d (.bool false), .d (.bool false), .d (.bool false), .d (.bool false), .d (.bool false), .d (.bool false), .d (.bool false), .d (.bool false), .d (.bool false), .d (.bool false), .d (.bool false), .d (.bool false), .d (.bool false), .d (.bool false), .d (.bool false), .d (.bool false), .d (.bool false), .d (.bool false), .d (.bool false), .d (.bool false), .d (.bool false), .d (.bool false), .d (.bool false), .d (.bool false), .d (.bool false), .d (.bool false), .d (.bool false), .d (.bool false), .d (.bool false), .d (.bool false), .d (.bool false), .d (.bool false), .d (.bool false), .d (.bool false), .d (.bool false), .d (.bool false), .d (.bool false), .d (.bool false), .d (.bool false), .d (.bool false), .d (.bool false), .d (.bool false), .d (.bool false), .d (.bool false), .d (.bool false), .d (.bool false), .d (.bool false), .d (.bool false), .d (.bool false), .d (.bool false), .d (.bool false), .d (.bool false), .d (.bool false), .d (.bool false), .d (.bool false), .d (.bool false), .d (.bool false), .d (.bool false), .d (.bool false), .d (.bool false), .d (.bool false), .d (.bool false), .d (.bool false), .d (.bool false), .d (.bool false), .d (.bool false), .d (.bool false), .d (.bool false), .d (.bool false), .d (.bool false), .d (.bool false), .d (.bool false), .d (.bool false), .d (.bool false), .d (.bool false), .d (.bool false), .d (.bool false), .d (.bool false), .d (.bool false), .d (.bool false), .d (.bool false), .d (.bool false), .d (.bool false), .d (.bool false), .d (.bool false), .d (.bool false), .d (.bool false), .d (.bool false), .d (.bool false), .d (.bool false), .d (.bool false), .d (.bool false), .d (.bool false), .d (.bool false), .d (.bool false), .d (.bool false), .d (.bool false), .d (.bool false), .d (.bool false), .d (.bool false), .d (.bool false), .d (.bool false), .d (.bool false), .d (.bool false), .d (.bool false), .d (.bool false), .d (.bool false), .d (.bool false), .d (.bool false), .d (.bool false), .d (.bool false), .d (.bool false), .d (.bool false), .d (.bool false), .d (.bool false), .d (.bool false), .d (.bool false), .d (.bool false), .d (.bool false), .d (.bool false), .d (.bool false), .d (.bool false), .d (.bool false), .d (.bool false), .d (.bool false), .d (.bool false), .d (.bool false), .d (.bool false), .d (.bool false), .d (.bool false), .d (.bool false), .d (.bool false), .d (.bool false), .d (.bool false), .d (.bool false), .d (.bool false), .d (.bool false), .d (.bool false), .d (.bool false), .d (.bool false), .d (.bool false), .d (.bool false), .d (.bool false), .d (.bool false), .d (.bool false), .d (.bool false), .d (.bool false), .d (.bool false), .d (.bool false), .d (.bool false), .d (.bool false), .d (.bool false), .d (.bool false), .d (.bool false), .d (.bool false), .d (.bool false), .d (.bool false), .d (.bool false), .d (.bool false), .d (.bool false), .d (.bool false), .d (.bool false), .d (.bool false), .d (.bool false), .d (.bool false), .d (.bool false), .d (.bool false), .d (.bool false), .d (.bool false), .d (.bool false), .d (.bool false), .d (.bool false), .d (.bool false), .d (.bool false), .d (.bool false), .d (.bool false), .d (.bool false), .d (.bool false), .d (.bool false), .d (.bool false), .d (.bool false), .d (.bool false), .d (.bool false), .d (.bool false), .d (.bool false), .d (.bool false), .d (.bool false), .d (.bool false), .d (.bool false), .d (.bool false), .d (.bool false), .d (.bool false), .d (.bool false), .d (.bool false), .d (.bool false), .d (.bool false), .d (.bool false), .d (.bool false), .d (.bool false), .d (.bool false), .d (.bool false), .d (.bool false), .d (.bool false), .d (.bool false), .d (.bool false), .d (.bool false), .d (.bool false), .d (.bool false), .d (.bool false), .d (.bool false), .d (.bool false), .d (.bool false), .d (.bool false), .d (.bool false), .d (.bool false), .d (.bool false), .d (.bool false), .d (.bool false), .d (.bool false), .d (.bool false), .d (.bool false), .d (.bool false), .d (.bool false), .d (.bool false), .d (.bool false), .d (.bool false), .d (.bool false), .d (.bool false), .d (.bool false), .d (.bool false), .d (.bool false), .d (.bool false), .d (.bool false), .d (.bool false), .d (.bool false), .d (.bool false), .d (.bool false), .d (.bool false), .d (.bool false), .d (.bool false), .d (.bool false), .d (.bool false), .d (.bool false), .d (.bool false), .d (.bool false), .d (.bool false), .d (.bool false), .d (.bool false), .d (.bool false), .d (.bool false), .d (.bool false)]⟩, ⟨some 3, none, .mov (.b false)⟩]) q244_3
def c_strings_makeASCIISet : LC := d_strings_makeASCIISet
theorem w_strings_makeASCIISet : Unf c_strings_makeASCIISet d_strings_makeASCIISet := fun _ _ _ _ _ => (rfl)
attribute [simp] e244_1 u244_1 e244_2 u244_2 e244_3 u244_3 d_strings_makeASCIISet w_strings_makeASCIISet
theorem k_strings_makeASCIISet : chkF Tryz.prog Tryz.f244 1 [(2, some (some 256)), (3, none)] c_strings_makeASCIISet = true := by kernel_rfl
/-- strings.trimLeftASCII -/
def e245_1 : LC :=
  .tail [0, 1] [] (.block 1 (.seq (.seq (.region [ ⟨some 8, none, .mov (.t 1)⟩, ⟨some 9, none, .mov (.t 0)⟩, ⟨some 10, none, .idxS (.t 9) (.i 0)⟩, ⟨some 11, none, .call 267 [.t 8, .t 10]⟩, ⟨some 12, none, .not (.t 11)⟩]) (.cond (.t 12) (.exit 0) .skip)) (.region [ ⟨some 13, none, .mov (.t 0)⟩, ⟨some 14, none, .slcS (.t 13) (some (.i 1)) none⟩, ⟨some 0, none, .mov (.t 14)⟩])))
def q245_1 : LC := e245_1
theorem u245_1 : Unf q245_1 e245_1 := fun _ _ _ _ _ => (rfl)
def e245_2 : LC :=
  .seq (.block 0 (.keep [0, 1] [] (.loop (.seq (.seq (.region [ ⟨some 5, none, .mov (.t 0)⟩, ⟨some 6, none, .lenS (.t 5)⟩, ⟨some 7, none, .bin .gtr (.t 6) (.i 0)⟩]) (.cond (.t 7) .skip (.exit 0))) q245_1)))) (.keep [0] [] (.seq (.region [ ⟨some 15, none, .mov (.t 0)⟩, ⟨some 4, none, .mov (.t 15)⟩]) .ret))
def q245_2 : LC := e245_2
theorem u245_2 : Unf q245_2 e245_2 := fun _ _ _ _ _ => (rfl)
def d_strings_trimLeftASCII : LC :=
  .seq (.region [ ⟨some 4, none, .mov (.s [])⟩]) q245_2
def c_strings_trimLeftASCII : LC := d_strings_trimLeftASCII
theorem w_strings_trimLeftASCII : Unf c_strings_trimLeftASCII d_strings_trimLeftASCII := fun _ _ _ _ _ => (rfl)
attribute [simp] e245_1 u245_1 e245_2 u245_2 d_strings_trimLeftASCII w_strings_trimLeftASCII
theorem k_strings_trimLeftASCII : chkF Tryz.prog Tryz.f245 2 [(4, none)] c_strings_trimLeftASCII = true := by kernel_rfl
/-- strings.trimRightASCII -/
def e246_1 : LC :=
  .tail [0, 1] [] (.block 1 (.seq (.seq (.region [ ⟨some 8, none, .mov (.t 1)⟩, ⟨some 9, none, .mov (.t 0)⟩, ⟨some 10, none, .mov (.t 0)⟩, ⟨some 11, none, .lenS (.t 10)⟩, ⟨some 12, none, .bin .sub (.t 11) (.i 1)⟩, ⟨some 13, none, .idxS (.t 9) (.t 12)⟩, ⟨some 14, none, .call 267 [.t 8, .t 13]⟩, ⟨some 15, none, .not (.t 14)⟩]) (.cond (.t 15) (.exit 0) .skip)) (.region [ ⟨some 16, none, .mov (.t 0)⟩, ⟨some 17, none, .mov (.t 0)⟩, ⟨some 18, none, .lenS (.t 17)⟩, ⟨some 19, none, .bin .sub (.t 18) (.i 1)⟩, ⟨some 20, none, .slcS (.t 16) none (some (.t 19))⟩, ⟨some 0, none, .mov (.t 20)⟩])))
def q246_1 : LC := e246_1
theorem u246_1 : Unf q246_1 e246_1 := fun _ _ _ _ _ => (rfl)
def e246_2 : LC :=
  .seq (.block 0 (.keep [0, 1] [] (.loop (.seq (.seq (.region [ ⟨some 5, none, .mov (.t 0)⟩, ⟨some 6, none, .lenS (.t 5)⟩, ⟨some 7, none, .bin .gtr (.t 6) (.i 0)⟩]) (.cond (.t 7) .skip (.exit 0))) q246_1)))) (.keep [0] [] (.seq (.region [ ⟨some 21, none, .mov (.t 0)⟩, ⟨some 4, none, .mov (.t 21)⟩]) .ret))
def q246_2 : LC := e246_2
theorem u246_2 : Unf q246_2 e246_2 := fun _ _ _ _ _ => (rfl)
def d_strings_trimRightASCII : LC :=
  .seq (.region [ ⟨some 4, none, .mov (.s [])⟩]) q246_2
def c_strings_trimRightASCII : LC := d_strings_trimRightASCII
theorem w_strings_trimRightASCII : Unf c_strings_trimRightASCII d_strings_trimRightASCII := fun _ _ _ _ _ => (rfl)
attribute [simp] e246_1 u246_1 e246_2 u246_2 d_strings_trimRightASCII w_strings_trimRightASCII
theorem k_strings_trimRightASCII : chkF Tryz.prog Tryz.f246 2 [(4, none)] c_strings_trimRightASCII = true := by kernel_rfl
/-- strings.trimLeftUnicode -/
def e247_1 : LC :=
  .seq (.seq (.region [ ⟨some 15, none, .mov (.t 1)⟩, ⟨some 16, none, .mov (.t 5)⟩, ⟨some 17, none, .call 268 [.t 15, .t 16]⟩, ⟨some 18, none, .not (.t 17)⟩]) (.cond (.t 18) (.exit 0) .skip)) (.region [ ⟨some 19, none, .mov (.t 0)⟩, ⟨some 20, none, .mov (.t 6)⟩, ⟨some 21, none, .slcS (.t 19) (some (.t 20)) none⟩, ⟨some 0, none, .mov (.t 21)⟩])
def q247_1 : LC := e247_1
theorem u247_1 : Unf q247_1 e247_1 := fun _ _ _ _ _ => (rfl)
def e247_2 : LC :=
  .tail [0, 1] [] (.block 1 (.seq (.region [ ⟨some 11, none, .mov (.t 0)⟩, ⟨some 12, none, .call 86 [.t 11]⟩, ⟨some 10, none, .mov (.t 12)⟩, ⟨some 13, none, .ext (.t 10) 0⟩, ⟨some 14, none, .ext (.t 10) 1⟩, ⟨some 5, none, .mov (.t 13)⟩, ⟨some 6, none, .mov (.t 14)⟩]) q247_1))
def q247_2 : LC := e247_2
theorem u247_2 : Unf q247_2 e247_2 := fun _ _ _ _ _ => (rfl)
def e247_3 : LC :=
  .seq (.block 0 (.keep [0, 1] [] (.loop (.seq (.seq (.region [ ⟨some 7, none, .mov (.t 0)⟩, ⟨some 8, none, .lenS (.t 7)⟩, ⟨some 9, none, .bin .gtr (.t 8) (.i 0)⟩]) (.cond (.t 9) .skip (.exit 0))) q247_2)))) (.keep [0] [] (.seq (.region [ ⟨some 22, none, .mov (.t 0)⟩, ⟨some 4, none, .mov (.t 22)⟩]) .ret))
def q247_3 : LC := e247_3
theorem u247_3 : Unf q247_3 e247_3 := fun _ _ _ _ _ => (rfl)
def d_strings_trimLeftUnicode : LC :=
  .seq (.region [ ⟨some 4, none, .mov (.s [])⟩]) q247_3
def c_strings_trimLeftUnicode : LC := d_strings_trimLeftUnicode
theorem w_strings_trimLeftUnicode : Unf c_strings_trimLeftUnicode d_strings_trimLeftUnicode := fun _ _ _ _ _ => (rfl)
attribute [simp] e247_1 u247_1 e247_2 u247_2 e247_3 u247_3 d_strings_trimLeftUnicode w_strings_trimLeftUnicode
theorem k_strings_trimLeftUnicode : chkF Tryz.prog Tryz.f247 2 [(4, none)] c_strings_trimLeftUnicode = true := by kernel_rfl
/-- strings.trimRightUnicode -/
def e248_1 : LC :=
  .seq (.seq (.region [ ⟨some 23, none, .mov (.t 1)⟩, ⟨some 24, none, .mov (.t 5)⟩, ⟨some 25, none, .call 268 [.t 23, .t 24]⟩, ⟨some 26, none, .not (.t 25)⟩]) (.cond (.t 26) (.exit 0) .skip)) (.region [ ⟨some 27, none, .mov (.t 0)⟩, ⟨some 28, none, .mov (.t 0)⟩, ⟨some 29, none, .lenS (.t 28)⟩, ⟨some 30, none, .mov (.t 6)⟩, ⟨some 31, none, .bin .sub (.t 29) (.t 30)⟩, ⟨some 32, none, .slcS (.t 27) none (some (.t 31))⟩, ⟨some 0, none, .mov (.t 32)⟩])
def q248_1 : LC := e248_1
theorem u248_1 : Unf q248_1 e248_1 := fun _ _ _ _ _ => (rfl)
def e248_2 : LC :=
  .seq (.seq (.region [ ⟨some 16, none, .mov (.t 5)⟩, ⟨some 17, none, .bin .geq (.t 16) (.c (.at (.d (.int .i32 128))))⟩]) (.cond (.t 17) (.region [ ⟨some 19, none, .mov (.t 0)⟩, ⟨some 20, none, .call 269 [.t 19]⟩, ⟨some 18, none, .mov (.t 20)⟩, ⟨some 21, none, .ext (.t 18) 0⟩, ⟨some 22, none, .ext (.t 18) 1⟩, ⟨some 5, none, .mov (.t 21)⟩, ⟨some 6, none, .mov (.t 22)⟩]) .skip)) q248_1
def q248_2 : LC := e248_2
theorem u248_2 : Unf q248_2 e248_2 := fun _ _ _ _ _ => (rfl)
def e248_3 : LC :=
  .tail [0, 1] [] (.block 1 (.seq (.region [ ⟨some 10, none, .mov (.t 0)⟩, ⟨some 11, none, .mov (.t 0)⟩, ⟨some 12, none, .lenS (.t 11)⟩, ⟨some 13, none, .bin .sub (.t 12) (.i 1)⟩, ⟨some 14, none, .idxS (.t 10) (.t 13)⟩, ⟨some 15, none, .conv .i32 (.t 14)⟩, ⟨some 5, none, .mov (.t 15)⟩, ⟨some 6, none, .mov (.i 1)⟩]) q248_2))
def q248_3 : LC := e248_3
theorem u248_3 : Unf q248_3 e248_3 := fun _ _ _ _ _ => (rfl)
def e248_4 : LC :=
  .seq (.block 0 (.keep [0, 1] [] (.loop (.seq (.seq (.region [ ⟨some 7, none, .mov (.t 0)⟩, ⟨some 8, none, .lenS (.t 7)⟩, ⟨some 9, none, .bin .gtr (.t 8) (.i 0)⟩]) (.cond (.t 9) .skip (.exit 0))) q248_3)))) (.keep [0] [] (.seq (.region [ ⟨some 33, none, .mov (.t 0)⟩, ⟨some 4, none, .mov (.t 33)⟩]) .ret))
def q248_4 : LC := e248_4
theorem u248_4 : Unf q248_4 e248_4 := fun _ _ _ _ _ => (rfl)
def d_strings_trimRightUnicode : LC :=
  .seq (.region [ ⟨some 4, none, .mov (.s [])⟩]) q248_4
def c_strings_trimRightUnicode : LC := d_strings_trimRightUnicode
theorem w_strings_trimRightUnicode : Unf c_strings_trimRightUnicode d_strings_trimRightUnicode := fun _ _ _ _ _ => (rfl)
attribute [simp] e248_1 u248_1 e248_2 u248_2 e248_3 u248_3 e248_4 u248_4 d_strings_trimRightUnicode w_strings_trimRightUnicode
theorem k_strings_trimRightUnicode : chkF Tryz.prog Tryz.f248 2 [(4, none)] c_strings_trimRightUnicode = true := by kernel_rfl
/-- strings.ContainsRune -/
def d_strings_ContainsRune : LC :=
  .seq (.region [ ⟨some 4, none, .mov (.b false)⟩]) (.seq (.region [ ⟨some 5, none, .mov (.t 0)⟩, ⟨some 6, none, .mov (.t 1)⟩, ⟨some 7, none, .call 277 [.t 5, .t 6]⟩, ⟨some 8, none, .bin .geq (.t 7) (.i 0)⟩, ⟨some 4, none, .mov (.t 8)⟩]) .ret)
def c_strings_ContainsRune : LC := d_strings_ContainsRune
theorem w_strings_ContainsRune : Unf c_strings_ContainsRune d_strings_ContainsRune := fun _ _ _ _ _ => (rfl)
attribute [simp] d_strings_ContainsRune w_strings_ContainsRune
theorem k_strings_ContainsRune : chkF Tryz.prog Tryz.f268 2 [(4, none)] c_strings_ContainsRune = true := by kernel_rfl
/-- unicode/utf8.DecodeRuneInString -/
def e86_1 : LC :=
  .cond (.t 10) (.seq (.region [ ⟨some 11, none, .mov (.t 0)⟩, ⟨some 12, none, .idxS (.t 11) (.i 0)⟩, ⟨some 13, none, .conv .i32 (.t 12)⟩, ⟨some 2, none, .mov (.t 13)⟩, ⟨some 3, none, .mov (.i 1)⟩]) .ret) (.region [ ⟨some 15, none, .mov (.t 0)⟩, ⟨some 16, none, .call 140 [.t 15]⟩, ⟨some 14, none, .mov (.t 16)⟩, ⟨some 17, none, .ext (.t 14) 0⟩, ⟨some 18, none, .ext (.t 14) 1⟩, ⟨some 2, none, .mov (.t 17)⟩, ⟨some 3, none, .mov (.t 18)⟩])
def q86_1 : LC := e86_1
theorem u86_1 : Unf q86_1 e86_1 := fun _ _ _ _ _ => (rfl)
def e86_2 : LC :=
  .seq (.seq (.region [ ⟨some 4, none, .mov (.t 0)⟩, ⟨some 5, none, .bin .neq (.t 4) (.s [])⟩, ⟨some 6, none, .mov (.t 5)⟩, ⟨some 7, some (6, true), .mov (.t 0)⟩, ⟨some 8, some (6, true), .idxS (.t 7) (.i 0)⟩, ⟨some 9, some (6, true), .bin .lss (.t 8) (.c (.at (.d (.int .u8 128))))⟩, ⟨some 10, none, .pick (.t 6) (.t 9) (.b false)⟩]) q86_1) .ret
def q86_2 : LC := e86_2
theorem u86_2 : Unf q86_2 e86_2 := fun _ _ _ _ _ => (rfl)
def d_unicode_utf8_DecodeRuneInString : LC :=
  .seq (.region [ ⟨some 2, none, .mov (.c (.at (.d (.int .i32 0))))⟩, ⟨some 3, none, .mov (.i 0)⟩]) q86_2
def c_unicode_utf8_DecodeRuneInString : LC := d_unicode_utf8_DecodeRuneInString
theorem w_unicode_utf8_DecodeRuneInString : Unf c_unicode_utf8_DecodeRuneInString d_unicode_utf8_DecodeRuneInString := fun _ _ _ _ _ => (rfl)
attribute [simp] e86_1 u86_1 e86_2 u86_2 d_unicode_utf8_DecodeRuneInString w_unicode_utf8_DecodeRuneInString
theorem k_unicode_utf8_DecodeRuneInString : chkF Tryz.prog Tryz.f86 1 [(2, none), (3, none)] c_unicode_utf8_DecodeRuneInString = true := by kernel_rfl
/-- internal/stringslite.HasSuffix -/
def e120_1 : LC :=
  .seq (.region [ ⟨some 5, none, .mov (.t 0)⟩, ⟨some 6, none, .lenS (.t 5)⟩, ⟨some 7, none, .mov (.t 1)⟩, ⟨some 8, none, .lenS (.t 7)⟩, ⟨some 9, none, .bin .geq (.t 6) (.t 8)⟩, ⟨some 10, none, .mov (.t 9)⟩, ⟨some 11, some (10, true), .mov (.t 0)⟩, ⟨some 12, some (10, true), .mov (.t 0)⟩, ⟨some 13, some (10, true), .lenS (.t 12)⟩, ⟨some 14, some (10, true), .mov (.t 1)⟩, ⟨some 15, some (10, true), .lenS (.t 14)⟩, ⟨some 16, some (10, true), .bin .sub (.t 13) (.t 15)⟩, ⟨some 17, some (10, true), .slcS (.t 11) (some (.t 16)) none⟩, ⟨some 18, some (10, true), .mov (.t 1)⟩, ⟨some 19, some (10, true), .bin .eql (.t 17) (.t 18)⟩, ⟨some 20, none, .pick (.t 10) (.t 19) (.b false)⟩, ⟨some 4, none, .mov (.t 20)⟩]) .ret
def q120_1 : LC := e120_1
theorem u120_1 : Unf q120_1 e120_1 := fun _ _ _ _ _ => (rfl)
def d_internal_stringslite_HasSuffix : LC :=
  .seq (.region [ ⟨some 4, none, .mov (.b false)⟩]) q120_1
def c_internal_stringslite_HasSuffix : LC := d_internal_stringslite_HasSuffix
theorem w_internal_stringslite_HasSuffix : Unf c_internal_stringslite_HasSuffix d_internal_stringslite_HasSuffix := fun _ _ _ _ _ => (rfl)
attribute [simp] e120_1 u120_1 d_internal_stringslite_HasSuffix w_internal_stringslite_HasSuffix
theorem k_internal_stringslite_HasSuffix : chkF Tryz.prog Tryz.f120 2 [(4, none)] c_internal_stringslite_HasSuffix = true := by kernel_rfl
/-- internal/stringslite.CutPrefix -/
def e241_1 : LC :=
  .seq (.seq (.region [ ⟨some 6, none, .mov (.t 0)⟩, ⟨some 7, none, .mov (.t 1)⟩, ⟨some 8, none, .call 266 [.t 6, .t 7]⟩, ⟨some 9, none, .not (.t 8)⟩]) (.cond (.t 9) (.seq (.region [ ⟨some 10, none, .mov (.t 0)⟩, ⟨some 4, none, .mov (.t 10)⟩, ⟨some 5, none, .mov (.b false)⟩]) .ret) .skip)) (.seq (.region [ ⟨some 11, none, .mov (.t 0)⟩, ⟨some 12, none, .mov (.t 1)⟩, ⟨some 13, none, .lenS (.t 12)⟩, ⟨some 14, none, .slcS (.t 11) (some (.t 13)) none⟩, ⟨some 4, none, .mov (.t 14)⟩, ⟨some 5, none, .mov (.b true)⟩]) .ret)
def q241_1 : LC := e241_1
theorem u241_1 : Unf q241_1 e241_1 := fun _ _ _ _ _ => (rfl)
def d_internal_stringslite_CutPrefix : LC :=
  .seq (.region [ ⟨some 4, none, .mov (.s [])⟩, ⟨some 5, none, .mov (.b false)⟩]) q241_1
def c_internal_stringslite_CutPrefix : LC := d_internal_stringslite_CutPrefix
theorem w_internal_stringslite_CutPrefix : Unf c_internal_stringslite_CutPrefix d_internal_stringslite_CutPrefix := fun _ _ _ _ _ => (rfl)
attribute [simp] e241_1 u241_1 d_internal_stringslite_CutPrefix w_internal_stringslite_CutPrefix
theorem k_internal_stringslite_CutPrefix : chkF Tryz.prog Tryz.f241 2 [(4, none), (5, none)] c_internal_stringslite_CutPrefix = true := by kernel_rfl
/-- internal/stringslite.CutSuffix -/
def e254_1 : LC :=
  .seq (.seq (.region [ ⟨some 6, none, .mov (.t 0)⟩, ⟨some 7, none, .mov (.t 1)⟩, ⟨some 8, none, .call 120 [.t 6, .t 7]⟩, ⟨some 9, none, .not (.t 8)⟩]) (.cond (.t 9) (.seq (.region [ ⟨some 10, none, .mov (.t 0)⟩, ⟨some 4, none, .mov (.t 10)⟩, ⟨some 5, none, .mov (.b false)⟩]) .ret) .skip)) (.seq (.region [ ⟨some 11, none, .mov (.t 0)⟩, ⟨some 12, none, .mov (.t 0)⟩, ⟨some 13, none, .lenS (.t 12)⟩, ⟨some 14, none, .mov (.t 1)⟩, ⟨some 15, none, .lenS (.t 14)⟩, ⟨some 16, none, .bin .sub (.t 13) (.t 15)⟩, ⟨some 17, none, .slcS (.t 11) none (some (.t 16))⟩, ⟨some 4, none, .mov (.t 17)⟩, ⟨some 5, none, .mov (.b true)⟩]) .ret)
def q254_1 : LC := e254_1
theorem u254_1 : Unf q254_1 e254_1 := fun _ _ _ _ _ => (rfl)
def d_internal_stringslite_CutSuffix : LC :=
  .seq (.region [ ⟨some 4, none, .mov (.s [])⟩, ⟨some 5, none, .mov (.b false)⟩]) q254_1
def c_internal_stringslite_CutSuffix : LC := d_internal_stringslite_CutSuffix
theorem w_internal_stringslite_CutSuffix : Unf c_internal_stringslite_CutSuffix d_internal_stringslite_CutSuffix := fun _ _ _ _ _ => (rfl)
attribute [simp] e254_1 u254_1 d_internal_stringslite_CutSuffix w_internal_stringslite_CutSuffix
theorem k_internal_stringslite_CutSuffix : chkF Tryz.prog Tryz.f254 2 [(4, none), (5, none)] c_internal_stringslite_CutSuffix = true := by kernel_rfl
/-- internal/stringslite.HasPrefix -/
def e266_1 : LC :=
  .seq (.region [ ⟨some 5, none, .mov (.t 0)⟩, ⟨some 6, none, .lenS (.t 5)⟩, ⟨some 7, none, .mov (.t 1)⟩, ⟨some 8, none, .lenS (.t 7)⟩, ⟨some 9, none, .bin .geq (.t 6) (.t 8)⟩, ⟨some 10, none, .mov (.t 9)⟩, ⟨some 11, some (10, true), .mov (.t 0)⟩, ⟨some 12, some (10, true), .mov (.t 1)⟩, ⟨some 13, some (10, true), .lenS (.t 12)⟩, ⟨some 14, some (10, true), .slcS (.t 11) none (some (.t 13))⟩, ⟨some 15, some (10, true), .mov (.t 1)⟩, ⟨some 16, some (10, true), .bin .eql (.t 14) (.t 15)⟩, ⟨some 17, none, .pick (.t 10) (.t 16) (.b false)⟩, ⟨some 4, none, .mov (.t 17)⟩]) .ret
def q266_1 : LC := e266_1
theorem u266_1 : Unf q266_1 e266_1 := fun _ _ _ _ _ => (rfl)
def d_internal_stringslite_HasPrefix : LC :=
  .seq (.region [ ⟨some 4, none, .mov (.b false)⟩]) q266_1
def c_internal_stringslite_HasPrefix : LC := d_internal_stringslite_HasPrefix
theorem w_internal_stringslite_HasPrefix : Unf c_internal_stringslite_HasPrefix d_internal_stringslite_HasPrefix := fun _ _ _ _ _ => (rfl)
attribute [simp] e266_1 u266_1 d_internal_stringslite_HasPrefix w_internal_stringslite_HasPrefix
theorem k_internal_stringslite_HasPrefix : chkF Tryz.prog Tryz.f266 2 [(4, none)] c_internal_stringslite_HasPrefix = true := by kernel_rfl
/-- (*strings.asciiSet).contains -/
def d_strings_asciiSet_contains : LC :=
  .seq (.region [ ⟨some 4, none, .mov (.b false)⟩]) (.seq (.region [ ⟨some 5, none, .mov (.t 0)⟩, ⟨some 6, none, .mov (.t 1)⟩, ⟨some 7, none, .nilck (.t 5)⟩, ⟨some 8, none, .idxAA 256 1 (.t 7) (.t 6)⟩, ⟨some 9, none, .load none (.t 8)⟩, ⟨some 4, none, .mov (.t 9)⟩]) .ret)
def c_strings_asciiSet_contains : LC := d_strings_asciiSet_contains
theorem w_strings_asciiSet_contains : Unf c_strings_asciiSet_contains d_strings_asciiSet_contains := fun _ _ _ _ _ => (rfl)
attribute [simp] d_strings_asciiSet_contains w_strings_asciiSet_contains
theorem k_strings_asciiSet_contains : chkF Tryz.prog Tryz.f267 2 [(4, none)] c_strings_asciiSet_contains = true := by kernel_rfl
/-- unicode/utf8.DecodeLastRuneInString -/
def e269_1 : LC :=
  .seq (.block 1 (.seq (.region [ ⟨some 30, none, .mov (.t 0)⟩, ⟨some 31, none, .mov (.t 5)⟩, ⟨some 32, none, .idxS (.t 30) (.t 31)⟩, ⟨some 33, none, .call 278 [.t 32]⟩]) (.cond (.t 33) (.exit 0) .skip))) (.keep [0, 4, 5, 6] [] (.tail [0, 4, 5, 6] [] (.region [ ⟨some 28, none, .mov (.t 5)⟩, ⟨some 29, none, .bin .sub (.t 28) (.i 1)⟩, ⟨some 5, none, .mov (.t 29)⟩])))
def q269_1 : LC := e269_1
theorem u269_1 : Unf q269_1 e269_1 := fun _ _ _ _ _ => (rfl)
def e269_2 : LC :=
  .seq (.seq (.region [ ⟨some 44, none, .mov (.t 5)⟩, ⟨some 45, none, .mov (.t 3)⟩, ⟨some 46, none, .bin .add (.t 44) (.t 45)⟩, ⟨some 47, none, .mov (.t 4)⟩, ⟨some 48, none, .bin .neq (.t 46) (.t 47)⟩]) (.cond (.t 48) (.seq (.region [ ⟨some 2, none, .mov (.c (.at (.d (.int .i32 65533))))⟩, ⟨some 3, none, .mov (.i 1)⟩]) .ret) .skip)) (.seq (.region [ ⟨some 49, none, .mov (.t 2)⟩, ⟨some 50, none, .mov (.t 3)⟩, ⟨some 2, none, .mov (.t 49)⟩, ⟨some 3, none, .mov (.t 50)⟩]) .ret)
def q269_2 : LC := e269_2
theorem u269_2 : Unf q269_2 e269_2 := fun _ _ _ _ _ => (rfl)
def e269_3 : LC :=
  .seq (.region [ ⟨some 37, none, .mov (.t 0)⟩, ⟨some 38, none, .mov (.t 5)⟩, ⟨some 39, none, .mov (.t 4)⟩, ⟨some 40, none, .slcS (.t 37) (some (.t 38)) (some (.t 39))⟩, ⟨some 41, none, .call 86 [.t 40]⟩, ⟨some 36, none, .mov (.t 41)⟩, ⟨some 42, none, .ext (.t 36) 0⟩, ⟨some 43, none, .ext (.t 36) 1⟩, ⟨some 2, none, .mov (.t 42)⟩, ⟨some 3, none, .mov (.t 43)⟩]) q269_2
def q269_3 : LC := e269_3
theorem u269_3 : Unf q269_3 e269_3 := fun _ _ _ _ _ => (rfl)
def e269_4 : LC :=
  .seq (.seq (.region [ ⟨some 23, none, .mov (.t 5)⟩, ⟨some 24, none, .bin .sub (.t 23) (.i 1)⟩, ⟨some 5, none, .mov (.t 24)⟩]) (.block 0 (.keep [0, 4, 5, 6] [] (.loop (.seq (.seq (.region [ ⟨some 25, none, .mov (.t 5)⟩, ⟨some 26, none, .mov (.t 6)⟩, ⟨some 27, none, .bin .geq (.t 25) (.t 26)⟩]) (.cond (.t 27) .skip (.exit 0))) q269_1))))) (.seq (.seq (.region [ ⟨some 34, none, .mov (.t 5)⟩, ⟨some 35, none, .bin .lss (.t 34) (.i 0)⟩]) (.cond (.t 35) (.region [ ⟨some 5, none, .mov (.i 0)⟩]) .skip)) q269_3)
def q269_4 : LC := e269_4
theorem u269_4 : Unf q269_4 e269_4 := fun _ _ _ _ _ => (rfl)
def e269_5 : LC :=
  .seq (.seq (.region [ ⟨some 17, none, .mov (.t 2)⟩, ⟨some 18, none, .bin .lss (.t 17) (.c (.at (.d (.int .i32 128))))⟩]) (.cond (.t 18) (.seq (.region [ ⟨some 19, none, .mov (.t 2)⟩, ⟨some 2, none, .mov (.t 19)⟩, ⟨some 3, none, .mov (.i 1)⟩]) .ret) .skip)) (.seq (.region [ ⟨some 20, none, .mov (.t 4)⟩, ⟨some 21, none, .bin .sub (.t 20) (.i 4)⟩, ⟨some 22, none, .max2 (.t 21) (.i 0)⟩, ⟨some 6, none, .mov (.t 22)⟩]) q269_4)
def q269_5 : LC := e269_5
theorem u269_5 : Unf q269_5 e269_5 := fun _ _ _ _ _ => (rfl)
def e269_6 : LC :=
  .seq (.seq (.region [ ⟨some 9, none, .mov (.t 4)⟩, ⟨some 10, none, .bin .eql (.t 9) (.i 0)⟩]) (.cond (.t 10) (.seq (.region [ ⟨some 2, none, .mov (.c (.at (.d (.int .i32 65533))))⟩, ⟨some 3, none, .mov (.i 0)⟩]) .ret) .skip)) (.seq (.region [ ⟨some 11, none, .mov (.t 4)⟩, ⟨some 12, none, .bin .sub (.t 11) (.i 1)⟩, ⟨some 5, none, .mov (.t 12)⟩]) (.seq (.region [ ⟨some 13, none, .mov (.t 0)⟩, ⟨some 14, none, .mov (.t 5)⟩, ⟨some 15, none, .idxS (.t 13) (.t 14)⟩, ⟨some 16, none, .conv .i32 (.t 15)⟩, ⟨some 2, none, .mov (.t 16)⟩]) q269_5))
def q269_6 : LC := e269_6
theorem u269_6 : Unf q269_6 e269_6 := fun _ _ _ _ _ => (rfl)
def d_unicode_utf8_DecodeLastRuneInString : LC :=
  .seq (.region [ ⟨some 2, none, .mov (.c (.at (.d (.int .i32 0))))⟩, ⟨some 3, none, .mov (.i 0)⟩]) (.seq (.region [ ⟨some 7, none, .mov (.t 0)⟩, ⟨some 8, none, .lenS (.t 7)⟩, ⟨some 4, none, .mov (.t 8)⟩]) q269_6)
def c_unicode_utf8_DecodeLastRuneInString : LC := d_unicode_utf8_DecodeLastRuneInString
theorem w_unicode_utf8_DecodeLastRuneInString : Unf c_unicode_utf8_DecodeLastRuneInString d_unicode_utf8_DecodeLastRuneInString := fun _ _ _ _ _ => (rfl)
attribute [simp] e269_1 u269_1 e269_2 u269_2 e269_3 u269_3 e269_4 u269_4 e269_5 u269_5 e269_6 u269_6 d_unicode_utf8_DecodeLastRuneInString w_unicode_utf8_DecodeLastRuneInString
theorem k_unicode_utf8_DecodeLastRuneInString : chkF Tryz.prog Tryz.f269 1 [(2, none), (3, none)] c_unicode_utf8_DecodeLastRuneInString = true := by kernel_rfl
/-- unicode/utf8.RuneStart -/
def d_unicode_utf8_RuneStart : LC :=
  .seq (.region [ ⟨some 2, none, .mov (.b false)⟩]) (.seq (.region [ ⟨some 3, none, .mov (.t 0)⟩, ⟨some 4, none, .bin .and (.t 3) (.c (.at (.d (.int .u8 192))))⟩, ⟨some 5, none, .bin .neq (.t 4) (.c (.at (.d (.int .u8 128))))⟩, ⟨some 2, none, .mov (.t 5)⟩]) .ret)
def c_unicode_utf8_RuneStart : LC := d_unicode_utf8_RuneStart
theorem w_unicode_utf8_RuneStart : Unf c_unicode_utf8_RuneStart d_unicode_utf8_RuneStart := fun _ _ _ _ _ => (rfl)
attribute [simp] d_unicode_utf8_RuneStart w_unicode_utf8_RuneStart
theorem k_unicode_utf8_RuneStart : chkF Tryz.prog Tryz.f278 1 [(2, none)] c_unicode_utf8_RuneStart = true := by kernel_rfl
end Go.Proofs.YtpfhfokfambdaaaGreatDoor
