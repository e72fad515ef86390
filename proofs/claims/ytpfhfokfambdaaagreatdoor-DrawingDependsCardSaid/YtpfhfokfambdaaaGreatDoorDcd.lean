/- A part of the proof of a law of this seat: LcXa; no conditions. -/
import Derived.KernelRfl
import Derived.Test.YtpfhfokfambdaaaGreatDoorDcb
import Derived.Test.YtpfhfokfambdaaaGreatDoorProg
namespace Go.Proofs.YtpfhfokfambdaaaGreatDoor
open Ev Ev.LC Ev.LK
/-- metrolab/drawing.own -/
def ev73_1 : LC :=
  .draw [0, 1, 0, 0, 8, 0, 56, 120, 248, 504, 1023, 2047, 4095] [ ⟨some 14, none, .fieldA 8 (.t 1)⟩, ⟨some 15, none, .load none (.t 14)⟩, ⟨some 16, none, .mov (.t 3)⟩, ⟨some 17, none, .fieldA 8 (.t 1)⟩, ⟨some 18, none, .load none (.t 17)⟩, ⟨some 19, none, .mov (.t 3)⟩, ⟨some 20, none, .idxA 5 (.t 18) (.t 19)⟩, ⟨some 21, none, .fieldA 4 (.t 20)⟩, ⟨some 22, none, .load none (.t 21)⟩, ⟨some 23, none, .callD 125 [.t 22]⟩, ⟨some 24, none, .idxA 5 (.t 15) (.t 16)⟩, ⟨some 25, none, .fieldA 4 (.t 24)⟩, ⟨none, none, .store 1 (.t 25) (.t 23)⟩]
def qv73_1 : LC := ev73_1
theorem uv73_1 : Unf qv73_1 ev73_1 := fun _ _ _ _ _ => (rfl)
def ev73_2 : LC :=
  .seq (.region [ ⟨some 12, none, .bin .lss (.t 11) (.t 10)⟩]) (.seq (.cond (.t 12) .skip (.exit 0)) (.seq (.block 1 (.seq (.region [ ⟨some 13, none, .mov (.t 11)⟩, ⟨some 3, none, .mov (.t 13)⟩]) qv73_1)) (.tailW [] (.region [ ⟨some 26, none, .bin .add (.t 11) (.i 1)⟩, ⟨some 11, none, .mov (.t 26)⟩]))))
def qv73_2 : LC := ev73_2
theorem uv73_2 : Unf qv73_2 ev73_2 := fun _ _ _ _ _ => (rfl)
def ev73_3 : LC :=
  .seq (.region [ ⟨some 4, none, .fieldA 8 (.t 1)⟩, ⟨some 5, none, .load none (.t 4)⟩, ⟨some 6, none, .cloneR 124 6 115 5 (.t 5)⟩, ⟨some 7, none, .fieldA 8 (.t 1)⟩, ⟨none, none, .store 1 (.t 7) (.t 6)⟩]) (.seq (.seq (.region [ ⟨some 8, none, .fieldA 8 (.t 1)⟩, ⟨some 9, none, .load none (.t 8)⟩, ⟨some 10, none, .lenL (.t 9)⟩, ⟨some 11, none, .mov (.i 0)⟩]) (.block 0 (.weak [] (.loop qv73_2)))) (.seq (.region [ ⟨some 27, none, .load (some 9) (.t 1)⟩, ⟨none, none, .store 9 (.t 2) (.t 27)⟩]) .ret))
def qv73_3 : LC := ev73_3
theorem uv73_3 : Unf qv73_3 ev73_3 := fun _ _ _ _ _ => (rfl)
def d_vdrawing_own : LC :=
  .seq (.region [ ⟨some 1, none, .box 1 (.t 0)⟩, ⟨some 2, none, .alloc 2 [.d (.str []), .d (.int .i64 0), .d (.int .i64 0), .d (.int .i64 0), .d (.int .i64 0), .d (.int .i64 0), .d (.int .i64 0), .d (.int .i64 0), .nils]⟩]) qv73_3
def c_vdrawing_own : LC := d_vdrawing_own
theorem w_vdrawing_own : Unf c_vdrawing_own d_vdrawing_own := fun _ _ _ _ _ => (rfl)
attribute [simp] ev73_1 uv73_1 ev73_2 uv73_2 ev73_3 uv73_3 d_vdrawing_own w_vdrawing_own
theorem k_vdrawing_own : chkF Tryz.prog Tryz.f73 1 [(2, some (some 9))] c_vdrawing_own = true := by kernel_rfl
/-- metrolab/drawing.copied -/
def ev79_1 : LC :=
  .draw [0, 1, 0, 4, 12, 31, 63, 127] [ ⟨some 19, none, .fieldA 1 (.t 3)⟩, ⟨some 20, none, .load none (.t 19)⟩, ⟨some 21, none, .load (some 9) (.t 5)⟩, ⟨some 22, none, .callD 73 [.t 21]⟩, ⟨some 23, none, .buildS 23 49 9 1 [(0, 9, .t 22)]⟩, ⟨some 24, none, .appN 1024 49 9 (.t 20) (.t 23)⟩, ⟨some 25, none, .fieldA 1 (.t 3)⟩, ⟨none, none, .store 1 (.t 25) (.t 24)⟩]
def qv79_1 : LC := ev79_1
theorem uv79_1 : Unf qv79_1 ev79_1 := fun _ _ _ _ _ => (rfl)
def ev79_2 : LC :=
  .seq (.block 1 (.seq (.region [ ⟨some 17, none, .idxA 9 (.t 13) (.t 15)⟩, ⟨some 18, none, .load (some 9) (.t 17)⟩, ⟨some 5, none, .alloc 5 [.d (.str []), .d (.int .i64 0), .d (.int .i64 0), .d (.int .i64 0), .d (.int .i64 0), .d (.int .i64 0), .d (.int .i64 0), .d (.int .i64 0), .nils]⟩, ⟨none, none, .store 9 (.t 5) (.t 18)⟩]) qv79_1)) (.tailW [5, 23] (.region [ ⟨some 26, none, .bin .add (.t 15) (.i 1)⟩, ⟨some 15, none, .mov (.t 26)⟩]))
def qv79_2 : LC := ev79_2
theorem uv79_2 : Unf qv79_2 ev79_2 := fun _ _ _ _ _ => (rfl)
def ev79_3 : LC :=
  .seq (.seq (.region [ ⟨some 12, none, .fieldA 1 (.t 1)⟩, ⟨some 13, none, .load none (.t 12)⟩, ⟨some 14, none, .lenL (.t 13)⟩, ⟨some 15, none, .mov (.i 0)⟩]) (.block 0 (.weak [5, 23] (.loop (.seq (.region [ ⟨some 16, none, .bin .lss (.t 15) (.t 14)⟩]) (.seq (.cond (.t 16) .skip (.exit 0)) qv79_2)))))) (.seq (.region [ ⟨some 27, none, .load (some 3) (.t 3)⟩, ⟨none, none, .store 3 (.t 2) (.t 27)⟩]) .ret)
def qv79_3 : LC := ev79_3
theorem uv79_3 : Unf qv79_3 ev79_3 := fun _ _ _ _ _ => (rfl)
def ev79_4 : LC :=
  .seq (.draw [0, 1, 0, 4, 12, 31, 0, 127] [ ⟨some 6, none, .fieldA 0 (.t 1)⟩, ⟨some 7, none, .load none (.t 6)⟩, ⟨some 8, none, .fieldA 2 (.t 1)⟩, ⟨some 9, none, .load none (.t 8)⟩, ⟨some 10, none, .callD 130 [.t 9]⟩, ⟨some 11, none, .build [.d (.str []), .nils, .nils] [(0, 1, .t 7), (2, 1, .t 10)]⟩, ⟨some 3, none, .alloc 3 [.d (.str []), .nils, .nils]⟩, ⟨none, none, .store 3 (.t 3) (.t 11)⟩]) qv79_3
def qv79_4 : LC := ev79_4
theorem uv79_4 : Unf qv79_4 ev79_4 := fun _ _ _ _ _ => (rfl)
def d_vdrawing_copied : LC :=
  .seq (.region [ ⟨some 1, none, .box 1 (.t 0)⟩, ⟨some 2, none, .alloc 2 [.d (.str []), .nils, .nils]⟩]) qv79_4
def c_vdrawing_copied : LC := d_vdrawing_copied
theorem w_vdrawing_copied : Unf c_vdrawing_copied d_vdrawing_copied := fun _ _ _ _ _ => (rfl)
attribute [simp] ev79_1 uv79_1 ev79_2 uv79_2 ev79_3 uv79_3 ev79_4 uv79_4 d_vdrawing_copied w_vdrawing_copied
theorem k_vdrawing_copied : chkF Tryz.prog Tryz.f79 1 [(2, some (some 3))] c_vdrawing_copied = true := by kernel_rfl
/-- metrolab/drawing.Depends -/
def ev21_1 : LC :=
  .seq (.seq (.region [ ⟨some 12, none, .load (some 3) (.t 2)⟩, ⟨some 13, none, .mov (.t 1)⟩, ⟨some 14, none, .call 62 [.t 12, .t 13]⟩, ⟨some 15, none, .bin .lss (.t 14) (.i 0)⟩]) (.cond (.t 15) (.seq (.region [ ⟨some 4, none, .mov (.c (.at (.nils)))⟩, ⟨some 5, none, .mov (.i 6)⟩]) .ret) .skip)) (.seq (.region [ ⟨some 16, none, .load (some 3) (.t 2)⟩, ⟨some 17, none, .mov (.t 1)⟩, ⟨some 18, none, .callD 45 [.t 16, .t 17]⟩, ⟨some 4, none, .mov (.t 18)⟩, ⟨some 5, none, .mov (.i 0)⟩]) .ret)
def qv21_1 : LC := ev21_1
theorem uv21_1 : Unf qv21_1 ev21_1 := fun _ _ _ _ _ => (rfl)
def ev21_2 : LC :=
  .seq (.seq (.region [ ⟨some 7, none, .load (some 3) (.t 2)⟩, ⟨some 8, none, .call 13 [.t 7]⟩, ⟨some 6, none, .mov (.t 8)⟩]) (.seq (.region [ ⟨some 9, none, .mov (.t 6)⟩, ⟨some 10, none, .bin .neq (.t 9) (.i 0)⟩]) (.cond (.t 10) (.seq (.region [ ⟨some 11, none, .mov (.t 6)⟩, ⟨some 4, none, .mov (.c (.at (.nils)))⟩, ⟨some 5, none, .mov (.t 11)⟩]) .ret) .skip))) qv21_1
def qv21_2 : LC := ev21_2
theorem uv21_2 : Unf qv21_2 ev21_2 := fun _ _ _ _ _ => (rfl)
def d_vdrawing_Depends : LC :=
  .seq (.region [ ⟨some 2, none, .box 2 (.t 0)⟩, ⟨some 4, none, .mov (.c (.at (.nils)))⟩, ⟨some 5, none, .mov (.i 0)⟩]) qv21_2
def c_vdrawing_Depends : LC := d_vdrawing_Depends
theorem w_vdrawing_Depends : Unf c_vdrawing_Depends d_vdrawing_Depends := fun _ _ _ _ _ => (rfl)
attribute [simp] ev21_1 uv21_1 ev21_2 uv21_2 d_vdrawing_Depends w_vdrawing_Depends
theorem k_vdrawing_Depends : chkF Tryz.prog Tryz.f21 2 [(4, none), (5, none)] c_vdrawing_Depends = true := by kernel_rfl
/-- metrolab/drawing.Datums -/
def ev11_1 : LC :=
  .seq (.seq (.region [ ⟨some 5, none, .load (some 3) (.t 1)⟩, ⟨some 6, none, .call 13 [.t 5]⟩, ⟨some 4, none, .mov (.t 6)⟩]) (.seq (.region [ ⟨some 7, none, .mov (.t 4)⟩, ⟨some 8, none, .bin .neq (.t 7) (.i 0)⟩]) (.cond (.t 8) (.seq (.region [ ⟨some 9, none, .mov (.t 4)⟩, ⟨some 2, none, .mov (.c (.at (.nils)))⟩, ⟨some 3, none, .mov (.t 9)⟩]) .ret) .skip))) (.seq (.region [ ⟨some 10, none, .load (some 3) (.t 1)⟩, ⟨some 11, none, .callD 41 [.t 10]⟩, ⟨some 2, none, .mov (.t 11)⟩, ⟨some 3, none, .mov (.i 0)⟩]) .ret)
def qv11_1 : LC := ev11_1
theorem uv11_1 : Unf qv11_1 ev11_1 := fun _ _ _ _ _ => (rfl)
def d_vdrawing_Datums : LC :=
  .seq (.region [ ⟨some 1, none, .box 1 (.t 0)⟩, ⟨some 2, none, .mov (.c (.at (.nils)))⟩, ⟨some 3, none, .mov (.i 0)⟩]) qv11_1
def c_vdrawing_Datums : LC := d_vdrawing_Datums
theorem w_vdrawing_Datums : Unf c_vdrawing_Datums d_vdrawing_Datums := fun _ _ _ _ _ => (rfl)
attribute [simp] ev11_1 uv11_1 d_vdrawing_Datums w_vdrawing_Datums
theorem k_vdrawing_Datums : chkF Tryz.prog Tryz.f11 1 [(2, none), (3, none)] c_vdrawing_Datums = true := by kernel_rfl
/-- metrolab/drawing.needs -/
def ev45_1 : LC :=
  .keep [7, 15] [9, 15, 1007] (.tail [7, 15] [9, 15, 1007] (.block 1 (.seq (.region [ ⟨some 18, none, .entryM (.t 15)⟩, ⟨some 19, none, .ext (.t 18) 0⟩, ⟨some 8, none, .mov (.t 19)⟩]) (.region [ ⟨some 20, none, .mov (.t 7)⟩, ⟨some 21, none, .mov (.t 8)⟩, ⟨some 22, none, .buildS 22 9 1 1 [(0, 1, .t 21)]⟩, ⟨some 23, none, .append 9 1 (.t 20) (.t 22)⟩, ⟨some 7, none, .mov (.t 23)⟩]))))
def qv45_1 : LC := ev45_1
theorem uv45_1 : Unf qv45_1 ev45_1 := fun _ _ _ _ _ => (rfl)
def ev45_2 : LC :=
  .own 7 1007 9 1 (.seq (.seq (.region [ ⟨some 14, none, .load none (.t 5)⟩, ⟨some 15, none, .rangeM 15 (.t 14)⟩]) (.block 0 (.keep [7, 15] [9, 15, 1007] (.loop (.seq (.region [ ⟨some 16, none, .nextM (.t 15)⟩, ⟨some 17, none, .ext (.t 16) 0⟩]) (.seq (.cond (.t 17) .skip (.exit 0)) qv45_1)))))) (.seq (.region [ ⟨some 24, none, .mov (.t 7)⟩, ⟨some 25, none, .callD 88 [.t 24]⟩, ⟨some 4, none, .mov (.t 25)⟩]) .ret))
def qv45_2 : LC := ev45_2
theorem uv45_2 : Unf qv45_2 ev45_2 := fun _ _ _ _ _ => (rfl)
def ev45_3 : LC :=
  .seq (.region [ ⟨some 6, none, .alloc 6 [.d .nilf]⟩]) (.seq (.region [ ⟨some 10, none, .fn 94 [.t 2, .t 5, .t 6]⟩, ⟨none, none, .store 1 (.t 6) (.t 10)⟩]) (.seq (.region [ ⟨some 11, none, .load none (.t 6)⟩, ⟨some 12, none, .mov (.t 1)⟩, ⟨some 13, none, .callvD (.t 11) [.t 12]⟩]) (.seq (.region [ ⟨some 7, none, .mov (.c (.at (.nils)))⟩]) qv45_2)))
def qv45_3 : LC := ev45_3
theorem uv45_3 : Unf qv45_3 ev45_3 := fun _ _ _ _ _ => (rfl)
def d_vdrawing_needs : LC :=
  .seq (.region [ ⟨some 2, none, .box 2 (.t 0)⟩, ⟨some 4, none, .mov (.c (.at (.nils)))⟩]) (.lift 2 (.seq (.region [ ⟨some 9, none, .mkMap 9⟩, ⟨some 5, none, .alloc 5 [.any]⟩, ⟨none, none, .store 1 (.t 5) (.t 9)⟩]) qv45_3))
def c_vdrawing_needs : LC := d_vdrawing_needs
theorem w_vdrawing_needs : Unf c_vdrawing_needs d_vdrawing_needs := fun _ _ _ _ _ => (rfl)
attribute [simp] ev45_1 uv45_1 ev45_2 uv45_2 ev45_3 uv45_3 d_vdrawing_needs w_vdrawing_needs
theorem k_vdrawing_needs : chkF Tryz.prog Tryz.f45 2 [(4, none)] c_vdrawing_needs = true := by kernel_rfl
/-- metrolab/drawing.used -/
def ev41_1 : LC :=
  .keep [3, 7, 8, 9] [1003] (.seq (.block 1 (.seq (.region [ ⟨some 11, none, .idxA 9 (.t 7) (.t 9)⟩, ⟨some 12, none, .load (some 9) (.t 11)⟩, ⟨some 5, none, .alloc 5 [.d (.str []), .d (.int .i64 0), .d (.int .i64 0), .d (.int .i64 0), .d (.int .i64 0), .d (.int .i64 0), .d (.int .i64 0), .d (.int .i64 0), .nils]⟩, ⟨none, none, .store 9 (.t 5) (.t 12)⟩]) (.region [ ⟨some 13, none, .mov (.t 3)⟩, ⟨some 14, none, .load (some 9) (.t 5)⟩, ⟨some 15, none, .call 87 [.t 14]⟩, ⟨some 16, none, .append 9 1 (.t 13) (.t 15)⟩, ⟨some 3, none, .mov (.t 16)⟩]))) (.keep [3, 7, 8, 9] [1003] (.tail [3, 7, 8, 9] [1003] (.region [ ⟨some 17, none, .bin .add (.t 9) (.i 1)⟩, ⟨some 9, none, .mov (.t 17)⟩]))))
def qv41_1 : LC := ev41_1
theorem uv41_1 : Unf qv41_1 ev41_1 := fun _ _ _ _ _ => (rfl)
def ev41_2 : LC :=
  .own 3 1003 9 1 (.seq (.seq (.region [ ⟨some 6, none, .fieldA 1 (.t 1)⟩, ⟨some 7, none, .load none (.t 6)⟩, ⟨some 8, none, .lenL (.t 7)⟩, ⟨some 9, none, .mov (.i 0)⟩]) (.block 0 (.keep [3, 7, 8, 9] [1003] (.loop (.seq (.region [ ⟨some 10, none, .bin .lss (.t 9) (.t 8)⟩]) (.seq (.cond (.t 10) .skip (.exit 0)) qv41_1)))))) (.seq (.region [ ⟨some 18, none, .mov (.t 3)⟩, ⟨some 19, none, .callD 88 [.t 18]⟩, ⟨some 2, none, .mov (.t 19)⟩]) .ret))
def qv41_2 : LC := ev41_2
theorem uv41_2 : Unf qv41_2 ev41_2 := fun _ _ _ _ _ => (rfl)
def d_vdrawing_used : LC :=
  .seq (.region [ ⟨some 1, none, .box 1 (.t 0)⟩, ⟨some 2, none, .mov (.c (.at (.nils)))⟩]) (.seq (.region [ ⟨some 3, none, .mov (.c (.at (.nils)))⟩]) qv41_2)
def c_vdrawing_used : LC := d_vdrawing_used
theorem w_vdrawing_used : Unf c_vdrawing_used d_vdrawing_used := fun _ _ _ _ _ => (rfl)
attribute [simp] ev41_1 uv41_1 ev41_2 uv41_2 d_vdrawing_used w_vdrawing_used
theorem k_vdrawing_used : chkF Tryz.prog Tryz.f41 1 [(2, none)] c_vdrawing_used = true := by kernel_rfl
/-- metrolab/metrolabref18.Same -/
def e35_1 : LC :=
  .seq (.region [ ⟨some 5, none, .fieldA 0 (.t 2)⟩, ⟨some 6, none, .load none (.t 5)⟩, ⟨some 7, none, .fieldA 0 (.t 3)⟩, ⟨some 8, none, .load none (.t 7)⟩, ⟨some 9, none, .bin .eql (.t 6) (.t 8)⟩, ⟨some 10, none, .mov (.t 9)⟩, ⟨some 11, some (10, true), .fieldA 1 (.t 2)⟩, ⟨some 12, some (10, true), .load none (.t 11)⟩, ⟨some 13, some (10, true), .fieldA 1 (.t 3)⟩, ⟨some 14, some (10, true), .load none (.t 13)⟩, ⟨some 15, some (10, true), .bin .eql (.t 12) (.t 14)⟩, ⟨some 16, none, .pick (.t 10) (.t 15) (.b false)⟩, ⟨some 17, none, .mov (.t 16)⟩, ⟨some 18, some (17, true), .fieldA 2 (.t 2)⟩, ⟨some 19, some (17, true), .load none (.t 18)⟩, ⟨some 20, some (17, true), .fieldA 2 (.t 3)⟩, ⟨some 21, some (17, true), .load none (.t 20)⟩, ⟨some 22, some (17, true), .bin .eql (.t 19) (.t 21)⟩, ⟨some 23, none, .pick (.t 17) (.t 22) (.b false)⟩, ⟨some 24, none, .mov (.t 23)⟩, ⟨some 25, some (24, true), .fieldA 3 (.t 2)⟩, ⟨some 26, some (24, true), .load (some 3) (.t 25)⟩, ⟨some 27, some (24, true), .fieldA 3 (.t 3)⟩, ⟨some 28, some (24, true), .load (some 3) (.t 27)⟩, ⟨some 29, some (24, true), .eqAgg false [0, 0, 0] (.t 26) (.t 28)⟩, ⟨some 30, none, .pick (.t 24) (.t 29) (.b false)⟩, ⟨some 31, none, .mov (.t 30)⟩, ⟨some 32, some (31, true), .fieldA 6 (.t 2)⟩, ⟨some 33, some (31, true), .load (some 2) (.t 32)⟩, ⟨some 34, some (31, true), .fieldA 6 (.t 3)⟩, ⟨some 35, some (31, true), .load (some 2) (.t 34)⟩, ⟨some 36, some (31, true), .eqAgg false [0, 0] (.t 33) (.t 35)⟩, ⟨some 37, none, .pick (.t 31) (.t 36) (.b false)⟩, ⟨some 38, none, .mov (.t 37)⟩, ⟨some 39, some (38, true), .fieldA 8 (.t 2)⟩, ⟨some 40, some (38, true), .load none (.t 39)⟩, ⟨some 41, some (38, true), .fieldA 8 (.t 3)⟩, ⟨some 42, some (38, true), .load none (.t 41)⟩, ⟨some 43, some (38, true), .call 78 [.t 40, .t 42]⟩, ⟨some 44, none, .pick (.t 38) (.t 43) (.b false)⟩, ⟨some 4, none, .mov (.t 44)⟩]) .ret
def q35_1 : LC := e35_1
theorem u35_1 : Unf q35_1 e35_1 := fun _ _ _ _ _ => (rfl)
def d_metrolabref18_Same : LC :=
  .seq (.region [ ⟨some 2, none, .box 2 (.t 0)⟩, ⟨some 3, none, .box 3 (.t 1)⟩, ⟨some 4, none, .mov (.b false)⟩]) q35_1
def c_metrolabref18_Same : LC := d_metrolabref18_Same
theorem w_metrolabref18_Same : Unf c_metrolabref18_Same d_metrolabref18_Same := fun _ _ _ _ _ => (rfl)
attribute [simp] e35_1 u35_1 d_metrolabref18_Same w_metrolabref18_Same
theorem k_metrolabref18_Same : chkF Tryz.prog Tryz.f35 2 [(4, none)] c_metrolabref18_Same = true := by kernel_rfl
/-- metrolab/metrolabref18.Few -/
def e36_1 : LC :=
  .seq (.block 3 (.seq (.region [ ⟨some 41, none, .fieldA 8 (.t 1)⟩, ⟨some 42, none, .load none (.t 41)⟩, ⟨some 43, none, .mov (.t 3)⟩, ⟨some 44, none, .idxA 5 (.t 42) (.t 43)⟩, ⟨some 45, none, .fieldA 4 (.t 44)⟩, ⟨some 46, none, .load none (.t 45)⟩, ⟨some 47, none, .mov (.t 4)⟩, ⟨some 48, none, .idxA 2 (.t 46) (.t 47)⟩, ⟨some 49, none, .fieldA 0 (.t 48)⟩, ⟨some 50, none, .load none (.t 49)⟩, ⟨some 51, none, .lenS (.t 50)⟩, ⟨some 52, none, .bin .gtr (.t 51) (.i 100)⟩]) (.cond (.t 52) (.seq (.region [ ⟨some 2, none, .mov (.b false)⟩]) .ret) .skip))) (.keep [1, 3, 4] [1] (.tail [1, 3, 4] [1] (.region [ ⟨some 39, none, .mov (.t 4)⟩, ⟨some 40, none, .bin .add (.t 39) (.i 1)⟩, ⟨some 4, none, .mov (.t 40)⟩])))
def q36_1 : LC := e36_1
theorem u36_1 : Unf q36_1 e36_1 := fun _ _ _ _ _ => (rfl)
def e36_2 : LC :=
  .seq (.seq (.region [ ⟨some 30, none, .mov (.t 4)⟩, ⟨some 31, none, .fieldA 8 (.t 1)⟩, ⟨some 32, none, .load none (.t 31)⟩, ⟨some 33, none, .mov (.t 3)⟩, ⟨some 34, none, .idxA 5 (.t 32) (.t 33)⟩, ⟨some 35, none, .fieldA 4 (.t 34)⟩, ⟨some 36, none, .load none (.t 35)⟩, ⟨some 37, none, .lenL (.t 36)⟩, ⟨some 38, none, .bin .lss (.t 30) (.t 37)⟩]) (.cond (.t 38) .skip (.exit 2))) q36_1
def q36_2 : LC := e36_2
theorem u36_2 : Unf q36_2 e36_2 := fun _ _ _ _ _ => (rfl)
def e36_3 : LC :=
  .seq (.block 1 (.seq (.seq (.region [ ⟨some 22, none, .fieldA 8 (.t 1)⟩, ⟨some 23, none, .load none (.t 22)⟩, ⟨some 24, none, .mov (.t 3)⟩, ⟨some 25, none, .idxA 5 (.t 23) (.t 24)⟩, ⟨some 26, none, .fieldA 4 (.t 25)⟩, ⟨some 27, none, .load none (.t 26)⟩, ⟨some 28, none, .lenL (.t 27)⟩, ⟨some 29, none, .bin .gtr (.t 28) (.i 6)⟩]) (.cond (.t 29) (.seq (.region [ ⟨some 2, none, .mov (.b false)⟩]) .ret) .skip)) (.seq (.region [ ⟨some 4, none, .mov (.i 0)⟩]) (.block 2 (.keep [1, 3, 4] [1] (.loop q36_2)))))) (.keep [1, 3] [1] (.tail [1, 3] [1] (.region [ ⟨some 20, none, .mov (.t 3)⟩, ⟨some 21, none, .bin .add (.t 20) (.i 1)⟩, ⟨some 3, none, .mov (.t 21)⟩])))
def q36_3 : LC := e36_3
theorem u36_3 : Unf q36_3 e36_3 := fun _ _ _ _ _ => (rfl)
def e36_4 : LC :=
  .block 0 (.keep [1, 3] [1] (.loop (.seq (.seq (.region [ ⟨some 15, none, .mov (.t 3)⟩, ⟨some 16, none, .fieldA 8 (.t 1)⟩, ⟨some 17, none, .load none (.t 16)⟩, ⟨some 18, none, .lenL (.t 17)⟩, ⟨some 19, none, .bin .lss (.t 15) (.t 18)⟩]) (.cond (.t 19) .skip (.exit 0))) q36_3)))
def q36_4 : LC := e36_4
theorem u36_4 : Unf q36_4 e36_4 := fun _ _ _ _ _ => (rfl)
def e36_5 : LC :=
  .seq (.seq (.region [ ⟨some 5, none, .fieldA 0 (.t 1)⟩, ⟨some 6, none, .load none (.t 5)⟩, ⟨some 7, none, .lenS (.t 6)⟩, ⟨some 8, none, .bin .gtr (.t 7) (.i 100)⟩, ⟨some 9, none, .mov (.t 8)⟩, ⟨some 10, some (9, false), .fieldA 8 (.t 1)⟩, ⟨some 11, some (9, false), .load none (.t 10)⟩, ⟨some 12, some (9, false), .lenL (.t 11)⟩, ⟨some 13, some (9, false), .bin .gtr (.t 12) (.i 12)⟩, ⟨some 14, none, .pick (.t 9) (.b true) (.t 13)⟩]) (.cond (.t 14) (.seq (.region [ ⟨some 2, none, .mov (.b false)⟩]) .ret) .skip)) (.seq (.seq (.region [ ⟨some 3, none, .mov (.i 0)⟩]) q36_4) (.seq (.region [ ⟨some 2, none, .mov (.b true)⟩]) .ret))
def q36_5 : LC := e36_5
theorem u36_5 : Unf q36_5 e36_5 := fun _ _ _ _ _ => (rfl)
def d_metrolabref18_Few : LC :=
  .seq (.region [ ⟨some 1, none, .box 1 (.t 0)⟩, ⟨some 2, none, .mov (.b false)⟩]) q36_5
def c_metrolabref18_Few : LC := d_metrolabref18_Few
theorem w_metrolabref18_Few : Unf c_metrolabref18_Few d_metrolabref18_Few := fun _ _ _ _ _ => (rfl)
attribute [simp] e36_1 u36_1 e36_2 u36_2 e36_3 u36_3 e36_4 u36_4 e36_5 u36_5 d_metrolabref18_Few w_metrolabref18_Few
theorem k_metrolabref18_Few : chkF Tryz.prog Tryz.f36 1 [(2, none)] c_metrolabref18_Few = true := by kernel_rfl
/-- metrolab/metrolabref17.Few -/
def e39_1 : LC :=
  .seq (.block 1 (.seq (.region [ ⟨some 23, none, .mov (.t 0)⟩, ⟨some 24, none, .mov (.t 3)⟩, ⟨some 25, none, .idxA 5 (.t 23) (.t 24)⟩, ⟨some 26, none, .fieldA 0 (.t 25)⟩, ⟨some 27, none, .load none (.t 26)⟩, ⟨some 28, none, .lenS (.t 27)⟩, ⟨some 29, none, .bin .gtr (.t 28) (.i 100)⟩, ⟨some 30, none, .mov (.t 29)⟩, ⟨some 31, some (30, false), .mov (.t 0)⟩, ⟨some 32, some (30, false), .mov (.t 3)⟩, ⟨some 33, some (30, false), .idxA 5 (.t 31) (.t 32)⟩, ⟨some 34, some (30, false), .fieldA 1 (.t 33)⟩, ⟨some 35, some (30, false), .load none (.t 34)⟩, ⟨some 36, some (30, false), .lenS (.t 35)⟩, ⟨some 37, some (30, false), .bin .gtr (.t 36) (.i 100)⟩, ⟨some 38, none, .pick (.t 30) (.b true) (.t 37)⟩]) (.cond (.t 38) (.seq (.region [ ⟨some 2, none, .mov (.b false)⟩]) .ret) .skip))) (.keep [0, 3] [] (.tail [0, 3] [] (.region [ ⟨some 21, none, .mov (.t 3)⟩, ⟨some 22, none, .bin .add (.t 21) (.i 1)⟩, ⟨some 3, none, .mov (.t 22)⟩])))
def q39_1 : LC := e39_1
theorem u39_1 : Unf q39_1 e39_1 := fun _ _ _ _ _ => (rfl)
def e39_2 : LC :=
  .seq (.seq (.region [ ⟨some 3, none, .mov (.i 0)⟩]) (.block 0 (.keep [0, 3] [] (.loop (.seq (.seq (.region [ ⟨some 17, none, .mov (.t 3)⟩, ⟨some 18, none, .mov (.t 0)⟩, ⟨some 19, none, .lenL (.t 18)⟩, ⟨some 20, none, .bin .lss (.t 17) (.t 19)⟩]) (.cond (.t 20) .skip (.exit 0))) q39_1))))) (.seq (.region [ ⟨some 2, none, .mov (.b true)⟩]) .ret)
def q39_2 : LC := e39_2
theorem u39_2 : Unf q39_2 e39_2 := fun _ _ _ _ _ => (rfl)
def e39_3 : LC :=
  .seq (.seq (.region [ ⟨some 4, none, .mov (.t 0)⟩, ⟨some 5, none, .lenL (.t 4)⟩, ⟨some 6, none, .bin .gtr (.t 5) (.i 10)⟩, ⟨some 7, none, .mov (.t 6)⟩, ⟨some 8, some (7, true), .mov (.t 0)⟩, ⟨some 9, some (7, true), .lenL (.t 8)⟩, ⟨some 10, some (7, true), .bin .leq (.t 9) (.i 256)⟩, ⟨some 11, none, .pick (.t 7) (.t 10) (.b false)⟩, ⟨some 12, none, .mov (.t 11)⟩, ⟨some 13, some (12, false), .mov (.t 0)⟩, ⟨some 14, some (12, false), .lenL (.t 13)⟩, ⟨some 15, some (12, false), .bin .gtr (.t 14) (.i 512)⟩, ⟨some 16, none, .pick (.t 12) (.b true) (.t 15)⟩]) (.cond (.t 16) (.seq (.region [ ⟨some 2, none, .mov (.b false)⟩]) .ret) .skip)) q39_2
def q39_3 : LC := e39_3
theorem u39_3 : Unf q39_3 e39_3 := fun _ _ _ _ _ => (rfl)
def d_metrolabref17_Few : LC :=
  .seq (.region [ ⟨some 2, none, .mov (.b false)⟩]) q39_3
def c_metrolabref17_Few : LC := d_metrolabref17_Few
theorem w_metrolabref17_Few : Unf c_metrolabref17_Few d_metrolabref17_Few := fun _ _ _ _ _ => (rfl)
attribute [simp] e39_1 u39_1 e39_2 u39_2 e39_3 u39_3 d_metrolabref17_Few w_metrolabref17_Few
theorem k_metrolabref17_Few : chkF Tryz.prog Tryz.f39 1 [(2, none)] c_metrolabref17_Few = true := by kernel_rfl
/-- metrolab/dimension.Name -/
def e43_1 : LC :=
  .seq (.region [ ⟨some 23, none, .mov (.t 4)⟩, ⟨some 24, none, .call 91 [.t 23]⟩, ⟨some 25, none, .not (.t 24)⟩, ⟨some 26, none, .mov (.t 25)⟩, ⟨some 27, some (26, true), .mov (.t 4)⟩, ⟨some 28, some (26, true), .call 92 [.t 27]⟩, ⟨some 29, some (26, true), .not (.t 28)⟩, ⟨some 30, none, .pick (.t 26) (.t 29) (.b false)⟩]) (.cond (.t 30) (.seq (.region [ ⟨some 2, none, .mov (.i 3)⟩]) .ret) .skip)
def q43_1 : LC := e43_1
theorem u43_1 : Unf q43_1 e43_1 := fun _ _ _ _ _ => (rfl)
def e43_2 : LC :=
  .keep [17, 18, 19] [] (.seq (.block 1 (.seq (.region [ ⟨some 21, none, .idxA 1 (.t 17) (.t 19)⟩, ⟨some 22, none, .load none (.t 21)⟩, ⟨some 4, none, .mov (.t 22)⟩]) q43_1)) (.keep [17, 18, 19] [] (.tail [17, 18, 19] [] (.region [ ⟨some 31, none, .bin .add (.t 19) (.i 1)⟩, ⟨some 19, none, .mov (.t 31)⟩]))))
def q43_2 : LC := e43_2
theorem u43_2 : Unf q43_2 e43_2 := fun _ _ _ _ _ => (rfl)
def e43_3 : LC :=
  .seq (.seq (.region [ ⟨some 16, none, .mov (.t 0)⟩, ⟨some 17, none, .bytes (.t 16)⟩, ⟨some 18, none, .lenL (.t 17)⟩, ⟨some 19, none, .mov (.i 0)⟩]) (.block 0 (.keep [17, 18, 19] [] (.loop (.seq (.region [ ⟨some 20, none, .bin .lss (.t 19) (.t 18)⟩]) (.seq (.cond (.t 20) .skip (.exit 0)) q43_2)))))) (.seq (.region [ ⟨some 2, none, .mov (.i 0)⟩]) .ret)
def q43_3 : LC := e43_3
theorem u43_3 : Unf q43_3 e43_3 := fun _ _ _ _ _ => (rfl)
def e43_4 : LC :=
  .seq (.seq (.region [ ⟨some 8, none, .mov (.t 0)⟩, ⟨some 9, none, .bin .eql (.t 8) (.s [])⟩, ⟨some 10, none, .mov (.t 9)⟩, ⟨some 11, some (10, false), .mov (.t 0)⟩, ⟨some 12, some (10, false), .idxS (.t 11) (.i 0)⟩, ⟨some 13, some (10, false), .call 91 [.t 12]⟩, ⟨some 14, some (10, false), .not (.t 13)⟩, ⟨some 15, none, .pick (.t 10) (.b true) (.t 14)⟩]) (.cond (.t 15) (.seq (.region [ ⟨some 2, none, .mov (.i 3)⟩]) .ret) .skip)) q43_3
def q43_4 : LC := e43_4
theorem u43_4 : Unf q43_4 e43_4 := fun _ _ _ _ _ => (rfl)
def d_dimension_Name : LC :=
  .seq (.region [ ⟨some 2, none, .mov (.i 0)⟩]) (.seq (.seq (.region [ ⟨some 5, none, .mov (.t 0)⟩, ⟨some 6, none, .lenS (.t 5)⟩, ⟨some 7, none, .bin .gtr (.t 6) (.i 24)⟩]) (.cond (.t 7) (.seq (.region [ ⟨some 2, none, .mov (.i 17)⟩]) .ret) .skip)) q43_4)
def c_dimension_Name : LC := d_dimension_Name
theorem w_dimension_Name : Unf c_dimension_Name d_dimension_Name := fun _ _ _ _ _ => (rfl)
attribute [simp] e43_1 u43_1 e43_2 u43_2 e43_3 u43_3 e43_4 u43_4 d_dimension_Name w_dimension_Name
theorem k_dimension_Name : chkF Tryz.prog Tryz.f43 1 [(2, none)] c_dimension_Name = true := by kernel_rfl
/-- metrolab/metrolabref17.Name -/
def e47_1 : LC :=
  .seq (.block 1 (.seq (.region [ ⟨some 22, none, .mov (.t 0)⟩, ⟨some 23, none, .mov (.t 3)⟩, ⟨some 24, none, .idxS (.t 22) (.t 23)⟩, ⟨some 25, none, .call 97 [.t 24]⟩, ⟨some 26, none, .not (.t 25)⟩, ⟨some 27, none, .mov (.t 26)⟩, ⟨some 28, some (27, true), .mov (.t 0)⟩, ⟨some 29, some (27, true), .mov (.t 3)⟩, ⟨some 30, some (27, true), .idxS (.t 28) (.t 29)⟩, ⟨some 31, some (27, true), .bin .lss (.t 30) (.c (.at (.d (.int .u8 48))))⟩, ⟨some 32, some (27, true), .mov (.t 31)⟩, ⟨some 33, some (32, false), .mov (.t 0)⟩, ⟨some 34, some (32, false), .mov (.t 3)⟩, ⟨some 35, some (32, false), .idxS (.t 33) (.t 34)⟩, ⟨some 36, some (32, false), .bin .gtr (.t 35) (.c (.at (.d (.int .u8 57))))⟩, ⟨some 37, some (27, true), .pick (.t 32) (.b true) (.t 36)⟩, ⟨some 38, none, .pick (.t 27) (.t 37) (.b false)⟩]) (.cond (.t 38) (.seq (.region [ ⟨some 2, none, .mov (.i 3)⟩]) .ret) .skip))) (.keep [0, 3] [] (.tail [0, 3] [] (.region [ ⟨some 20, none, .mov (.t 3)⟩, ⟨some 21, none, .bin .add (.t 20) (.i 1)⟩, ⟨some 3, none, .mov (.t 21)⟩])))
def q47_1 : LC := e47_1
theorem u47_1 : Unf q47_1 e47_1 := fun _ _ _ _ _ => (rfl)
def e47_2 : LC :=
  .seq (.seq (.region [ ⟨some 3, none, .mov (.i 0)⟩]) (.block 0 (.keep [0, 3] [] (.loop (.seq (.seq (.region [ ⟨some 16, none, .mov (.t 3)⟩, ⟨some 17, none, .mov (.t 0)⟩, ⟨some 18, none, .lenS (.t 17)⟩, ⟨some 19, none, .bin .lss (.t 16) (.t 18)⟩]) (.cond (.t 19) .skip (.exit 0))) q47_1))))) (.seq (.region [ ⟨some 2, none, .mov (.i 0)⟩]) .ret)
def q47_2 : LC := e47_2
theorem u47_2 : Unf q47_2 e47_2 := fun _ _ _ _ _ => (rfl)
def e47_3 : LC :=
  .seq (.seq (.region [ ⟨some 7, none, .mov (.t 0)⟩, ⟨some 8, none, .lenS (.t 7)⟩, ⟨some 9, none, .bin .eql (.t 8) (.i 0)⟩, ⟨some 10, none, .mov (.t 9)⟩, ⟨some 11, some (10, false), .mov (.t 0)⟩, ⟨some 12, some (10, false), .idxS (.t 11) (.i 0)⟩, ⟨some 13, some (10, false), .call 97 [.t 12]⟩, ⟨some 14, some (10, false), .not (.t 13)⟩, ⟨some 15, none, .pick (.t 10) (.b true) (.t 14)⟩]) (.cond (.t 15) (.seq (.region [ ⟨some 2, none, .mov (.i 3)⟩]) .ret) .skip)) q47_2
def q47_3 : LC := e47_3
theorem u47_3 : Unf q47_3 e47_3 := fun _ _ _ _ _ => (rfl)
def d_metrolabref17_Name : LC :=
  .seq (.region [ ⟨some 2, none, .mov (.i 0)⟩]) (.seq (.seq (.region [ ⟨some 4, none, .mov (.t 0)⟩, ⟨some 5, none, .lenS (.t 4)⟩, ⟨some 6, none, .bin .gtr (.t 5) (.i 24)⟩]) (.cond (.t 6) (.seq (.region [ ⟨some 2, none, .mov (.i 17)⟩]) .ret) .skip)) q47_3)
def c_metrolabref17_Name : LC := d_metrolabref17_Name
theorem w_metrolabref17_Name : Unf c_metrolabref17_Name d_metrolabref17_Name := fun _ _ _ _ _ => (rfl)
attribute [simp] e47_1 u47_1 e47_2 u47_2 e47_3 u47_3 d_metrolabref17_Name w_metrolabref17_Name
theorem k_metrolabref17_Name : chkF Tryz.prog Tryz.f47 1 [(2, none)] c_metrolabref17_Name = true := by kernel_rfl
/-- metrolab/metrolabref18.Axis -/
def e76_1 : LC :=
  .seq (.seq (.region [ ⟨some 3, none, .mov (.t 0)⟩, ⟨some 4, none, .bin .lss (.t 3) (.i 0)⟩, ⟨some 5, none, .mov (.t 4)⟩, ⟨some 6, some (5, false), .mov (.t 0)⟩, ⟨some 7, some (5, false), .bin .geq (.t 6) (.i 3)⟩, ⟨some 8, none, .pick (.t 5) (.b true) (.t 7)⟩]) (.cond (.t 8) (.seq (.region [ ⟨some 2, none, .mov (.i 1)⟩]) .ret) .skip)) (.seq (.region [ ⟨some 2, none, .mov (.i 0)⟩]) .ret)
def q76_1 : LC := e76_1
theorem u76_1 : Unf q76_1 e76_1 := fun _ _ _ _ _ => (rfl)
def d_metrolabref18_Axis : LC :=
  .seq (.region [ ⟨some 2, none, .mov (.i 0)⟩]) q76_1
def c_metrolabref18_Axis : LC := d_metrolabref18_Axis
theorem w_metrolabref18_Axis : Unf c_metrolabref18_Axis d_metrolabref18_Axis := fun _ _ _ _ _ => (rfl)
attribute [simp] e76_1 u76_1 d_metrolabref18_Axis w_metrolabref18_Axis
theorem k_metrolabref18_Axis : chkF Tryz.prog Tryz.f76 1 [(2, none)] c_metrolabref18_Axis = true := by kernel_rfl
/-- metrolab/metrolabref18.SameFrames -/
def e78_1 : LC :=
  .seq (.block 3 (.seq (.draw [0, 1, 0, 7, 15, 0, 32, 0, 224, 480, 1023] [ ⟨some 70, none, .fieldA 4 (.t 6)⟩, ⟨some 71, none, .load none (.t 70)⟩, ⟨some 72, none, .mov (.t 8)⟩, ⟨some 73, none, .idxA 2 (.t 71) (.t 72)⟩, ⟨some 74, none, .load (some 2) (.t 73)⟩, ⟨some 75, none, .fieldA 4 (.t 7)⟩, ⟨some 76, none, .load none (.t 75)⟩, ⟨some 77, none, .mov (.t 8)⟩, ⟨some 78, none, .idxA 2 (.t 76) (.t 77)⟩, ⟨some 79, none, .load (some 2) (.t 78)⟩, ⟨some 80, none, .eqAgg true [1, 0] (.t 74) (.t 79)⟩]) (.cond (.t 80) (.seq (.region [ ⟨some 4, none, .mov (.b false)⟩]) .ret) .skip))) (.keep [0, 1, 5, 6, 7, 8] [6, 7] (.tail [0, 1, 5, 6, 7, 8] [6, 7] (.region [ ⟨some 68, none, .mov (.t 8)⟩, ⟨some 69, none, .bin .add (.t 68) (.i 1)⟩, ⟨some 8, none, .mov (.t 69)⟩])))
def q78_1 : LC := e78_1
theorem u78_1 : Unf q78_1 e78_1 := fun _ _ _ _ _ => (rfl)
def e78_2 : LC :=
  .seq (.seq (.region [ ⟨some 63, none, .mov (.t 8)⟩, ⟨some 64, none, .fieldA 4 (.t 6)⟩, ⟨some 65, none, .load none (.t 64)⟩, ⟨some 66, none, .lenL (.t 65)⟩, ⟨some 67, none, .bin .lss (.t 63) (.t 66)⟩]) (.cond (.t 67) .skip (.exit 2))) q78_1
def q78_2 : LC := e78_2
theorem u78_2 : Unf q78_2 e78_2 := fun _ _ _ _ _ => (rfl)
def e78_3 : LC :=
  .seq (.seq (.region [ ⟨some 28, none, .fieldA 0 (.t 6)⟩, ⟨some 29, none, .load none (.t 28)⟩, ⟨some 30, none, .fieldA 0 (.t 7)⟩, ⟨some 31, none, .load none (.t 30)⟩, ⟨some 32, none, .bin .neq (.t 29) (.t 31)⟩, ⟨some 33, none, .mov (.t 32)⟩, ⟨some 34, some (33, false), .fieldA 1 (.t 6)⟩, ⟨some 35, some (33, false), .load none (.t 34)⟩, ⟨some 36, some (33, false), .fieldA 1 (.t 7)⟩, ⟨some 37, some (33, false), .load none (.t 36)⟩, ⟨some 38, some (33, false), .beq true (.t 35) (.t 37)⟩, ⟨some 39, none, .pick (.t 33) (.b true) (.t 38)⟩, ⟨some 40, none, .mov (.t 39)⟩, ⟨some 41, some (40, false), .fieldA 2 (.t 6)⟩, ⟨some 42, some (40, false), .load none (.t 41)⟩, ⟨some 43, some (40, false), .fieldA 2 (.t 7)⟩, ⟨some 44, some (40, false), .load none (.t 43)⟩, ⟨some 45, some (40, false), .bin .neq (.t 42) (.t 44)⟩, ⟨some 46, none, .pick (.t 40) (.b true) (.t 45)⟩, ⟨some 47, none, .mov (.t 46)⟩, ⟨some 48, some (47, false), .fieldA 3 (.t 6)⟩, ⟨some 49, some (47, false), .load none (.t 48)⟩, ⟨some 50, some (47, false), .fieldA 3 (.t 7)⟩, ⟨some 51, some (47, false), .load none (.t 50)⟩, ⟨some 52, some (47, false), .bin .neq (.t 49) (.t 51)⟩, ⟨some 53, none, .pick (.t 47) (.b true) (.t 52)⟩, ⟨some 54, none, .mov (.t 53)⟩, ⟨some 55, some (54, false), .fieldA 4 (.t 6)⟩, ⟨some 56, some (54, false), .load none (.t 55)⟩, ⟨some 57, some (54, false), .lenL (.t 56)⟩, ⟨some 58, some (54, false), .fieldA 4 (.t 7)⟩, ⟨some 59, some (54, false), .load none (.t 58)⟩, ⟨some 60, some (54, false), .lenL (.t 59)⟩, ⟨some 61, some (54, false), .bin .neq (.t 57) (.t 60)⟩, ⟨some 62, none, .pick (.t 54) (.b true) (.t 61)⟩]) (.cond (.t 62) (.seq (.region [ ⟨some 4, none, .mov (.b false)⟩]) .ret) .skip)) (.seq (.region [ ⟨some 8, none, .mov (.i 0)⟩]) (.block 2 (.keep [0, 1, 5, 6, 7, 8] [6, 7] (.loop q78_2))))
def q78_3 : LC := e78_3
theorem u78_3 : Unf q78_3 e78_3 := fun _ _ _ _ _ => (rfl)
def e78_4 : LC :=
  .seq (.block 1 (.seq (.draw [0, 0, 3, 7, 0, 0, 48, 112, 0, 0, 783, 2047] [ ⟨some 20, none, .mov (.t 0)⟩, ⟨some 21, none, .mov (.t 5)⟩, ⟨some 22, none, .idxA 5 (.t 20) (.t 21)⟩, ⟨some 23, none, .load (some 5) (.t 22)⟩, ⟨some 24, none, .mov (.t 1)⟩, ⟨some 25, none, .mov (.t 5)⟩, ⟨some 26, none, .idxA 5 (.t 24) (.t 25)⟩, ⟨some 27, none, .load (some 5) (.t 26)⟩, ⟨some 6, none, .alloc 6 [.d (.int .i64 0), .d (.bool false), .d (.int .i64 0), .d (.int .i64 0), .nils]⟩, ⟨some 7, none, .alloc 7 [.d (.int .i64 0), .d (.bool false), .d (.int .i64 0), .d (.int .i64 0), .nils]⟩, ⟨none, none, .store 5 (.t 6) (.t 23)⟩, ⟨none, none, .store 5 (.t 7) (.t 27)⟩]) q78_3)) (.keep [0, 1, 5] [] (.tail [0, 1, 5] [] (.region [ ⟨some 18, none, .mov (.t 5)⟩, ⟨some 19, none, .bin .add (.t 18) (.i 1)⟩, ⟨some 5, none, .mov (.t 19)⟩])))
def q78_4 : LC := e78_4
theorem u78_4 : Unf q78_4 e78_4 := fun _ _ _ _ _ => (rfl)
def e78_5 : LC :=
  .seq (.seq (.region [ ⟨some 5, none, .mov (.i 0)⟩]) (.block 0 (.keep [0, 1, 5] [] (.loop (.seq (.seq (.region [ ⟨some 14, none, .mov (.t 5)⟩, ⟨some 15, none, .mov (.t 0)⟩, ⟨some 16, none, .lenL (.t 15)⟩, ⟨some 17, none, .bin .lss (.t 14) (.t 16)⟩]) (.cond (.t 17) .skip (.exit 0))) q78_4))))) (.seq (.region [ ⟨some 4, none, .mov (.b true)⟩]) .ret)
def q78_5 : LC := e78_5
theorem u78_5 : Unf q78_5 e78_5 := fun _ _ _ _ _ => (rfl)
def d_metrolabref18_SameFrames : LC :=
  .seq (.region [ ⟨some 4, none, .mov (.b false)⟩]) (.seq (.seq (.region [ ⟨some 9, none, .mov (.t 0)⟩, ⟨some 10, none, .lenL (.t 9)⟩, ⟨some 11, none, .mov (.t 1)⟩, ⟨some 12, none, .lenL (.t 11)⟩, ⟨some 13, none, .bin .neq (.t 10) (.t 12)⟩]) (.cond (.t 13) (.seq (.region [ ⟨some 4, none, .mov (.b false)⟩]) .ret) .skip)) q78_5)
def c_metrolabref18_SameFrames : LC := d_metrolabref18_SameFrames
theorem w_metrolabref18_SameFrames : Unf c_metrolabref18_SameFrames d_metrolabref18_SameFrames := fun _ _ _ _ _ => (rfl)
attribute [simp] e78_1 u78_1 e78_2 u78_2 e78_3 u78_3 e78_4 u78_4 e78_5 u78_5 d_metrolabref18_SameFrames w_metrolabref18_SameFrames
theorem k_metrolabref18_SameFrames : chkF Tryz.prog Tryz.f78 2 [(4, none)] c_metrolabref18_SameFrames = true := by kernel_rfl
/-- metrolab/dimension.letter -/
def e91_1 : LC :=
  .seq (.region [ ⟨some 3, none, .mov (.t 0)⟩, ⟨some 4, none, .bin .geq (.t 3) (.c (.at (.d (.int .u8 65))))⟩, ⟨some 5, none, .mov (.t 4)⟩, ⟨some 6, some (5, true), .mov (.t 0)⟩, ⟨some 7, some (5, true), .bin .leq (.t 6) (.c (.at (.d (.int .u8 90))))⟩, ⟨some 8, none, .pick (.t 5) (.t 7) (.b false)⟩, ⟨some 9, none, .mov (.t 8)⟩, ⟨some 10, some (9, false), .mov (.t 0)⟩, ⟨some 11, some (9, false), .bin .geq (.t 10) (.c (.at (.d (.int .u8 97))))⟩, ⟨some 12, some (9, false), .mov (.t 11)⟩, ⟨some 13, some (12, true), .mov (.t 0)⟩, ⟨some 14, some (12, true), .bin .leq (.t 13) (.c (.at (.d (.int .u8 122))))⟩, ⟨some 15, some (9, false), .pick (.t 12) (.t 14) (.b false)⟩, ⟨some 16, none, .pick (.t 9) (.b true) (.t 15)⟩, ⟨some 2, none, .mov (.t 16)⟩]) .ret
def q91_1 : LC := e91_1
theorem u91_1 : Unf q91_1 e91_1 := fun _ _ _ _ _ => (rfl)
def d_dimension_letter : LC :=
  .seq (.region [ ⟨some 2, none, .mov (.b false)⟩]) q91_1
def c_dimension_letter : LC := d_dimension_letter
theorem w_dimension_letter : Unf c_dimension_letter d_dimension_letter := fun _ _ _ _ _ => (rfl)
attribute [simp] e91_1 u91_1 d_dimension_letter w_dimension_letter
theorem k_dimension_letter : chkF Tryz.prog Tryz.f91 1 [(2, none)] c_dimension_letter = true := by kernel_rfl
/-- metrolab/dimension.digit -/
def d_dimension_digit : LC :=
  .seq (.region [ ⟨some 2, none, .mov (.b false)⟩]) (.seq (.region [ ⟨some 3, none, .mov (.t 0)⟩, ⟨some 4, none, .bin .geq (.t 3) (.c (.at (.d (.int .u8 48))))⟩, ⟨some 5, none, .mov (.t 4)⟩, ⟨some 6, some (5, true), .mov (.t 0)⟩, ⟨some 7, some (5, true), .bin .leq (.t 6) (.c (.at (.d (.int .u8 57))))⟩, ⟨some 8, none, .pick (.t 5) (.t 7) (.b false)⟩, ⟨some 2, none, .mov (.t 8)⟩]) .ret)
def c_dimension_digit : LC := d_dimension_digit
theorem w_dimension_digit : Unf c_dimension_digit d_dimension_digit := fun _ _ _ _ _ => (rfl)
attribute [simp] d_dimension_digit w_dimension_digit
theorem k_dimension_digit : chkF Tryz.prog Tryz.f92 1 [(2, none)] c_dimension_digit = true := by kernel_rfl
/-- metrolab/dimension.Valid -/
def e95_1 : LC :=
  .lift 1 (.seq (.draw [0, 1, 3, 0, 8, 31, 0, 0, 128, 447, 1023, 2047, 4095] [ ⟨some 3, none, .fieldA 0 (.t 1)⟩, ⟨some 4, none, .load none (.t 3)⟩, ⟨some 5, none, .call 144 [.t 4]⟩, ⟨some 6, none, .fieldA 1 (.t 1)⟩, ⟨some 7, none, .load none (.t 6)⟩, ⟨some 8, none, .call 144 [.t 7]⟩, ⟨some 9, none, .fn 145 [.t 1]⟩, ⟨some 10, none, .fieldA 3 (.t 1)⟩, ⟨some 11, none, .load (some 2) (.t 10)⟩, ⟨some 12, none, .call 146 [.t 11]⟩, ⟨some 13, none, .buildS 13 174 1 4 [(0, 1, .t 5), (1, 1, .t 8), (2, 1, .t 9), (3, 1, .t 12)]⟩, ⟨some 14, none, .call 143 [.t 13]⟩, ⟨some 2, none, .mov (.t 14)⟩]) .ret)
def q95_1 : LC := e95_1
theorem u95_1 : Unf q95_1 e95_1 := fun _ _ _ _ _ => (rfl)
def d_dimension_Valid : LC :=
  .seq (.region [ ⟨some 1, none, .box 1 (.t 0)⟩, ⟨some 2, none, .mov (.i 0)⟩]) q95_1
def c_dimension_Valid : LC := d_dimension_Valid
theorem w_dimension_Valid : Unf c_dimension_Valid d_dimension_Valid := fun _ _ _ _ _ => (rfl)
attribute [simp] e95_1 u95_1 d_dimension_Valid w_dimension_Valid
theorem k_dimension_Valid : chkF Tryz.prog Tryz.f95 1 [(2, none)] c_dimension_Valid = true := by kernel_rfl
/-- metrolab/metrolabref17.letter -/
def e97_1 : LC :=
  .seq (.region [ ⟨some 3, none, .mov (.t 0)⟩, ⟨some 4, none, .bin .geq (.t 3) (.c (.at (.d (.int .u8 97))))⟩, ⟨some 5, none, .mov (.t 4)⟩, ⟨some 6, some (5, true), .mov (.t 0)⟩, ⟨some 7, some (5, true), .bin .leq (.t 6) (.c (.at (.d (.int .u8 122))))⟩, ⟨some 8, none, .pick (.t 5) (.t 7) (.b false)⟩, ⟨some 9, none, .mov (.t 8)⟩, ⟨some 10, some (9, false), .mov (.t 0)⟩, ⟨some 11, some (9, false), .bin .geq (.t 10) (.c (.at (.d (.int .u8 65))))⟩, ⟨some 12, some (9, false), .mov (.t 11)⟩, ⟨some 13, some (12, true), .mov (.t 0)⟩, ⟨some 14, some (12, true), .bin .leq (.t 13) (.c (.at (.d (.int .u8 90))))⟩, ⟨some 15, some (9, false), .pick (.t 12) (.t 14) (.b false)⟩, ⟨some 16, none, .pick (.t 9) (.b true) (.t 15)⟩, ⟨some 2, none, .mov (.t 16)⟩]) .ret
def q97_1 : LC := e97_1
theorem u97_1 : Unf q97_1 e97_1 := fun _ _ _ _ _ => (rfl)
def d_metrolabref17_letter : LC :=
  .seq (.region [ ⟨some 2, none, .mov (.b false)⟩]) q97_1
def c_metrolabref17_letter : LC := d_metrolabref17_letter
theorem w_metrolabref17_letter : Unf c_metrolabref17_letter d_metrolabref17_letter := fun _ _ _ _ _ => (rfl)
attribute [simp] e97_1 u97_1 d_metrolabref17_letter w_metrolabref17_letter
theorem k_metrolabref17_letter : chkF Tryz.prog Tryz.f97 1 [(2, none)] c_metrolabref17_letter = true := by kernel_rfl
/-- metrolab/metrolabref17.Valid -/
def e99_1 : LC :=
  .seq (.seq (.region [ ⟨some 22, none, .fieldA 2 (.t 1)⟩, ⟨some 23, none, .load none (.t 22)⟩, ⟨some 24, none, .bin .lss (.t 23) (.i 0)⟩, ⟨some 25, none, .mov (.t 24)⟩, ⟨some 26, some (25, false), .fieldA 2 (.t 1)⟩, ⟨some 27, some (25, false), .load none (.t 26)⟩, ⟨some 28, some (25, false), .bin .geq (.t 27) (.i 3)⟩, ⟨some 29, none, .pick (.t 25) (.b true) (.t 28)⟩]) (.cond (.t 29) (.seq (.region [ ⟨some 2, none, .mov (.i 1)⟩]) .ret) .skip)) (.seq (.region [ ⟨some 30, none, .fieldA 3 (.t 1)⟩, ⟨some 31, none, .load (some 2) (.t 30)⟩, ⟨some 32, none, .call 152 [.t 31]⟩, ⟨some 2, none, .mov (.t 32)⟩]) .ret)
def q99_1 : LC := e99_1
theorem u99_1 : Unf q99_1 e99_1 := fun _ _ _ _ _ => (rfl)
def e99_2 : LC :=
  .seq (.seq (.region [ ⟨some 11, none, .fieldA 1 (.t 1)⟩, ⟨some 12, none, .load none (.t 11)⟩, ⟨some 13, none, .call 47 [.t 12]⟩, ⟨some 4, none, .mov (.t 13)⟩]) (.seq (.region [ ⟨some 14, none, .mov (.t 4)⟩, ⟨some 15, none, .bin .neq (.t 14) (.i 0)⟩]) (.cond (.t 15) (.seq (.region [ ⟨some 16, none, .mov (.t 4)⟩, ⟨some 2, none, .mov (.t 16)⟩]) .ret) .skip))) (.seq (.seq (.region [ ⟨some 17, none, .fieldA 0 (.t 1)⟩, ⟨some 18, none, .load none (.t 17)⟩, ⟨some 19, none, .fieldA 1 (.t 1)⟩, ⟨some 20, none, .load none (.t 19)⟩, ⟨some 21, none, .bin .eql (.t 18) (.t 20)⟩]) (.cond (.t 21) (.seq (.region [ ⟨some 2, none, .mov (.i 7)⟩]) .ret) .skip)) q99_1)
def q99_2 : LC := e99_2
theorem u99_2 : Unf q99_2 e99_2 := fun _ _ _ _ _ => (rfl)
def e99_3 : LC :=
  .seq (.seq (.region [ ⟨some 5, none, .fieldA 0 (.t 1)⟩, ⟨some 6, none, .load none (.t 5)⟩, ⟨some 7, none, .call 47 [.t 6]⟩, ⟨some 3, none, .mov (.t 7)⟩]) (.seq (.region [ ⟨some 8, none, .mov (.t 3)⟩, ⟨some 9, none, .bin .neq (.t 8) (.i 0)⟩]) (.cond (.t 9) (.seq (.region [ ⟨some 10, none, .mov (.t 3)⟩, ⟨some 2, none, .mov (.t 10)⟩]) .ret) .skip))) q99_2
def q99_3 : LC := e99_3
theorem u99_3 : Unf q99_3 e99_3 := fun _ _ _ _ _ => (rfl)
def d_metrolabref17_Valid : LC :=
  .seq (.region [ ⟨some 1, none, .box 1 (.t 0)⟩, ⟨some 2, none, .mov (.i 0)⟩]) q99_3
def c_metrolabref17_Valid : LC := d_metrolabref17_Valid
theorem w_metrolabref17_Valid : Unf c_metrolabref17_Valid d_metrolabref17_Valid := fun _ _ _ _ _ => (rfl)
attribute [simp] e99_1 u99_1 e99_2 u99_2 e99_3 u99_3 d_metrolabref17_Valid w_metrolabref17_Valid
theorem k_metrolabref17_Valid : chkF Tryz.prog Tryz.f99 1 [(2, none)] c_metrolabref17_Valid = true := by kernel_rfl
/-- metrolab/metrolabref17.Has -/
def e101_1 : LC :=
  .seq (.region [ ⟨some 5, none, .mov (.t 1)⟩, ⟨some 6, none, .fieldA 0 (.t 2)⟩, ⟨some 7, none, .load none (.t 6)⟩, ⟨some 8, none, .bin .geq (.t 5) (.t 7)⟩, ⟨some 9, none, .mov (.t 8)⟩, ⟨some 10, some (9, true), .mov (.t 1)⟩, ⟨some 11, some (9, true), .fieldA 1 (.t 2)⟩, ⟨some 12, some (9, true), .load none (.t 11)⟩, ⟨some 13, some (9, true), .bin .leq (.t 10) (.t 12)⟩, ⟨some 14, none, .pick (.t 9) (.t 13) (.b false)⟩, ⟨some 4, none, .mov (.t 14)⟩]) .ret
def q101_1 : LC := e101_1
theorem u101_1 : Unf q101_1 e101_1 := fun _ _ _ _ _ => (rfl)
def d_metrolabref17_Has : LC :=
  .seq (.region [ ⟨some 2, none, .box 2 (.t 0)⟩, ⟨some 4, none, .mov (.b false)⟩]) q101_1
def c_metrolabref17_Has : LC := d_metrolabref17_Has
theorem w_metrolabref17_Has : Unf c_metrolabref17_Has d_metrolabref17_Has := fun _ _ _ _ _ => (rfl)
attribute [simp] e101_1 u101_1 d_metrolabref17_Has w_metrolabref17_Has
theorem k_metrolabref17_Has : chkF Tryz.prog Tryz.f101 2 [(4, none)] c_metrolabref17_Has = true := by kernel_rfl
/-- metrolab/feature.Check -/
def e105_1 : LC :=
  .cond (.t 44) (.seq (.region [ ⟨some 2, none, .mov (.i 3)⟩]) .ret) (.seq (.region [ ⟨some 55, none, .fieldA 1 (.t 1)⟩, ⟨some 56, none, .load none (.t 55)⟩, ⟨some 57, none, .bin .eql (.t 56) (.i 0)⟩, ⟨some 54, none, .mov (.t 57)⟩]) (.cond (.t 54) (.seq (.region [ ⟨some 2, none, .mov (.i 0)⟩]) .ret) .skip))
def q105_1 : LC := e105_1
theorem u105_1 : Unf q105_1 e105_1 := fun _ _ _ _ _ => (rfl)
def e105_2 : LC :=
  .seq (.region [ ⟨some 45, none, .fieldA 1 (.t 1)⟩, ⟨some 46, none, .load none (.t 45)⟩, ⟨some 47, none, .bin .eql (.t 46) (.i 0)⟩, ⟨some 48, none, .mov (.t 47)⟩, ⟨some 49, some (48, true), .fieldA 6 (.t 1)⟩, ⟨some 50, some (48, true), .load (some 2) (.t 49)⟩, ⟨some 51, some (48, true), .build [.d (.int .i64 0), .d (.int .i64 0)] []⟩, ⟨some 52, some (48, true), .eqAgg true [0, 0] (.t 50) (.t 51)⟩, ⟨some 53, none, .pick (.t 48) (.t 52) (.b false)⟩, ⟨some 44, none, .mov (.t 53)⟩]) q105_1
def q105_2 : LC := e105_2
theorem u105_2 : Unf q105_2 e105_2 := fun _ _ _ _ _ => (rfl)
def e105_3 : LC :=
  .seq (.region [ ⟨some 40, none, .fieldA 3 (.t 1)⟩, ⟨some 41, none, .load (some 3) (.t 40)⟩, ⟨some 42, none, .call 156 [.t 41]⟩, ⟨some 43, none, .not (.t 42)⟩, ⟨some 39, none, .mov (.t 43)⟩]) (.cond (.t 39) (.seq (.region [ ⟨some 2, none, .mov (.i 2)⟩]) .ret) q105_2)
def q105_3 : LC := e105_3
theorem u105_3 : Unf q105_3 e105_3 := fun _ _ _ _ _ => (rfl)
def e105_4 : LC :=
  .seq (.region [ ⟨some 31, none, .fieldA 1 (.t 1)⟩, ⟨some 32, none, .load none (.t 31)⟩, ⟨some 33, none, .bin .eql (.t 32) (.i 4)⟩, ⟨some 34, none, .mov (.t 33)⟩, ⟨some 35, some (34, true), .fieldA 2 (.t 1)⟩, ⟨some 36, some (34, true), .load none (.t 35)⟩, ⟨some 37, some (34, true), .bin .neq (.t 36) (.i 0)⟩, ⟨some 38, none, .pick (.t 34) (.t 37) (.b false)⟩, ⟨some 30, none, .mov (.t 38)⟩]) (.cond (.t 30) (.seq (.region [ ⟨some 2, none, .mov (.i 3)⟩]) .ret) q105_3)
def q105_4 : LC := e105_4
theorem u105_4 : Unf q105_4 e105_4 := fun _ _ _ _ _ => (rfl)
def e105_5 : LC :=
  .keep [1] [1] (.seq (.seq (.region [ ⟨some 58, none, .fieldA 6 (.t 1)⟩, ⟨some 59, none, .load (some 2) (.t 58)⟩, ⟨some 60, none, .call 157 [.t 59]⟩, ⟨some 4, none, .mov (.t 60)⟩]) (.seq (.region [ ⟨some 61, none, .mov (.t 4)⟩, ⟨some 62, none, .bin .neq (.t 61) (.i 0)⟩]) (.cond (.t 62) (.seq (.region [ ⟨some 63, none, .mov (.t 4)⟩, ⟨some 2, none, .mov (.t 63)⟩]) .ret) .skip))) (.seq (.seq (.region [ ⟨some 64, none, .fieldA 6 (.t 1)⟩, ⟨some 65, none, .fieldA 0 (.t 64)⟩, ⟨some 66, none, .load none (.t 65)⟩, ⟨some 67, none, .bin .lss (.t 66) (.i 1)⟩]) (.cond (.t 67) (.seq (.region [ ⟨some 2, none, .mov (.i 2)⟩]) .ret) .skip)) (.seq (.region [ ⟨some 2, none, .mov (.i 0)⟩]) .ret)))
def q105_5 : LC := e105_5
theorem u105_5 : Unf q105_5 e105_5 := fun _ _ _ _ _ => (rfl)
def e105_6 : LC :=
  .seq (.block 0 (.seq (.region [ ⟨some 12, none, .fieldA 1 (.t 1)⟩, ⟨some 13, none, .load none (.t 12)⟩, ⟨some 14, none, .bin .lss (.t 13) (.i 0)⟩, ⟨some 15, none, .mov (.t 14)⟩, ⟨some 16, some (15, false), .fieldA 1 (.t 1)⟩, ⟨some 17, some (15, false), .load none (.t 16)⟩, ⟨some 18, some (15, false), .bin .geq (.t 17) (.i 5)⟩, ⟨some 19, none, .pick (.t 15) (.b true) (.t 18)⟩, ⟨some 20, none, .mov (.t 19)⟩, ⟨some 21, some (20, false), .fieldA 2 (.t 1)⟩, ⟨some 22, some (20, false), .load none (.t 21)⟩, ⟨some 23, some (20, false), .bin .lss (.t 22) (.i 0)⟩, ⟨some 24, none, .pick (.t 20) (.b true) (.t 23)⟩, ⟨some 25, none, .mov (.t 24)⟩, ⟨some 26, some (25, false), .fieldA 2 (.t 1)⟩, ⟨some 27, some (25, false), .load none (.t 26)⟩, ⟨some 28, some (25, false), .bin .geq (.t 27) (.i 3)⟩, ⟨some 29, none, .pick (.t 25) (.b true) (.t 28)⟩, ⟨some 11, none, .mov (.t 29)⟩]) (.cond (.t 11) (.seq (.region [ ⟨some 2, none, .mov (.i 1)⟩]) .ret) q105_4))) q105_5
def q105_6 : LC := e105_6
theorem u105_6 : Unf q105_6 e105_6 := fun _ _ _ _ _ => (rfl)
def e105_7 : LC :=
  .seq (.seq (.region [ ⟨some 5, none, .fieldA 0 (.t 1)⟩, ⟨some 6, none, .load none (.t 5)⟩, ⟨some 7, none, .call 43 [.t 6]⟩, ⟨some 3, none, .mov (.t 7)⟩]) (.seq (.region [ ⟨some 8, none, .mov (.t 3)⟩, ⟨some 9, none, .bin .neq (.t 8) (.i 0)⟩]) (.cond (.t 9) (.seq (.region [ ⟨some 10, none, .mov (.t 3)⟩, ⟨some 2, none, .mov (.t 10)⟩]) .ret) .skip))) q105_6
def q105_7 : LC := e105_7
theorem u105_7 : Unf q105_7 e105_7 := fun _ _ _ _ _ => (rfl)
def d_feature_Check : LC :=
  .seq (.region [ ⟨some 1, none, .box 1 (.t 0)⟩, ⟨some 2, none, .mov (.i 0)⟩]) q105_7
def c_feature_Check : LC := d_feature_Check
theorem w_feature_Check : Unf c_feature_Check d_feature_Check := fun _ _ _ _ _ => (rfl)
attribute [simp] e105_1 u105_1 e105_2 u105_2 e105_3 u105_3 e105_4 u105_4 e105_5 u105_5 e105_6 u105_6 e105_7 u105_7 d_feature_Check w_feature_Check
theorem k_feature_Check : chkF Tryz.prog Tryz.f105 1 [(2, none)] c_feature_Check = true := by kernel_rfl
/-- metrolab/feature.Reach -/
def e126_1 : LC :=
  .seq (.seq (.region [ ⟨some 23, none, .fieldA 0 (.t 7)⟩, ⟨some 24, none, .load none (.t 23)⟩, ⟨some 25, none, .call 187 [.t 24]⟩, ⟨some 26, none, .not (.t 25)⟩, ⟨some 27, none, .mov (.t 26)⟩, ⟨some 28, some (27, false), .fieldA 1 (.t 7)⟩, ⟨some 29, some (27, false), .load none (.t 28)⟩, ⟨some 30, some (27, false), .call 187 [.t 29]⟩, ⟨some 31, some (27, false), .not (.t 30)⟩, ⟨some 32, none, .pick (.t 27) (.b true) (.t 31)⟩]) (.cond (.t 32) (.seq (.region [ ⟨some 33, none, .build [.d (.int .i64 0), .d (.int .i64 0)] []⟩, ⟨none, none, .store 2 (.t 4) (.t 33)⟩, ⟨some 5, none, .mov (.i 2)⟩]) .ret) .skip)) (.seq (.region [ ⟨some 34, none, .load (some 2) (.t 7)⟩, ⟨none, none, .store 2 (.t 4) (.t 34)⟩, ⟨some 5, none, .mov (.i 0)⟩]) .ret)
def q126_1 : LC := e126_1
theorem u126_1 : Unf q126_1 e126_1 := fun _ _ _ _ _ => (rfl)
def e126_2 : LC :=
  .seq (.seq (.region [ ⟨some 15, none, .load (some 9) (.t 2)⟩, ⟨some 16, none, .mov (.t 1)⟩, ⟨some 17, none, .call 185 [.t 15, .t 16]⟩, ⟨some 18, none, .not (.t 17)⟩]) (.cond (.t 18) (.seq (.region [ ⟨some 19, none, .build [.d (.int .i64 0), .d (.int .i64 0)] []⟩, ⟨none, none, .store 2 (.t 4) (.t 19)⟩, ⟨some 5, none, .mov (.i 14)⟩]) .ret) .skip)) (.seq (.region [ ⟨some 20, none, .load (some 9) (.t 2)⟩, ⟨some 21, none, .mov (.t 1)⟩, ⟨some 22, none, .call 186 [.t 20, .t 21]⟩, ⟨some 7, none, .alloc 7 [.d (.int .i64 0), .d (.int .i64 0)]⟩, ⟨none, none, .store 2 (.t 7) (.t 22)⟩]) q126_1)
def q126_2 : LC := e126_2
theorem u126_2 : Unf q126_2 e126_2 := fun _ _ _ _ _ => (rfl)
def e126_3 : LC :=
  .seq (.seq (.region [ ⟨some 8, none, .load (some 9) (.t 2)⟩, ⟨some 9, none, .mov (.t 1)⟩, ⟨some 10, none, .call 184 [.t 8, .t 9]⟩, ⟨some 6, none, .mov (.t 10)⟩]) (.seq (.region [ ⟨some 11, none, .mov (.t 6)⟩, ⟨some 12, none, .bin .neq (.t 11) (.i 0)⟩]) (.cond (.t 12) (.seq (.region [ ⟨some 13, none, .build [.d (.int .i64 0), .d (.int .i64 0)] []⟩, ⟨some 14, none, .mov (.t 6)⟩, ⟨none, none, .store 2 (.t 4) (.t 13)⟩, ⟨some 5, none, .mov (.t 14)⟩]) .ret) .skip))) q126_2
def q126_3 : LC := e126_3
theorem u126_3 : Unf q126_3 e126_3 := fun _ _ _ _ _ => (rfl)
def d_feature_Reach : LC :=
  .seq (.region [ ⟨some 2, none, .box 2 (.t 0)⟩, ⟨some 4, none, .alloc 4 [.d (.int .i64 0), .d (.int .i64 0)]⟩, ⟨some 5, none, .mov (.i 0)⟩]) q126_3
def c_feature_Reach : LC := d_feature_Reach
theorem w_feature_Reach : Unf c_feature_Reach d_feature_Reach := fun _ _ _ _ _ => (rfl)
attribute [simp] e126_1 u126_1 e126_2 u126_2 e126_3 u126_3 d_feature_Reach w_feature_Reach
theorem k_feature_Reach : chkF Tryz.prog Tryz.f126 2 [(4, some (some 2)), (5, none)] c_feature_Reach = true := by kernel_rfl
/-- metrolab/metrolabref18.Bounded -/
def e128_1 : LC :=
  .seq (.seq (.region [ ⟨some 10, none, .bin .eql (.t 6) (.i 1)⟩, ⟨some 9, none, .mov (.t 10)⟩]) (.cond (.t 9) .skip (.region [ ⟨some 11, none, .bin .eql (.t 6) (.i 2)⟩, ⟨some 9, none, .mov (.t 11)⟩]))) (.cond (.t 9) (.seq (.region [ ⟨some 12, none, .mov (.t 1)⟩, ⟨some 13, none, .fieldA 2 (.t 2)⟩, ⟨some 14, none, .load none (.t 13)⟩, ⟨some 15, none, .bin .neq (.t 12) (.t 14)⟩, ⟨some 4, none, .mov (.t 15)⟩]) .ret) .skip)
def q128_1 : LC := e128_1
theorem u128_1 : Unf q128_1 e128_1 := fun _ _ _ _ _ => (rfl)
def e128_2 : LC :=
  .seq (.seq (.region [ ⟨some 5, none, .fieldA 1 (.t 2)⟩, ⟨some 6, none, .load none (.t 5)⟩]) (.block 0 (.seq (.region [ ⟨some 8, none, .bin .eql (.t 6) (.i 4)⟩, ⟨some 7, none, .mov (.t 8)⟩]) (.cond (.t 7) (.seq (.region [ ⟨some 4, none, .mov (.b true)⟩]) .ret) q128_1)))) (.seq (.region [ ⟨some 16, none, .mov (.t 1)⟩, ⟨some 17, none, .fieldA 2 (.t 2)⟩, ⟨some 18, none, .load none (.t 17)⟩, ⟨some 19, none, .bin .eql (.t 16) (.t 18)⟩, ⟨some 4, none, .mov (.t 19)⟩]) .ret)
def q128_2 : LC := e128_2
theorem u128_2 : Unf q128_2 e128_2 := fun _ _ _ _ _ => (rfl)
def d_metrolabref18_Bounded : LC :=
  .seq (.region [ ⟨some 2, none, .box 2 (.t 0)⟩, ⟨some 4, none, .mov (.b false)⟩]) q128_2
def c_metrolabref18_Bounded : LC := d_metrolabref18_Bounded
theorem w_metrolabref18_Bounded : Unf c_metrolabref18_Bounded d_metrolabref18_Bounded := fun _ _ _ _ _ => (rfl)
attribute [simp] e128_1 u128_1 e128_2 u128_2 d_metrolabref18_Bounded w_metrolabref18_Bounded
theorem k_metrolabref18_Bounded : chkF Tryz.prog Tryz.f128 2 [(4, none)] c_metrolabref18_Bounded = true := by kernel_rfl
/-- metrolab/metrolabref18.Coordinates -/
def e129_1 : LC :=
  .seq (.region [ ⟨some 3, none, .fieldA 0 (.t 1)⟩, ⟨some 4, none, .load none (.t 3)⟩, ⟨some 5, none, .fieldA 1 (.t 1)⟩, ⟨some 6, none, .load none (.t 5)⟩, ⟨some 7, none, .fieldA 2 (.t 1)⟩, ⟨some 8, none, .load none (.t 7)⟩, ⟨some 9, none, .build [.d (.int .i64 0), .d (.int .i64 0), .d (.int .i64 0)] [(0, 1, .t 4), (1, 1, .t 6), (2, 1, .t 8)]⟩, ⟨none, none, .store 3 (.t 2) (.t 9)⟩]) .ret
def q129_1 : LC := e129_1
theorem u129_1 : Unf q129_1 e129_1 := fun _ _ _ _ _ => (rfl)
def d_metrolabref18_Coordinates : LC :=
  .seq (.region [ ⟨some 1, none, .box 1 (.t 0)⟩, ⟨some 2, none, .alloc 2 [.d (.int .i64 0), .d (.int .i64 0), .d (.int .i64 0)]⟩]) q129_1
def c_metrolabref18_Coordinates : LC := d_metrolabref18_Coordinates
theorem w_metrolabref18_Coordinates : Unf c_metrolabref18_Coordinates d_metrolabref18_Coordinates := fun _ _ _ _ _ => (rfl)
attribute [simp] e129_1 u129_1 d_metrolabref18_Coordinates w_metrolabref18_Coordinates
theorem k_metrolabref18_Coordinates : chkF Tryz.prog Tryz.f129 1 [(2, some (some 3))] c_metrolabref18_Coordinates = true := by kernel_rfl
/-- metrolab/dimension.first -/
def e143_1 : LC :=
  .seq (.region [ ⟨some 12, none, .mov (.t 4)⟩, ⟨some 13, none, .callv (.t 12) []⟩, ⟨some 5, none, .mov (.t 13)⟩]) (.seq (.region [ ⟨some 14, none, .mov (.t 5)⟩, ⟨some 15, none, .bin .neq (.t 14) (.i 0)⟩]) (.cond (.t 15) (.seq (.region [ ⟨some 16, none, .mov (.t 5)⟩, ⟨some 2, none, .mov (.t 16)⟩]) .ret) .skip))
def q143_1 : LC := e143_1
theorem u143_1 : Unf q143_1 e143_1 := fun _ _ _ _ _ => (rfl)
def e143_2 : LC :=
  .keep [6, 7, 8] [] (.seq (.block 1 (.seq (.region [ ⟨some 10, none, .idxA 1 (.t 6) (.t 8)⟩, ⟨some 11, none, .load none (.t 10)⟩, ⟨some 4, none, .mov (.t 11)⟩]) q143_1)) (.keep [6, 7, 8] [] (.tail [6, 7, 8] [] (.region [ ⟨some 17, none, .bin .add (.t 8) (.i 1)⟩, ⟨some 8, none, .mov (.t 17)⟩]))))
def q143_2 : LC := e143_2
theorem u143_2 : Unf q143_2 e143_2 := fun _ _ _ _ _ => (rfl)
def e143_3 : LC :=
  .seq (.seq (.region [ ⟨some 6, none, .mov (.t 0)⟩, ⟨some 7, none, .lenL (.t 6)⟩, ⟨some 8, none, .mov (.i 0)⟩]) (.block 0 (.keep [6, 7, 8] [] (.loop (.seq (.region [ ⟨some 9, none, .bin .lss (.t 8) (.t 7)⟩]) (.seq (.cond (.t 9) .skip (.exit 0)) q143_2)))))) (.seq (.region [ ⟨some 2, none, .mov (.i 0)⟩]) .ret)
def q143_3 : LC := e143_3
theorem u143_3 : Unf q143_3 e143_3 := fun _ _ _ _ _ => (rfl)
def d_dimension_first : LC :=
  .seq (.region [ ⟨some 2, none, .mov (.i 0)⟩]) q143_3
def c_dimension_first : LC := d_dimension_first
theorem w_dimension_first : Unf c_dimension_first d_dimension_first := fun _ _ _ _ _ => (rfl)
attribute [simp] e143_1 u143_1 e143_2 u143_2 e143_3 u143_3 d_dimension_first w_dimension_first
theorem k_dimension_first : chkF Tryz.prog Tryz.f143 1 [(2, none)] c_dimension_first = true := by kernel_rfl
/-- metrolab/dimension.name -/
def d_dimension_name : LC :=
  .seq (.region [ ⟨some 1, none, .box 1 (.t 0)⟩, ⟨some 2, none, .mov (.c (.at (.d .nilf)))⟩]) (.lift 1 (.seq (.region [ ⟨some 3, none, .fn 197 [.t 1]⟩, ⟨some 2, none, .mov (.t 3)⟩]) .ret))
def c_dimension_name : LC := d_dimension_name
theorem w_dimension_name : Unf c_dimension_name d_dimension_name := fun _ _ _ _ _ => (rfl)
attribute [simp] d_dimension_name w_dimension_name
theorem k_dimension_name : chkF Tryz.prog Tryz.f144 1 [(2, none)] c_dimension_name = true := by kernel_rfl
/-- metrolab/dimension.Valid.1 -/
def e145_1 : LC :=
  .seq (.region [ ⟨some 9, none, .fieldA 2 (.t 0)⟩, ⟨some 10, none, .load none (.t 9)⟩, ⟨some 11, none, .bin .lss (.t 10) (.i 0)⟩, ⟨some 12, none, .mov (.t 11)⟩, ⟨some 13, some (12, false), .fieldA 2 (.t 0)⟩, ⟨some 14, some (12, false), .load none (.t 13)⟩, ⟨some 15, some (12, false), .bin .geq (.t 14) (.i 3)⟩, ⟨some 16, none, .pick (.t 12) (.b true) (.t 15)⟩, ⟨some 8, none, .mov (.t 16)⟩]) (.cond (.t 8) (.seq (.region [ ⟨some 1, none, .mov (.i 1)⟩]) .ret) .skip)
def q145_1 : LC := e145_1
theorem u145_1 : Unf q145_1 e145_1 := fun _ _ _ _ _ => (rfl)
def e145_2 : LC :=
  .seq (.block 0 (.seq (.region [ ⟨some 3, none, .fieldA 0 (.t 0)⟩, ⟨some 4, none, .load none (.t 3)⟩, ⟨some 5, none, .fieldA 1 (.t 0)⟩, ⟨some 6, none, .load none (.t 5)⟩, ⟨some 7, none, .bin .eql (.t 4) (.t 6)⟩, ⟨some 2, none, .mov (.t 7)⟩]) (.cond (.t 2) (.seq (.region [ ⟨some 1, none, .mov (.i 7)⟩]) .ret) q145_1))) (.keep [] [] (.seq (.region [ ⟨some 1, none, .mov (.i 0)⟩]) .ret))
def q145_2 : LC := e145_2
theorem u145_2 : Unf q145_2 e145_2 := fun _ _ _ _ _ => (rfl)
def d_dimension_Valid_1 : LC :=
  .seq (.region [ ⟨some 1, none, .mov (.i 0)⟩]) q145_2
def c_dimension_Valid_1 : LC := d_dimension_Valid_1
theorem w_dimension_Valid_1 : Unf c_dimension_Valid_1 d_dimension_Valid_1 := fun _ _ _ _ _ => (rfl)
attribute [simp] e145_1 u145_1 e145_2 u145_2 d_dimension_Valid_1 w_dimension_Valid_1
theorem k_dimension_Valid_1 : chkF Tryz.prog Tryz.f145 1 [(1, none)] c_dimension_Valid_1 = true := by kernel_rfl
/-- metrolab/dimension.limits -/
def d_dimension_limits : LC :=
  .seq (.region [ ⟨some 1, none, .box 1 (.t 0)⟩, ⟨some 2, none, .mov (.c (.at (.d .nilf)))⟩]) (.lift 1 (.seq (.region [ ⟨some 3, none, .fn 198 [.t 1]⟩, ⟨some 2, none, .mov (.t 3)⟩]) .ret))
def c_dimension_limits : LC := d_dimension_limits
theorem w_dimension_limits : Unf c_dimension_limits d_dimension_limits := fun _ _ _ _ _ => (rfl)
attribute [simp] d_dimension_limits w_dimension_limits
theorem k_dimension_limits : chkF Tryz.prog Tryz.f146 1 [(2, none)] c_dimension_limits = true := by kernel_rfl
/-- metrolab/metrolabref18.Check -/
def e150_1 : LC :=
  .seq (.seq (.region [ ⟨some 59, none, .fieldA 6 (.t 1)⟩, ⟨some 60, none, .load (some 2) (.t 59)⟩, ⟨some 61, none, .build [.d (.int .i64 0), .d (.int .i64 0)] []⟩, ⟨some 62, none, .eqAgg true [0, 0] (.t 60) (.t 61)⟩]) (.cond (.t 62) (.seq (.region [ ⟨some 2, none, .mov (.i 3)⟩]) .ret) .skip)) (.seq (.region [ ⟨some 2, none, .mov (.i 0)⟩]) .ret)
def q150_1 : LC := e150_1
theorem u150_1 : Unf q150_1 e150_1 := fun _ _ _ _ _ => (rfl)
def e150_2 : LC :=
  .seq (.seq (.region [ ⟨some 63, none, .fieldA 6 (.t 1)⟩, ⟨some 64, none, .load (some 2) (.t 63)⟩, ⟨some 65, none, .call 152 [.t 64]⟩, ⟨some 4, none, .mov (.t 65)⟩]) (.seq (.region [ ⟨some 66, none, .mov (.t 4)⟩, ⟨some 67, none, .bin .neq (.t 66) (.i 0)⟩]) (.cond (.t 67) (.seq (.region [ ⟨some 68, none, .mov (.t 4)⟩, ⟨some 2, none, .mov (.t 68)⟩]) .ret) .skip))) (.seq (.seq (.region [ ⟨some 69, none, .fieldA 6 (.t 1)⟩, ⟨some 70, none, .fieldA 0 (.t 69)⟩, ⟨some 71, none, .load none (.t 70)⟩, ⟨some 72, none, .bin .lss (.t 71) (.i 1)⟩]) (.cond (.t 72) (.seq (.region [ ⟨some 2, none, .mov (.i 2)⟩]) .ret) .skip)) (.seq (.region [ ⟨some 2, none, .mov (.i 0)⟩]) .ret))
def q150_2 : LC := e150_2
theorem u150_2 : Unf q150_2 e150_2 := fun _ _ _ _ _ => (rfl)
def e150_3 : LC :=
  .seq (.seq (.region [ ⟨some 37, none, .fieldA 3 (.t 1)⟩, ⟨some 38, none, .fieldA 0 (.t 37)⟩, ⟨some 39, none, .load none (.t 38)⟩, ⟨some 40, none, .call 200 [.t 39]⟩, ⟨some 41, none, .not (.t 40)⟩, ⟨some 42, none, .mov (.t 41)⟩, ⟨some 43, some (42, false), .fieldA 3 (.t 1)⟩, ⟨some 44, some (42, false), .fieldA 1 (.t 43)⟩, ⟨some 45, some (42, false), .load none (.t 44)⟩, ⟨some 46, some (42, false), .call 200 [.t 45]⟩, ⟨some 47, some (42, false), .not (.t 46)⟩, ⟨some 48, none, .pick (.t 42) (.b true) (.t 47)⟩, ⟨some 49, none, .mov (.t 48)⟩, ⟨some 50, some (49, false), .fieldA 3 (.t 1)⟩, ⟨some 51, some (49, false), .fieldA 2 (.t 50)⟩, ⟨some 52, some (49, false), .load none (.t 51)⟩, ⟨some 53, some (49, false), .call 200 [.t 52]⟩, ⟨some 54, some (49, false), .not (.t 53)⟩, ⟨some 55, none, .pick (.t 49) (.b true) (.t 54)⟩]) (.cond (.t 55) (.seq (.region [ ⟨some 2, none, .mov (.i 2)⟩]) .ret) .skip)) (.seq (.seq (.region [ ⟨some 56, none, .fieldA 1 (.t 1)⟩, ⟨some 57, none, .load none (.t 56)⟩, ⟨some 58, none, .bin .eql (.t 57) (.i 0)⟩]) (.cond (.t 58) q150_1 .skip)) q150_2)
def q150_3 : LC := e150_3
theorem u150_3 : Unf q150_3 e150_3 := fun _ _ _ _ _ => (rfl)
def e150_4 : LC :=
  .seq (.seq (.region [ ⟨some 29, none, .fieldA 1 (.t 1)⟩, ⟨some 30, none, .load none (.t 29)⟩, ⟨some 31, none, .bin .eql (.t 30) (.i 4)⟩, ⟨some 32, none, .mov (.t 31)⟩, ⟨some 33, some (32, true), .fieldA 2 (.t 1)⟩, ⟨some 34, some (32, true), .load none (.t 33)⟩, ⟨some 35, some (32, true), .bin .neq (.t 34) (.i 0)⟩, ⟨some 36, none, .pick (.t 32) (.t 35) (.b false)⟩]) (.cond (.t 36) (.seq (.region [ ⟨some 2, none, .mov (.i 3)⟩]) .ret) .skip)) q150_3
def q150_4 : LC := e150_4
theorem u150_4 : Unf q150_4 e150_4 := fun _ _ _ _ _ => (rfl)
def e150_5 : LC :=
  .seq (.seq (.region [ ⟨some 11, none, .fieldA 1 (.t 1)⟩, ⟨some 12, none, .load none (.t 11)⟩, ⟨some 13, none, .bin .lss (.t 12) (.i 0)⟩, ⟨some 14, none, .mov (.t 13)⟩, ⟨some 15, some (14, false), .fieldA 1 (.t 1)⟩, ⟨some 16, some (14, false), .load none (.t 15)⟩, ⟨some 17, some (14, false), .bin .geq (.t 16) (.i 5)⟩, ⟨some 18, none, .pick (.t 14) (.b true) (.t 17)⟩, ⟨some 19, none, .mov (.t 18)⟩, ⟨some 20, some (19, false), .fieldA 2 (.t 1)⟩, ⟨some 21, some (19, false), .load none (.t 20)⟩, ⟨some 22, some (19, false), .bin .lss (.t 21) (.i 0)⟩, ⟨some 23, none, .pick (.t 19) (.b true) (.t 22)⟩, ⟨some 24, none, .mov (.t 23)⟩, ⟨some 25, some (24, false), .fieldA 2 (.t 1)⟩, ⟨some 26, some (24, false), .load none (.t 25)⟩, ⟨some 27, some (24, false), .bin .geq (.t 26) (.i 3)⟩, ⟨some 28, none, .pick (.t 24) (.b true) (.t 27)⟩]) (.cond (.t 28) (.seq (.region [ ⟨some 2, none, .mov (.i 1)⟩]) .ret) .skip)) q150_4
def q150_5 : LC := e150_5
theorem u150_5 : Unf q150_5 e150_5 := fun _ _ _ _ _ => (rfl)
def e150_6 : LC :=
  .seq (.seq (.region [ ⟨some 5, none, .fieldA 0 (.t 1)⟩, ⟨some 6, none, .load none (.t 5)⟩, ⟨some 7, none, .call 47 [.t 6]⟩, ⟨some 3, none, .mov (.t 7)⟩]) (.seq (.region [ ⟨some 8, none, .mov (.t 3)⟩, ⟨some 9, none, .bin .neq (.t 8) (.i 0)⟩]) (.cond (.t 9) (.seq (.region [ ⟨some 10, none, .mov (.t 3)⟩, ⟨some 2, none, .mov (.t 10)⟩]) .ret) .skip))) q150_5
def q150_6 : LC := e150_6
theorem u150_6 : Unf q150_6 e150_6 := fun _ _ _ _ _ => (rfl)
def d_metrolabref18_Check : LC :=
  .seq (.region [ ⟨some 1, none, .box 1 (.t 0)⟩, ⟨some 2, none, .mov (.i 0)⟩]) q150_6
def c_metrolabref18_Check : LC := d_metrolabref18_Check
theorem w_metrolabref18_Check : Unf c_metrolabref18_Check d_metrolabref18_Check := fun _ _ _ _ _ => (rfl)
attribute [simp] e150_1 u150_1 e150_2 u150_2 e150_3 u150_3 e150_4 u150_4 e150_5 u150_5 e150_6 u150_6 d_metrolabref18_Check w_metrolabref18_Check
theorem k_metrolabref18_Check : chkF Tryz.prog Tryz.f150 1 [(2, none)] c_metrolabref18_Check = true := by kernel_rfl
/-- metrolab/metrolabref17.Check -/
def e152_1 : LC :=
  .seq (.seq (.region [ ⟨some 13, none, .fieldA 0 (.t 1)⟩, ⟨some 14, none, .load none (.t 13)⟩, ⟨some 15, none, .fieldA 1 (.t 1)⟩, ⟨some 16, none, .load none (.t 15)⟩, ⟨some 17, none, .bin .gtr (.t 14) (.t 16)⟩]) (.cond (.t 17) (.seq (.region [ ⟨some 2, none, .mov (.i 9)⟩]) .ret) .skip)) (.seq (.region [ ⟨some 2, none, .mov (.i 0)⟩]) .ret)
def q152_1 : LC := e152_1
theorem u152_1 : Unf q152_1 e152_1 := fun _ _ _ _ _ => (rfl)
def e152_2 : LC :=
  .seq (.seq (.region [ ⟨some 3, none, .fieldA 0 (.t 1)⟩, ⟨some 4, none, .load none (.t 3)⟩, ⟨some 5, none, .call 200 [.t 4]⟩, ⟨some 6, none, .not (.t 5)⟩, ⟨some 7, none, .mov (.t 6)⟩, ⟨some 8, some (7, false), .fieldA 1 (.t 1)⟩, ⟨some 9, some (7, false), .load none (.t 8)⟩, ⟨some 10, some (7, false), .call 200 [.t 9]⟩, ⟨some 11, some (7, false), .not (.t 10)⟩, ⟨some 12, none, .pick (.t 7) (.b true) (.t 11)⟩]) (.cond (.t 12) (.seq (.region [ ⟨some 2, none, .mov (.i 2)⟩]) .ret) .skip)) q152_1
def q152_2 : LC := e152_2
theorem u152_2 : Unf q152_2 e152_2 := fun _ _ _ _ _ => (rfl)
def d_metrolabref17_Check : LC :=
  .seq (.region [ ⟨some 1, none, .box 1 (.t 0)⟩, ⟨some 2, none, .mov (.i 0)⟩]) q152_2
def c_metrolabref17_Check : LC := d_metrolabref17_Check
theorem w_metrolabref17_Check : Unf c_metrolabref17_Check d_metrolabref17_Check := fun _ _ _ _ _ => (rfl)
attribute [simp] e152_1 u152_1 e152_2 u152_2 d_metrolabref17_Check w_metrolabref17_Check
theorem k_metrolabref17_Check : chkF Tryz.prog Tryz.f152 1 [(2, none)] c_metrolabref17_Check = true := by kernel_rfl
/-- metrolab/feature.ranged -/
def e156_1 : LC :=
  .seq (.region [ ⟨some 3, none, .fieldA 0 (.t 1)⟩, ⟨some 4, none, .load none (.t 3)⟩, ⟨some 5, none, .call 187 [.t 4]⟩, ⟨some 6, none, .mov (.t 5)⟩, ⟨some 7, some (6, true), .fieldA 1 (.t 1)⟩, ⟨some 8, some (6, true), .load none (.t 7)⟩, ⟨some 9, some (6, true), .call 187 [.t 8]⟩, ⟨some 10, none, .pick (.t 6) (.t 9) (.b false)⟩, ⟨some 11, none, .mov (.t 10)⟩, ⟨some 12, some (11, true), .fieldA 2 (.t 1)⟩, ⟨some 13, some (11, true), .load none (.t 12)⟩, ⟨some 14, some (11, true), .call 187 [.t 13]⟩, ⟨some 15, none, .pick (.t 11) (.t 14) (.b false)⟩, ⟨some 2, none, .mov (.t 15)⟩]) .ret
def q156_1 : LC := e156_1
theorem u156_1 : Unf q156_1 e156_1 := fun _ _ _ _ _ => (rfl)
def d_feature_ranged : LC :=
  .seq (.region [ ⟨some 1, none, .box 1 (.t 0)⟩, ⟨some 2, none, .mov (.b false)⟩]) q156_1
def c_feature_ranged : LC := d_feature_ranged
theorem w_feature_ranged : Unf c_feature_ranged d_feature_ranged := fun _ _ _ _ _ => (rfl)
attribute [simp] e156_1 u156_1 d_feature_ranged w_feature_ranged
theorem k_feature_ranged : chkF Tryz.prog Tryz.f156 1 [(2, none)] c_feature_ranged = true := by kernel_rfl
/-- metrolab/dimension.Check -/
def e157_1 : LC :=
  .seq (.region [ ⟨some 15, none, .fieldA 0 (.t 1)⟩, ⟨some 16, none, .load none (.t 15)⟩, ⟨some 17, none, .fieldA 1 (.t 1)⟩, ⟨some 18, none, .load none (.t 17)⟩, ⟨some 19, none, .bin .gtr (.t 16) (.t 18)⟩, ⟨some 14, none, .mov (.t 19)⟩]) (.cond (.t 14) (.seq (.region [ ⟨some 2, none, .mov (.i 9)⟩]) .ret) .skip)
def q157_1 : LC := e157_1
theorem u157_1 : Unf q157_1 e157_1 := fun _ _ _ _ _ => (rfl)
def e157_2 : LC :=
  .seq (.block 0 (.seq (.region [ ⟨some 4, none, .fieldA 0 (.t 1)⟩, ⟨some 5, none, .load none (.t 4)⟩, ⟨some 6, none, .call 206 [.t 5]⟩, ⟨some 7, none, .not (.t 6)⟩, ⟨some 8, none, .mov (.t 7)⟩, ⟨some 9, some (8, false), .fieldA 1 (.t 1)⟩, ⟨some 10, some (8, false), .load none (.t 9)⟩, ⟨some 11, some (8, false), .call 206 [.t 10]⟩, ⟨some 12, some (8, false), .not (.t 11)⟩, ⟨some 13, none, .pick (.t 8) (.b true) (.t 12)⟩, ⟨some 3, none, .mov (.t 13)⟩]) (.cond (.t 3) (.seq (.region [ ⟨some 2, none, .mov (.i 2)⟩]) .ret) q157_1))) (.keep [] [] (.seq (.region [ ⟨some 2, none, .mov (.i 0)⟩]) .ret))
def q157_2 : LC := e157_2
theorem u157_2 : Unf q157_2 e157_2 := fun _ _ _ _ _ => (rfl)
def d_dimension_Check : LC :=
  .seq (.region [ ⟨some 1, none, .box 1 (.t 0)⟩, ⟨some 2, none, .mov (.i 0)⟩]) q157_2
def c_dimension_Check : LC := d_dimension_Check
theorem w_dimension_Check : Unf c_dimension_Check d_dimension_Check := fun _ _ _ _ _ => (rfl)
attribute [simp] e157_1 u157_1 e157_2 u157_2 d_dimension_Check w_dimension_Check
theorem k_dimension_Check : chkF Tryz.prog Tryz.f157 1 [(2, none)] c_dimension_Check = true := by kernel_rfl
/-- metrolab/feature.along -/
def e184_1 : LC :=
  .seq (.seq (.region [ ⟨some 11, none, .mov (.t 1)⟩, ⟨some 12, none, .bin .lss (.t 11) (.i 0)⟩, ⟨some 13, none, .mov (.t 12)⟩, ⟨some 14, some (13, false), .mov (.t 1)⟩, ⟨some 15, some (13, false), .bin .geq (.t 14) (.i 3)⟩, ⟨some 16, none, .pick (.t 13) (.b true) (.t 15)⟩]) (.cond (.t 16) (.seq (.region [ ⟨some 4, none, .mov (.i 1)⟩]) .ret) .skip)) (.seq (.region [ ⟨some 4, none, .mov (.i 0)⟩]) .ret)
def q184_1 : LC := e184_1
theorem u184_1 : Unf q184_1 e184_1 := fun _ _ _ _ _ => (rfl)
def e184_2 : LC :=
  .seq (.seq (.region [ ⟨some 6, none, .load (some 9) (.t 2)⟩, ⟨some 7, none, .call 105 [.t 6]⟩, ⟨some 5, none, .mov (.t 7)⟩]) (.seq (.region [ ⟨some 8, none, .mov (.t 5)⟩, ⟨some 9, none, .bin .neq (.t 8) (.i 0)⟩]) (.cond (.t 9) (.seq (.region [ ⟨some 10, none, .mov (.t 5)⟩, ⟨some 4, none, .mov (.t 10)⟩]) .ret) .skip))) q184_1
def q184_2 : LC := e184_2
theorem u184_2 : Unf q184_2 e184_2 := fun _ _ _ _ _ => (rfl)
def d_feature_along : LC :=
  .seq (.region [ ⟨some 2, none, .box 2 (.t 0)⟩, ⟨some 4, none, .mov (.i 0)⟩]) q184_2
def c_feature_along : LC := d_feature_along
theorem w_feature_along : Unf c_feature_along d_feature_along := fun _ _ _ _ _ => (rfl)
attribute [simp] e184_1 u184_1 e184_2 u184_2 d_feature_along w_feature_along
theorem k_feature_along : chkF Tryz.prog Tryz.f184 2 [(4, none)] c_feature_along = true := by kernel_rfl
/-- metrolab/feature.bounded -/
def e185_1 : LC :=
  .seq (.draw [0, 0, 2, 7, 0, 0, 32, 112, 240, 496, 1023, 2047] [ ⟨some 5, none, .call 220 []⟩, ⟨some 6, none, .fieldA 1 (.t 2)⟩, ⟨some 7, none, .load none (.t 6)⟩, ⟨some 8, none, .idx 5 3 (some 3) (.t 5) (.t 7)⟩, ⟨some 9, none, .mov (.t 1)⟩, ⟨some 10, none, .fieldA 2 (.t 2)⟩, ⟨some 11, none, .load none (.t 10)⟩, ⟨some 12, none, .bin .sub (.t 9) (.t 11)⟩, ⟨some 13, none, .bin .add (.t 12) (.i 3)⟩, ⟨some 14, none, .bin .rem (.t 13) (.i 3)⟩, ⟨some 15, none, .idx 3 1 none (.t 8) (.t 14)⟩, ⟨some 4, none, .mov (.t 15)⟩]) .ret
def q185_1 : LC := e185_1
theorem u185_1 : Unf q185_1 e185_1 := fun _ _ _ _ _ => (rfl)
def d_feature_bounded : LC :=
  .seq (.region [ ⟨some 2, none, .box 2 (.t 0)⟩, ⟨some 4, none, .mov (.b false)⟩]) q185_1
def c_feature_bounded : LC := d_feature_bounded
theorem w_feature_bounded : Unf c_feature_bounded d_feature_bounded := fun _ _ _ _ _ => (rfl)
attribute [simp] e185_1 u185_1 d_feature_bounded w_feature_bounded
theorem k_feature_bounded : chkF Tryz.prog Tryz.f185 2 [(4, none)] c_feature_bounded = true := by kernel_rfl
/-- metrolab/feature.reach -/
def e186_1 : LC :=
  .seq (.region [ ⟨some 17, none, .mov (.t 5)⟩, ⟨some 18, none, .mov (.t 6)⟩, ⟨some 19, none, .bin .sub (.t 17) (.t 18)⟩, ⟨some 20, none, .mov (.t 5)⟩, ⟨some 21, none, .mov (.t 6)⟩, ⟨some 22, none, .bin .add (.t 20) (.t 21)⟩, ⟨some 23, none, .build [.d (.int .i64 0), .d (.int .i64 0)] [(0, 1, .t 19), (1, 1, .t 22)]⟩, ⟨none, none, .store 2 (.t 4) (.t 23)⟩]) .ret
def q186_1 : LC := e186_1
theorem u186_1 : Unf q186_1 e186_1 := fun _ _ _ _ _ => (rfl)
def e186_2 : LC :=
  .seq (.region [ ⟨some 7, none, .fieldA 3 (.t 2)⟩, ⟨some 8, none, .load (some 3) (.t 7)⟩, ⟨some 9, none, .call 221 [.t 8]⟩, ⟨some 10, none, .mov (.t 1)⟩, ⟨some 11, none, .idx 3 1 none (.t 9) (.t 10)⟩, ⟨some 5, none, .mov (.t 11)⟩]) (.seq (.region [ ⟨some 12, none, .fieldA 6 (.t 2)⟩, ⟨some 13, none, .fieldA 1 (.t 12)⟩, ⟨some 14, none, .load none (.t 13)⟩, ⟨some 15, none, .bin .add (.t 14) (.i 1)⟩, ⟨some 16, none, .bin .quo (.t 15) (.i 2)⟩, ⟨some 6, none, .mov (.t 16)⟩]) q186_1)
def q186_2 : LC := e186_2
theorem u186_2 : Unf q186_2 e186_2 := fun _ _ _ _ _ => (rfl)
def d_feature_reach : LC :=
  .seq (.region [ ⟨some 2, none, .box 2 (.t 0)⟩, ⟨some 4, none, .alloc 4 [.d (.int .i64 0), .d (.int .i64 0)]⟩]) q186_2
def c_feature_reach : LC := d_feature_reach
theorem w_feature_reach : Unf c_feature_reach d_feature_reach := fun _ _ _ _ _ => (rfl)
attribute [simp] e186_1 u186_1 e186_2 u186_2 d_feature_reach w_feature_reach
theorem k_feature_reach : chkF Tryz.prog Tryz.f186 2 [(4, some (some 2))] c_feature_reach = true := by kernel_rfl
/-- metrolab/feature.in -/
def d_feature_in : LC :=
  .seq (.region [ ⟨some 2, none, .mov (.b false)⟩]) (.seq (.region [ ⟨some 3, none, .mov (.t 0)⟩, ⟨some 4, none, .bin .geq (.t 3) (.i (-100000))⟩, ⟨some 5, none, .mov (.t 4)⟩, ⟨some 6, some (5, true), .mov (.t 0)⟩, ⟨some 7, some (5, true), .bin .leq (.t 6) (.i 100000)⟩, ⟨some 8, none, .pick (.t 5) (.t 7) (.b false)⟩, ⟨some 2, none, .mov (.t 8)⟩]) .ret)
def c_feature_in : LC := d_feature_in
theorem w_feature_in : Unf c_feature_in d_feature_in := fun _ _ _ _ _ => (rfl)
attribute [simp] d_feature_in w_feature_in
theorem k_feature_in : chkF Tryz.prog Tryz.f187 1 [(2, none)] c_feature_in = true := by kernel_rfl
/-- metrolab/dimension.name.1 -/
def d_dimension_name_1 : LC :=
  .seq (.region [ ⟨some 1, none, .mov (.i 0)⟩]) (.seq (.region [ ⟨some 2, none, .load none (.t 0)⟩, ⟨some 3, none, .call 43 [.t 2]⟩, ⟨some 1, none, .mov (.t 3)⟩]) .ret)
def c_dimension_name_1 : LC := d_dimension_name_1
theorem w_dimension_name_1 : Unf c_dimension_name_1 d_dimension_name_1 := fun _ _ _ _ _ => (rfl)
attribute [simp] d_dimension_name_1 w_dimension_name_1
theorem k_dimension_name_1 : chkF Tryz.prog Tryz.f197 1 [(1, none)] c_dimension_name_1 = true := by kernel_rfl
/-- metrolab/dimension.limits.1 -/
def d_dimension_limits_1 : LC :=
  .seq (.region [ ⟨some 1, none, .mov (.i 0)⟩]) (.seq (.region [ ⟨some 2, none, .load (some 2) (.t 0)⟩, ⟨some 3, none, .call 157 [.t 2]⟩, ⟨some 1, none, .mov (.t 3)⟩]) .ret)
def c_dimension_limits_1 : LC := d_dimension_limits_1
theorem w_dimension_limits_1 : Unf c_dimension_limits_1 d_dimension_limits_1 := fun _ _ _ _ _ => (rfl)
attribute [simp] d_dimension_limits_1 w_dimension_limits_1
theorem k_dimension_limits_1 : chkF Tryz.prog Tryz.f198 1 [(1, none)] c_dimension_limits_1 = true := by kernel_rfl
/-- metrolab/metrolabref17.In -/
def d_metrolabref17_In : LC :=
  .seq (.region [ ⟨some 2, none, .mov (.b false)⟩]) (.seq (.region [ ⟨some 3, none, .mov (.t 0)⟩, ⟨some 4, none, .bin .geq (.t 3) (.i (-100000))⟩, ⟨some 5, none, .mov (.t 4)⟩, ⟨some 6, some (5, true), .mov (.t 0)⟩, ⟨some 7, some (5, true), .bin .leq (.t 6) (.i 100000)⟩, ⟨some 8, none, .pick (.t 5) (.t 7) (.b false)⟩, ⟨some 2, none, .mov (.t 8)⟩]) .ret)
def c_metrolabref17_In : LC := d_metrolabref17_In
theorem w_metrolabref17_In : Unf c_metrolabref17_In d_metrolabref17_In := fun _ _ _ _ _ => (rfl)
attribute [simp] d_metrolabref17_In w_metrolabref17_In
theorem k_metrolabref17_In : chkF Tryz.prog Tryz.f200 1 [(2, none)] c_metrolabref17_In = true := by kernel_rfl
/-- metrolab/dimension.ranged -/
def d_dimension_ranged : LC :=
  .seq (.region [ ⟨some 2, none, .mov (.b false)⟩]) (.seq (.region [ ⟨some 3, none, .mov (.t 0)⟩, ⟨some 4, none, .bin .geq (.t 3) (.i (-100000))⟩, ⟨some 5, none, .mov (.t 4)⟩, ⟨some 6, some (5, true), .mov (.t 0)⟩, ⟨some 7, some (5, true), .bin .leq (.t 6) (.i 100000)⟩, ⟨some 8, none, .pick (.t 5) (.t 7) (.b false)⟩, ⟨some 2, none, .mov (.t 8)⟩]) .ret)
def c_dimension_ranged : LC := d_dimension_ranged
theorem w_dimension_ranged : Unf c_dimension_ranged d_dimension_ranged := fun _ _ _ _ _ => (rfl)
attribute [simp] d_dimension_ranged w_dimension_ranged
theorem k_dimension_ranged : chkF Tryz.prog Tryz.f206 1 [(2, none)] c_dimension_ranged = true := by kernel_rfl
/-- metrolab/feature.bounds -/
def e220_1 : LC :=
  .seq (.region [ ⟨some 1, none, .build [.d (.bool false), .d (.bool false), .d (.bool false)] [(0, 1, .b true), (1, 1, .b false), (2, 1, .b false)]⟩, ⟨some 2, none, .build [.d (.bool false), .d (.bool false), .d (.bool false)] [(0, 1, .b false), (1, 1, .b true), (2, 1, .b true)]⟩, ⟨some 3, none, .build [.d (.bool false), .d (.bool false), .d (.bool false)] [(0, 1, .b false), (1, 1, .b true), (2, 1, .b true)]⟩, ⟨some 4, none, .build [.d (.bool false), .d (.bool false), .d (.bool false)] [(0, 1, .b true), (1, 1, .b false), (2, 1, .b false)]⟩, ⟨some 5, none, .build [.d (.bool false), .d (.bool false), .d (.bool false)] [(0, 1, .b true), (1, 1, .b true), (2, 1, .b true)]⟩, ⟨some 6, none, .build [.d (.bool false), .d (.bool false), .d (.bool false), .d (.bool false), .d (.bool false), .d (.bool false), .d (.bool false), .d (.bool false), .d (.bool false), .d (.bool false), .d (.bool false), .d (.bool false), .d (.bool false), .d (.bool false), .d (.bool false)] [(0, 3, .t 1), (3, 3, .t 2), (6, 3, .t 3), (9, 3, .t 4), (12, 3, .t 5)]⟩, ⟨none, none, .store 15 (.t 0) (.t 6)⟩]) .ret
def q220_1 : LC := e220_1
theorem u220_1 : Unf q220_1 e220_1 := fun _ _ _ _ _ => (rfl)
def d_feature_bounds : LC :=
  .seq (.region [ ⟨some 0, none, .alloc 0 [.d (.bool false), .d (.bool false), .d (.bool false), .d (.bool false), .d (.bool false), .d (.bool false), .d (.bool false), .d (.bool false), .d (.bool false), .d (.bool false), .d (.bool false), .d (.bool false), .d (.bool false), .d (.bool false), .d (.bool false)]⟩]) q220_1
def c_feature_bounds : LC := d_feature_bounds
theorem w_feature_bounds : Unf c_feature_bounds d_feature_bounds := fun _ _ _ _ _ => (rfl)
attribute [simp] e220_1 u220_1 d_feature_bounds w_feature_bounds
theorem k_feature_bounds : chkF Tryz.prog Tryz.f220 0 [(0, some (some 15))] c_feature_bounds = true := by kernel_rfl
/-- metrolab/feature.coordinates -/
def e221_1 : LC :=
  .seq (.region [ ⟨some 3, none, .fieldA 0 (.t 1)⟩, ⟨some 4, none, .load none (.t 3)⟩, ⟨some 5, none, .fieldA 1 (.t 1)⟩, ⟨some 6, none, .load none (.t 5)⟩, ⟨some 7, none, .fieldA 2 (.t 1)⟩, ⟨some 8, none, .load none (.t 7)⟩, ⟨some 9, none, .build [.d (.int .i64 0), .d (.int .i64 0), .d (.int .i64 0)] [(0, 1, .t 4), (1, 1, .t 6), (2, 1, .t 8)]⟩, ⟨none, none, .store 3 (.t 2) (.t 9)⟩]) .ret
def q221_1 : LC := e221_1
theorem u221_1 : Unf q221_1 e221_1 := fun _ _ _ _ _ => (rfl)
def d_feature_coordinates : LC :=
  .seq (.region [ ⟨some 1, none, .box 1 (.t 0)⟩, ⟨some 2, none, .alloc 2 [.d (.int .i64 0), .d (.int .i64 0), .d (.int .i64 0)]⟩]) q221_1
def c_feature_coordinates : LC := d_feature_coordinates
theorem w_feature_coordinates : Unf c_feature_coordinates d_feature_coordinates := fun _ _ _ _ _ => (rfl)
attribute [simp] e221_1 u221_1 d_feature_coordinates w_feature_coordinates
theorem k_feature_coordinates : chkF Tryz.prog Tryz.f221 1 [(2, some (some 3))] c_feature_coordinates = true := by kernel_rfl
/-- metrolab/metrolabref19.Named -/
def e89_1 : LC :=
  .seq (.block 3 (.region [ ⟨some 24, none, .mov (.t 3)⟩, ⟨some 25, none, .fieldA 8 (.t 1)⟩, ⟨some 26, none, .load none (.t 25)⟩, ⟨some 27, none, .mov (.t 4)⟩, ⟨some 28, none, .idxA 5 (.t 26) (.t 27)⟩, ⟨some 29, none, .fieldA 4 (.t 28)⟩, ⟨some 30, none, .load none (.t 29)⟩, ⟨some 31, none, .mov (.t 5)⟩, ⟨some 32, none, .idxA 2 (.t 30) (.t 31)⟩, ⟨some 33, none, .fieldA 0 (.t 32)⟩, ⟨some 34, none, .load none (.t 33)⟩, ⟨some 35, none, .call 90 [.t 24, .t 34]⟩, ⟨some 3, none, .mov (.t 35)⟩])) (.keep [1, 3, 4, 5] [1] (.tail [1, 3, 4, 5] [1] (.region [ ⟨some 22, none, .mov (.t 5)⟩, ⟨some 23, none, .bin .add (.t 22) (.i 1)⟩, ⟨some 5, none, .mov (.t 23)⟩])))
def q89_1 : LC := e89_1
theorem u89_1 : Unf q89_1 e89_1 := fun _ _ _ _ _ => (rfl)
def e89_2 : LC :=
  .seq (.seq (.region [ ⟨some 13, none, .mov (.t 5)⟩, ⟨some 14, none, .fieldA 8 (.t 1)⟩, ⟨some 15, none, .load none (.t 14)⟩, ⟨some 16, none, .mov (.t 4)⟩, ⟨some 17, none, .idxA 5 (.t 15) (.t 16)⟩, ⟨some 18, none, .fieldA 4 (.t 17)⟩, ⟨some 19, none, .load none (.t 18)⟩, ⟨some 20, none, .lenL (.t 19)⟩, ⟨some 21, none, .bin .lss (.t 13) (.t 20)⟩]) (.cond (.t 21) .skip (.exit 2))) q89_1
def q89_2 : LC := e89_2
theorem u89_2 : Unf q89_2 e89_2 := fun _ _ _ _ _ => (rfl)
def e89_3 : LC :=
  .seq (.seq (.region [ ⟨some 6, none, .mov (.t 4)⟩, ⟨some 7, none, .fieldA 8 (.t 1)⟩, ⟨some 8, none, .load none (.t 7)⟩, ⟨some 9, none, .lenL (.t 8)⟩, ⟨some 10, none, .bin .lss (.t 6) (.t 9)⟩]) (.cond (.t 10) .skip (.exit 0))) (.seq (.block 1 (.seq (.region [ ⟨some 5, none, .mov (.i 0)⟩]) (.block 2 (.keep [1, 3, 4, 5] [1] (.loop q89_2))))) (.keep [1, 3, 4] [1] (.tail [1, 3, 4] [1] (.region [ ⟨some 11, none, .mov (.t 4)⟩, ⟨some 12, none, .bin .add (.t 11) (.i 1)⟩, ⟨some 4, none, .mov (.t 12)⟩]))))
def q89_3 : LC := e89_3
theorem u89_3 : Unf q89_3 e89_3 := fun _ _ _ _ _ => (rfl)
def d_metrolabref19_Named : LC :=
  .seq (.region [ ⟨some 1, none, .box 1 (.t 0)⟩, ⟨some 2, none, .mov (.c (.at (.nils)))⟩]) (.lift 2 (.seq (.region [ ⟨some 3, none, .mov (.c (.at (.nils)))⟩]) (.lift 3 (.seq (.seq (.region [ ⟨some 4, none, .mov (.i 0)⟩]) (.block 0 (.keep [1, 3, 4] [1] (.loop q89_3)))) (.seq (.region [ ⟨some 36, none, .mov (.t 3)⟩, ⟨some 2, none, .mov (.t 36)⟩]) (.lift 2 .ret))))))
def c_metrolabref19_Named : LC := d_metrolabref19_Named
theorem w_metrolabref19_Named : Unf c_metrolabref19_Named d_metrolabref19_Named := fun _ _ _ _ _ => (rfl)
attribute [simp] e89_1 u89_1 e89_2 u89_2 e89_3 u89_3 d_metrolabref19_Named w_metrolabref19_Named
theorem k_metrolabref19_Named : chkF Tryz.prog Tryz.f89 1 [(2, none)] c_metrolabref19_Named = true := by kernel_rfl
/-- metrolab/metrolabref19.Put -/
def e90_1 : LC :=
  .cond (.t 23) (.seq (.region [ ⟨some 24, none, .mov (.t 5)⟩, ⟨some 25, none, .mov (.t 1)⟩, ⟨some 26, none, .buildS 26 9 1 1 [(0, 1, .t 25)]⟩, ⟨some 27, none, .append 9 1 (.t 24) (.t 26)⟩, ⟨some 5, none, .mov (.t 27)⟩]) (.region [ ⟨some 6, none, .mov (.b true)⟩])) .skip
def q90_1 : LC := e90_1
theorem u90_1 : Unf q90_1 e90_1 := fun _ _ _ _ _ => (rfl)
def e90_2 : LC :=
  .region [ ⟨some 34, none, .mov (.t 5)⟩, ⟨some 35, none, .mov (.t 0)⟩, ⟨some 36, none, .mov (.t 7)⟩, ⟨some 37, none, .idxA 1 (.t 35) (.t 36)⟩, ⟨some 38, none, .load none (.t 37)⟩, ⟨some 39, none, .buildS 39 9 1 1 [(0, 1, .t 38)]⟩, ⟨some 40, none, .append 9 1 (.t 34) (.t 39)⟩, ⟨some 5, none, .mov (.t 40)⟩]
def q90_2 : LC := e90_2
theorem u90_2 : Unf q90_2 e90_2 := fun _ _ _ _ _ => (rfl)
def e90_3 : LC :=
  .seq (.region [ ⟨some 28, none, .mov (.t 0)⟩, ⟨some 29, none, .mov (.t 7)⟩, ⟨some 30, none, .idxA 1 (.t 28) (.t 29)⟩, ⟨some 31, none, .load none (.t 30)⟩, ⟨some 32, none, .mov (.t 1)⟩, ⟨some 33, none, .bin .neq (.t 31) (.t 32)⟩]) (.cond (.t 33) q90_2 .skip)
def q90_3 : LC := e90_3
theorem u90_3 : Unf q90_3 e90_3 := fun _ _ _ _ _ => (rfl)
def e90_4 : LC :=
  .seq (.block 1 (.seq (.seq (.region [ ⟨some 14, none, .mov (.t 6)⟩, ⟨some 15, none, .not (.t 14)⟩, ⟨some 16, none, .mov (.t 15)⟩, ⟨some 17, some (16, true), .mov (.t 0)⟩, ⟨some 18, some (16, true), .mov (.t 7)⟩, ⟨some 19, some (16, true), .idxA 1 (.t 17) (.t 18)⟩, ⟨some 20, some (16, true), .load none (.t 19)⟩, ⟨some 21, some (16, true), .mov (.t 1)⟩, ⟨some 22, some (16, true), .bin .geq (.t 20) (.t 21)⟩, ⟨some 23, none, .pick (.t 16) (.t 22) (.b false)⟩]) q90_1) q90_3)) (.keep [0, 1, 5, 6, 7] [1005] (.tail [0, 1, 5, 6, 7] [1005] (.region [ ⟨some 12, none, .mov (.t 7)⟩, ⟨some 13, none, .bin .add (.t 12) (.i 1)⟩, ⟨some 7, none, .mov (.t 13)⟩])))
def q90_4 : LC := e90_4
theorem u90_4 : Unf q90_4 e90_4 := fun _ _ _ _ _ => (rfl)
def e90_5 : LC :=
  .seq (.seq (.region [ ⟨some 41, none, .mov (.t 6)⟩, ⟨some 42, none, .not (.t 41)⟩]) (.cond (.t 42) (.region [ ⟨some 43, none, .mov (.t 5)⟩, ⟨some 44, none, .mov (.t 1)⟩, ⟨some 45, none, .buildS 45 9 1 1 [(0, 1, .t 44)]⟩, ⟨some 46, none, .append 9 1 (.t 43) (.t 45)⟩, ⟨some 5, none, .mov (.t 46)⟩]) .skip)) (.seq (.region [ ⟨some 47, none, .mov (.t 5)⟩, ⟨some 4, none, .mov (.t 47)⟩]) (.lift 4 .ret))
def q90_5 : LC := e90_5
theorem u90_5 : Unf q90_5 e90_5 := fun _ _ _ _ _ => (rfl)
def e90_6 : LC :=
  .seq (.seq (.region [ ⟨some 7, none, .mov (.i 0)⟩]) (.block 0 (.keep [0, 1, 5, 6, 7] [1005] (.loop (.seq (.seq (.region [ ⟨some 8, none, .mov (.t 7)⟩, ⟨some 9, none, .mov (.t 0)⟩, ⟨some 10, none, .lenL (.t 9)⟩, ⟨some 11, none, .bin .lss (.t 8) (.t 10)⟩]) (.cond (.t 11) .skip (.exit 0))) q90_4))))) q90_5
def q90_6 : LC := e90_6
theorem u90_6 : Unf q90_6 e90_6 := fun _ _ _ _ _ => (rfl)
def d_metrolabref19_Put : LC :=
  .seq (.region [ ⟨some 4, none, .mov (.c (.at (.nils)))⟩]) (.lift 4 (.seq (.region [ ⟨some 5, none, .mov (.c (.at (.nils)))⟩]) (.own 5 1005 9 1 (.seq (.region [ ⟨some 6, none, .mov (.b false)⟩]) q90_6))))
def c_metrolabref19_Put : LC := d_metrolabref19_Put
theorem w_metrolabref19_Put : Unf c_metrolabref19_Put d_metrolabref19_Put := fun _ _ _ _ _ => (rfl)
attribute [simp] e90_1 u90_1 e90_2 u90_2 e90_3 u90_3 e90_4 u90_4 e90_5 u90_5 e90_6 u90_6 d_metrolabref19_Put w_metrolabref19_Put
theorem k_metrolabref19_Put : chkF Tryz.prog Tryz.f90 2 [(4, none)] c_metrolabref19_Put = true := by kernel_rfl
/-- metrolab/frame.All -/
def e93_1 : LC :=
  .seq (.seq (.region [ ⟨some 30, none, .fieldA 0 (.t 6)⟩, ⟨some 31, none, .load none (.t 30)⟩, ⟨some 32, none, .idxAA 9 1 (.t 4) (.t 31)⟩, ⟨some 33, none, .load none (.t 32)⟩]) (.cond (.t 33) (.seq (.region [ ⟨some 2, none, .mov (.i 7)⟩]) .ret) .skip)) (.region [ ⟨some 34, none, .fieldA 0 (.t 6)⟩, ⟨some 35, none, .load none (.t 34)⟩, ⟨some 36, none, .idxAA 9 1 (.t 4) (.t 35)⟩, ⟨none, none, .store 1 (.t 36) (.b true)⟩])
def q93_1 : LC := e93_1
theorem u93_1 : Unf q93_1 e93_1 := fun _ _ _ _ _ => (rfl)
def e93_2 : LC :=
  .seq (.seq (.region [ ⟨some 24, none, .load (some 9) (.t 1)⟩, ⟨some 25, none, .load (some 5) (.t 6)⟩, ⟨some 26, none, .call 107 [.t 24, .t 25]⟩, ⟨some 7, none, .mov (.t 26)⟩]) (.seq (.region [ ⟨some 27, none, .mov (.t 7)⟩, ⟨some 28, none, .bin .neq (.t 27) (.i 0)⟩]) (.cond (.t 28) (.seq (.region [ ⟨some 29, none, .mov (.t 7)⟩, ⟨some 2, none, .mov (.t 29)⟩]) .ret) .skip))) q93_1
def q93_2 : LC := e93_2
theorem u93_2 : Unf q93_2 e93_2 := fun _ _ _ _ _ => (rfl)
def e93_3 : LC :=
  .keep [1, 4, 18, 19, 20] [1, 4] (.seq (.block 1 (.seq (.region [ ⟨some 22, none, .idxA 5 (.t 18) (.t 20)⟩, ⟨some 23, none, .load (some 5) (.t 22)⟩, ⟨some 6, none, .alloc 6 [.d (.int .i64 0), .d (.bool false), .d (.int .i64 0), .d (.int .i64 0), .nils]⟩, ⟨none, none, .store 5 (.t 6) (.t 23)⟩]) q93_2)) (.keep [1, 4, 18, 19, 20] [1, 4] (.tail [1, 4, 18, 19, 20] [1, 4] (.region [ ⟨some 37, none, .bin .add (.t 20) (.i 1)⟩, ⟨some 20, none, .mov (.t 37)⟩]))))
def q93_3 : LC := e93_3
theorem u93_3 : Unf q93_3 e93_3 := fun _ _ _ _ _ => (rfl)
def e93_4 : LC :=
  .seq (.seq (.region [ ⟨some 17, none, .fieldA 8 (.t 1)⟩, ⟨some 18, none, .load none (.t 17)⟩, ⟨some 19, none, .lenL (.t 18)⟩, ⟨some 20, none, .mov (.i 0)⟩]) (.block 0 (.keep [1, 4, 18, 19, 20] [1, 4] (.loop (.seq (.region [ ⟨some 21, none, .bin .lss (.t 20) (.t 19)⟩]) (.seq (.cond (.t 21) .skip (.exit 0)) q93_3)))))) (.seq (.region [ ⟨some 2, none, .mov (.i 0)⟩]) .ret)
def q93_4 : LC := e93_4
theorem u93_4 : Unf q93_4 e93_4 := fun _ _ _ _ _ => (rfl)
def e93_5 : LC :=
  .seq (.seq (.region [ ⟨some 13, none, .fieldA 8 (.t 1)⟩, ⟨some 14, none, .load none (.t 13)⟩, ⟨some 15, none, .lenL (.t 14)⟩, ⟨some 16, none, .bin .gtr (.t 15) (.i 8)⟩]) (.cond (.t 16) (.seq (.region [ ⟨some 2, none, .mov (.i 5)⟩]) .ret) .skip)) (.seq (.region [ ⟨some 4, none, .alloc 4 [.d (.bool false), .d (.bool false), .d (.bool false), .d (.bool false), .d (.bool false), .d (.bool false), .d (.bool false), .d (.bool false), .d (.bool false)]⟩]) q93_4)
def q93_5 : LC := e93_5
theorem u93_5 : Unf q93_5 e93_5 := fun _ _ _ _ _ => (rfl)
def e93_6 : LC :=
  .seq (.seq (.region [ ⟨some 8, none, .load (some 9) (.t 1)⟩, ⟨some 9, none, .call 105 [.t 8]⟩, ⟨some 3, none, .mov (.t 9)⟩]) (.seq (.region [ ⟨some 10, none, .mov (.t 3)⟩, ⟨some 11, none, .bin .neq (.t 10) (.i 0)⟩]) (.cond (.t 11) (.seq (.region [ ⟨some 12, none, .mov (.t 3)⟩, ⟨some 2, none, .mov (.t 12)⟩]) .ret) .skip))) q93_5
def q93_6 : LC := e93_6
theorem u93_6 : Unf q93_6 e93_6 := fun _ _ _ _ _ => (rfl)
def d_frame_All : LC :=
  .seq (.region [ ⟨some 1, none, .box 1 (.t 0)⟩, ⟨some 2, none, .mov (.i 0)⟩]) q93_6
def c_frame_All : LC := d_frame_All
theorem w_frame_All : Unf c_frame_All d_frame_All := fun _ _ _ _ _ => (rfl)
attribute [simp] e93_1 u93_1 e93_2 u93_2 e93_3 u93_3 e93_4 u93_4 e93_5 u93_5 e93_6 u93_6 d_frame_All w_frame_All
theorem k_frame_All : chkF Tryz.prog Tryz.f93 1 [(2, none)] c_frame_All = true := by kernel_rfl
/-- metrolab/metrolabref19.All -/
def e98_1 : LC :=
  .seq (.block 3 (.seq (.draw [0, 1, 0, 7, 15, 31, 0, 64, 0, 448, 960, 1984, 4095] [ ⟨some 38, none, .fieldA 8 (.t 1)⟩, ⟨some 39, none, .load none (.t 38)⟩, ⟨some 40, none, .mov (.t 6)⟩, ⟨some 41, none, .idxA 5 (.t 39) (.t 40)⟩, ⟨some 42, none, .fieldA 0 (.t 41)⟩, ⟨some 43, none, .load none (.t 42)⟩, ⟨some 44, none, .fieldA 8 (.t 1)⟩, ⟨some 45, none, .load none (.t 44)⟩, ⟨some 46, none, .mov (.t 4)⟩, ⟨some 47, none, .idxA 5 (.t 45) (.t 46)⟩, ⟨some 48, none, .fieldA 0 (.t 47)⟩, ⟨some 49, none, .load none (.t 48)⟩, ⟨some 50, none, .bin .eql (.t 43) (.t 49)⟩]) (.cond (.t 50) (.seq (.region [ ⟨some 2, none, .mov (.i 7)⟩]) .ret) .skip))) (.keep [1, 4, 6] [1] (.tail [1, 4, 6] [1] (.region [ ⟨some 36, none, .mov (.t 6)⟩, ⟨some 37, none, .bin .add (.t 36) (.i 1)⟩, ⟨some 6, none, .mov (.t 37)⟩])))
def q98_1 : LC := e98_1
theorem u98_1 : Unf q98_1 e98_1 := fun _ _ _ _ _ => (rfl)
def e98_2 : LC :=
  .seq (.region [ ⟨some 6, none, .mov (.i 0)⟩]) (.block 2 (.keep [1, 4, 6] [1] (.loop (.seq (.seq (.region [ ⟨some 33, none, .mov (.t 6)⟩, ⟨some 34, none, .mov (.t 4)⟩, ⟨some 35, none, .bin .lss (.t 33) (.t 34)⟩]) (.cond (.t 35) .skip (.exit 2))) q98_1))))
def q98_2 : LC := e98_2
theorem u98_2 : Unf q98_2 e98_2 := fun _ _ _ _ _ => (rfl)
def e98_3 : LC :=
  .seq (.block 1 (.seq (.seq (.draw [0, 0, 2, 0, 14, 30, 63, 127] [ ⟨some 23, none, .load (some 9) (.t 1)⟩, ⟨some 24, none, .fieldA 8 (.t 1)⟩, ⟨some 25, none, .load none (.t 24)⟩, ⟨some 26, none, .mov (.t 4)⟩, ⟨some 27, none, .idxA 5 (.t 25) (.t 26)⟩, ⟨some 28, none, .load (some 5) (.t 27)⟩, ⟨some 29, none, .call 151 [.t 23, .t 28]⟩, ⟨some 5, none, .mov (.t 29)⟩]) (.seq (.region [ ⟨some 30, none, .mov (.t 5)⟩, ⟨some 31, none, .bin .neq (.t 30) (.i 0)⟩]) (.cond (.t 31) (.seq (.region [ ⟨some 32, none, .mov (.t 5)⟩, ⟨some 2, none, .mov (.t 32)⟩]) .ret) .skip))) q98_2)) (.keep [1, 4] [1] (.tail [1, 4] [1] (.region [ ⟨some 21, none, .mov (.t 4)⟩, ⟨some 22, none, .bin .add (.t 21) (.i 1)⟩, ⟨some 4, none, .mov (.t 22)⟩])))
def q98_3 : LC := e98_3
theorem u98_3 : Unf q98_3 e98_3 := fun _ _ _ _ _ => (rfl)
def e98_4 : LC :=
  .block 0 (.keep [1, 4] [1] (.loop (.seq (.seq (.region [ ⟨some 16, none, .mov (.t 4)⟩, ⟨some 17, none, .fieldA 8 (.t 1)⟩, ⟨some 18, none, .load none (.t 17)⟩, ⟨some 19, none, .lenL (.t 18)⟩, ⟨some 20, none, .bin .lss (.t 16) (.t 19)⟩]) (.cond (.t 20) .skip (.exit 0))) q98_3)))
def q98_4 : LC := e98_4
theorem u98_4 : Unf q98_4 e98_4 := fun _ _ _ _ _ => (rfl)
def e98_5 : LC :=
  .seq (.seq (.region [ ⟨some 12, none, .fieldA 8 (.t 1)⟩, ⟨some 13, none, .load none (.t 12)⟩, ⟨some 14, none, .lenL (.t 13)⟩, ⟨some 15, none, .bin .gtr (.t 14) (.i 8)⟩]) (.cond (.t 15) (.seq (.region [ ⟨some 2, none, .mov (.i 5)⟩]) .ret) .skip)) (.seq (.seq (.region [ ⟨some 4, none, .mov (.i 0)⟩]) q98_4) (.seq (.region [ ⟨some 2, none, .mov (.i 0)⟩]) .ret))
def q98_5 : LC := e98_5
theorem u98_5 : Unf q98_5 e98_5 := fun _ _ _ _ _ => (rfl)
def e98_6 : LC :=
  .seq (.seq (.region [ ⟨some 7, none, .load (some 9) (.t 1)⟩, ⟨some 8, none, .call 150 [.t 7]⟩, ⟨some 3, none, .mov (.t 8)⟩]) (.seq (.region [ ⟨some 9, none, .mov (.t 3)⟩, ⟨some 10, none, .bin .neq (.t 9) (.i 0)⟩]) (.cond (.t 10) (.seq (.region [ ⟨some 11, none, .mov (.t 3)⟩, ⟨some 2, none, .mov (.t 11)⟩]) .ret) .skip))) q98_5
def q98_6 : LC := e98_6
theorem u98_6 : Unf q98_6 e98_6 := fun _ _ _ _ _ => (rfl)
def d_metrolabref19_All : LC :=
  .seq (.region [ ⟨some 1, none, .box 1 (.t 0)⟩, ⟨some 2, none, .mov (.i 0)⟩]) q98_6
def c_metrolabref19_All : LC := d_metrolabref19_All
theorem w_metrolabref19_All : Unf c_metrolabref19_All d_metrolabref19_All := fun _ _ _ _ _ => (rfl)
attribute [simp] e98_1 u98_1 e98_2 u98_2 e98_3 u98_3 e98_4 u98_4 e98_5 u98_5 e98_6 u98_6 d_metrolabref19_All w_metrolabref19_All
theorem k_metrolabref19_All : chkF Tryz.prog Tryz.f98 1 [(2, none)] c_metrolabref19_All = true := by kernel_rfl
/-- metrolab/frame.Parse -/
def e106_1 : LC :=
  .seq (.region [ ⟨some 44, none, .mov (.t 7)⟩, ⟨some 45, none, .mov (.t 9)⟩, ⟨some 46, none, .call 163 [.t 45]⟩, ⟨some 47, none, .ext (.t 46) 0⟩, ⟨some 48, none, .ext (.t 46) 1⟩, ⟨some 49, none, .callvD (.t 44) [.t 47, .t 48]⟩]) (.region [ ⟨some 50, none, .fn 164 [.t 6]⟩, ⟨some 7, none, .mov (.t 50)⟩])
def q106_1 : LC := e106_1
theorem u106_1 : Unf q106_1 e106_1 := fun _ _ _ _ _ => (rfl)
def e106_2 : LC :=
  .seq (.cond (.t 41) .skip (.exit 0)) (.seq (.block 1 (.seq (.region [ ⟨some 42, none, .idxA 1 (.t 38) (.t 40)⟩, ⟨some 43, none, .load none (.t 42)⟩, ⟨some 9, none, .mov (.t 43)⟩]) q106_1)) (.tailW [] (.region [ ⟨some 51, none, .bin .add (.t 40) (.i 1)⟩, ⟨some 40, none, .mov (.t 51)⟩])))
def q106_2 : LC := e106_2
theorem u106_2 : Unf q106_2 e106_2 := fun _ _ _ _ _ => (rfl)
def e106_3 : LC :=
  .seq (.region [ ⟨some 57, none, .mov (.t 11)⟩, ⟨some 58, none, .bin .neq (.t 57) (.i 0)⟩, ⟨some 59, none, .mov (.t 58)⟩, ⟨some 60, some (59, false), .mov (.t 10)⟩, ⟨some 61, some (59, false), .mov (.t 0)⟩, ⟨some 62, some (59, false), .bin .neq (.t 60) (.t 61)⟩, ⟨some 63, none, .pick (.t 59) (.b true) (.t 62)⟩]) (.cond (.t 63) (.seq (.region [ ⟨some 64, none, .build [.d (.int .i64 0), .d (.bool false), .d (.int .i64 0), .d (.int .i64 0), .nils] []⟩, ⟨none, none, .store 5 (.t 2) (.t 64)⟩, ⟨some 3, none, .mov (.i 4)⟩]) .ret) .skip)
def q106_3 : LC := e106_3
theorem u106_3 : Unf q106_3 e106_3 := fun _ _ _ _ _ => (rfl)
def e106_4 : LC :=
  .seq (.seq (.region [ ⟨some 53, none, .load (some 5) (.t 6)⟩, ⟨some 54, none, .call 165 [.t 53]⟩, ⟨some 52, none, .mov (.t 54)⟩, ⟨some 55, none, .ext (.t 52) 0⟩, ⟨some 56, none, .ext (.t 52) 1⟩, ⟨some 10, none, .mov (.t 55)⟩, ⟨some 11, none, .mov (.t 56)⟩]) q106_3) (.seq (.region [ ⟨some 65, none, .load (some 5) (.t 6)⟩, ⟨none, none, .store 5 (.t 2) (.t 65)⟩, ⟨some 3, none, .mov (.i 0)⟩]) .ret)
def q106_4 : LC := e106_4
theorem u106_4 : Unf q106_4 e106_4 := fun _ _ _ _ _ => (rfl)
def e106_5 : LC :=
  .seq (.region [ ⟨some 37, none, .fn 161 [.t 6]⟩, ⟨some 7, none, .mov (.t 37)⟩]) (.seq (.seq (.region [ ⟨some 38, none, .load none (.t 4)⟩, ⟨some 39, none, .lenL (.t 38)⟩, ⟨some 40, none, .mov (.i 0)⟩]) (.block 0 (.weak [] (.loop (.seq (.region [ ⟨some 41, none, .bin .lss (.t 40) (.t 39)⟩]) q106_2))))) q106_4)
def q106_5 : LC := e106_5
theorem u106_5 : Unf q106_5 e106_5 := fun _ _ _ _ _ => (rfl)
def e106_6 : LC :=
  .seq (.seq (.region [ ⟨some 25, none, .load none (.t 4)⟩, ⟨some 26, none, .lenL (.t 25)⟩, ⟨some 27, none, .bin .gtr (.t 26) (.i 0)⟩, ⟨some 28, none, .mov (.t 27)⟩, ⟨some 29, some (28, true), .load none (.t 4)⟩, ⟨some 30, some (28, true), .idxA 1 (.t 29) (.i 0)⟩, ⟨some 31, some (28, true), .load none (.t 30)⟩, ⟨some 32, some (28, true), .bin .eql (.t 31) (.s [100, 105, 115, 99])⟩, ⟨some 33, none, .pick (.t 28) (.t 32) (.b false)⟩]) (.cond (.t 33) (.draw [0, 1, 0, 4, 15] [ ⟨some 34, none, .load none (.t 4)⟩, ⟨some 35, none, .slcL 1 (.t 34) (some (.i 1)) none⟩, ⟨some 36, none, .fieldA 1 (.t 6)⟩, ⟨none, none, .store 1 (.t 36) (.b true)⟩, ⟨none, none, .store 1 (.t 4) (.t 35)⟩]) .skip)) q106_5
def q106_6 : LC := e106_6
theorem u106_6 : Unf q106_6 e106_6 := fun _ _ _ _ _ => (rfl)
def e106_7 : LC :=
  .seq (.region [ ⟨some 19, none, .slcA 9 6 (.t 5)⟩, ⟨some 20, none, .fn 160 [.t 4]⟩, ⟨some 21, none, .call 159 [.t 19, .t 20]⟩, ⟨some 22, none, .build [.d (.int .i64 0), .d (.bool false), .d (.int .i64 0), .d (.int .i64 0), .nils] [(0, 1, .t 21)]⟩, ⟨some 6, none, .alloc 6 [.d (.int .i64 0), .d (.bool false), .d (.int .i64 0), .d (.int .i64 0), .nils]⟩, ⟨none, none, .store 5 (.t 6) (.t 22)⟩]) (.seq (.region [ ⟨some 23, none, .load none (.t 4)⟩, ⟨some 24, none, .slcL 1 (.t 23) (some (.i 1)) none⟩, ⟨none, none, .store 1 (.t 4) (.t 24)⟩]) q106_6)
def q106_7 : LC := e106_7
theorem u106_7 : Unf q106_7 e106_7 := fun _ _ _ _ _ => (rfl)
def e106_8 : LC :=
  .seq (.region [ ⟨some 18, none, .call 158 []⟩, ⟨some 5, none, .alloc 5 [.d (.str []), .d (.str []), .d (.str []), .d (.int .i64 0), .d (.int .i64 0), .d (.bool false), .d (.str []), .d (.str []), .d (.str []), .d (.int .i64 0), .d (.int .i64 0), .d (.bool false), .d (.str []), .d (.str []), .d (.str []), .d (.int .i64 0), .d (.int .i64 0), .d (.bool false), .d (.str []), .d (.str []), .d (.str []), .d (.int .i64 0), .d (.int .i64 0), .d (.bool false), .d (.str []), .d (.str []), .d (.str []), .d (.int .i64 0), .d (.int .i64 0), .d (.bool false), .d (.str []), .d (.str []), .d (.str []), .d (.int .i64 0), .d (.int .i64 0), .d (.bool false), .d (.str []), .d (.str []), .d (.str []), .d (.int .i64 0), .d (.int .i64 0), .d (.bool false), .d (.str []), .d (.str []), .d (.str []), .d (.int .i64 0), .d (.int .i64 0), .d (.bool false), .d (.str []), .d (.str []), .d (.str []), .d (.int .i64 0), .d (.int .i64 0), .d (.bool false)]⟩, ⟨none, none, .store 54 (.t 5) (.t 18)⟩]) q106_7
def q106_8 : LC := e106_8
theorem u106_8 : Unf q106_8 e106_8 := fun _ _ _ _ _ => (rfl)
def e106_9 : LC :=
  .seq (.seq (.region [ ⟨some 12, none, .mov (.t 0)⟩, ⟨some 13, none, .lenS (.t 12)⟩, ⟨some 14, none, .bin .gtr (.t 13) (.i 4096)⟩]) (.cond (.t 14) (.seq (.region [ ⟨some 15, none, .build [.d (.int .i64 0), .d (.bool false), .d (.int .i64 0), .d (.int .i64 0), .nils] []⟩, ⟨none, none, .store 5 (.t 2) (.t 15)⟩, ⟨some 3, none, .mov (.i 17)⟩]) .ret) .skip)) (.seq (.region [ ⟨some 16, none, .mov (.t 0)⟩, ⟨some 17, none, .call 24 [.t 16, .s [32]]⟩, ⟨some 4, none, .alloc 4 [.nils]⟩, ⟨none, none, .store 1 (.t 4) (.t 17)⟩]) q106_8)
def q106_9 : LC := e106_9
theorem u106_9 : Unf q106_9 e106_9 := fun _ _ _ _ _ => (rfl)
def d_frame_Parse : LC :=
  .seq (.region [ ⟨some 2, none, .alloc 2 [.d (.int .i64 0), .d (.bool false), .d (.int .i64 0), .d (.int .i64 0), .nils]⟩, ⟨some 3, none, .mov (.i 0)⟩]) q106_9
def c_frame_Parse : LC := d_frame_Parse
theorem w_frame_Parse : Unf c_frame_Parse d_frame_Parse := fun _ _ _ _ _ => (rfl)
attribute [simp] e106_1 u106_1 e106_2 u106_2 e106_3 u106_3 e106_4 u106_4 e106_5 u106_5 e106_6 u106_6 e106_7 u106_7 e106_8 u106_8 e106_9 u106_9 d_frame_Parse w_frame_Parse
theorem k_frame_Parse : chkF Tryz.prog Tryz.f106 1 [(2, some (some 5)), (3, none)] c_frame_Parse = true := by kernel_rfl
/-- metrolab/frame.Check -/
def e107_1 : LC :=
  .seq (.region [ ⟨some 78, none, .fieldA 4 (.t 3)⟩, ⟨some 79, none, .load none (.t 78)⟩, ⟨some 80, none, .fn 170 [.t 2]⟩, ⟨some 81, none, .call 169 [.t 79, .t 80]⟩, ⟨some 77, none, .mov (.t 81)⟩]) (.cond (.t 77) (.seq (.region [ ⟨some 4, none, .mov (.i 7)⟩]) .ret) .skip)
def q107_1 : LC := e107_1
theorem u107_1 : Unf q107_1 e107_1 := fun _ _ _ _ _ => (rfl)
def e107_2 : LC :=
  .seq (.region [ ⟨some 71, none, .fieldA 4 (.t 3)⟩, ⟨some 72, none, .load none (.t 71)⟩, ⟨some 73, none, .lenL (.t 72)⟩, ⟨some 74, none, .fieldA 4 (.t 7)⟩, ⟨some 75, none, .load none (.t 74)⟩, ⟨some 76, none, .bin .gtr (.t 73) (.t 75)⟩, ⟨some 70, none, .mov (.t 76)⟩]) (.cond (.t 70) (.seq (.region [ ⟨some 4, none, .mov (.i 5)⟩]) .ret) q107_1)
def q107_2 : LC := e107_2
theorem u107_2 : Unf q107_2 e107_2 := fun _ _ _ _ _ => (rfl)
def e107_3 : LC :=
  .seq (.region [ ⟨some 64, none, .fieldA 4 (.t 3)⟩, ⟨some 65, none, .load none (.t 64)⟩, ⟨some 66, none, .lenL (.t 65)⟩, ⟨some 67, none, .fieldA 3 (.t 7)⟩, ⟨some 68, none, .load none (.t 67)⟩, ⟨some 69, none, .bin .lss (.t 66) (.t 68)⟩, ⟨some 63, none, .mov (.t 69)⟩]) (.cond (.t 63) (.seq (.region [ ⟨some 4, none, .mov (.i 13)⟩]) .ret) q107_2)
def q107_3 : LC := e107_3
theorem u107_3 : Unf q107_3 e107_3 := fun _ _ _ _ _ => (rfl)
def e107_4 : LC :=
  .seq (.region [ ⟨some 50, none, .fieldA 3 (.t 3)⟩, ⟨some 51, none, .load none (.t 50)⟩, ⟨some 52, none, .bin .neq (.t 51) (.i 0)⟩, ⟨some 53, none, .mov (.t 52)⟩, ⟨some 54, some (53, true), .fieldA 5 (.t 7)⟩, ⟨some 55, some (53, true), .load none (.t 54)⟩, ⟨some 56, some (53, true), .not (.t 55)⟩, ⟨some 57, some (53, true), .mov (.t 56)⟩, ⟨some 58, some (57, false), .fieldA 1 (.t 2)⟩, ⟨some 59, some (57, false), .load none (.t 58)⟩, ⟨some 60, some (57, false), .bin .eql (.t 59) (.i 0)⟩, ⟨some 61, some (53, true), .pick (.t 57) (.b true) (.t 60)⟩, ⟨some 62, none, .pick (.t 53) (.t 61) (.b false)⟩, ⟨some 49, none, .mov (.t 62)⟩]) (.cond (.t 49) (.seq (.region [ ⟨some 4, none, .mov (.i 3)⟩]) .ret) q107_3)
def q107_4 : LC := e107_4
theorem u107_4 : Unf q107_4 e107_4 := fun _ _ _ _ _ => (rfl)
def e107_5 : LC :=
  .seq (.region [ ⟨some 41, none, .fieldA 2 (.t 3)⟩, ⟨some 42, none, .load none (.t 41)⟩, ⟨some 43, none, .bin .eql (.t 42) (.i 0)⟩, ⟨some 44, none, .mov (.t 43)⟩, ⟨some 45, some (44, true), .fieldA 3 (.t 3)⟩, ⟨some 46, some (44, true), .load none (.t 45)⟩, ⟨some 47, some (44, true), .bin .neq (.t 46) (.i 1)⟩, ⟨some 48, none, .pick (.t 44) (.t 47) (.b false)⟩, ⟨some 40, none, .mov (.t 48)⟩]) (.cond (.t 40) (.seq (.region [ ⟨some 4, none, .mov (.i 10)⟩]) .ret) q107_4)
def q107_5 : LC := e107_5
theorem u107_5 : Unf q107_5 e107_5 := fun _ _ _ _ _ => (rfl)
def e107_6 : LC :=
  .seq (.region [ ⟨some 31, none, .fieldA 1 (.t 3)⟩, ⟨some 32, none, .load none (.t 31)⟩, ⟨some 33, none, .mov (.t 32)⟩, ⟨some 34, some (33, true), .mov (.t 8)⟩, ⟨some 35, some (33, true), .fieldA 2 (.t 7)⟩, ⟨some 36, some (33, true), .load none (.t 35)⟩, ⟨some 37, some (33, true), .callv (.t 34) [.t 36]⟩, ⟨some 38, some (33, true), .not (.t 37)⟩, ⟨some 39, none, .pick (.t 33) (.t 38) (.b false)⟩, ⟨some 30, none, .mov (.t 39)⟩]) (.cond (.t 30) (.seq (.region [ ⟨some 4, none, .mov (.i 3)⟩]) .ret) q107_5)
def q107_6 : LC := e107_6
theorem u107_6 : Unf q107_6 e107_6 := fun _ _ _ _ _ => (rfl)
def e107_7 : LC :=
  .seq (.block 0 (.seq (.region [ ⟨some 25, none, .mov (.t 8)⟩, ⟨some 26, none, .fieldA 1 (.t 7)⟩, ⟨some 27, none, .load none (.t 26)⟩, ⟨some 28, none, .callv (.t 25) [.t 27]⟩, ⟨some 29, none, .not (.t 28)⟩, ⟨some 24, none, .mov (.t 29)⟩]) (.cond (.t 24) (.seq (.region [ ⟨some 4, none, .mov (.i 14)⟩]) .ret) q107_6))) (.keep [] [] (.seq (.region [ ⟨some 4, none, .mov (.i 0)⟩]) .ret))
def q107_7 : LC := e107_7
theorem u107_7 : Unf q107_7 e107_7 := fun _ _ _ _ _ => (rfl)
def e107_8 : LC :=
  .seq (.draw [0, 0, 2, 7, 0, 31] [ ⟨some 19, none, .call 158 []⟩, ⟨some 20, none, .fieldA 0 (.t 3)⟩, ⟨some 21, none, .load none (.t 20)⟩, ⟨some 22, none, .idx 9 6 (some 6) (.t 19) (.t 21)⟩, ⟨some 7, none, .alloc 7 [.d (.str []), .d (.str []), .d (.str []), .d (.int .i64 0), .d (.int .i64 0), .d (.bool false)]⟩, ⟨none, none, .store 6 (.t 7) (.t 22)⟩]) (.seq (.region [ ⟨some 23, none, .fn 167 [.t 2]⟩, ⟨some 8, none, .mov (.t 23)⟩]) q107_7)
def q107_8 : LC := e107_8
theorem u107_8 : Unf q107_8 e107_8 := fun _ _ _ _ _ => (rfl)
def e107_9 : LC :=
  .seq (.seq (.region [ ⟨some 14, none, .load (some 5) (.t 3)⟩, ⟨some 15, none, .call 166 [.t 14]⟩, ⟨some 6, none, .mov (.t 15)⟩]) (.seq (.region [ ⟨some 16, none, .mov (.t 6)⟩, ⟨some 17, none, .bin .neq (.t 16) (.i 0)⟩]) (.cond (.t 17) (.seq (.region [ ⟨some 18, none, .mov (.t 6)⟩, ⟨some 4, none, .mov (.t 18)⟩]) .ret) .skip))) q107_8
def q107_9 : LC := e107_9
theorem u107_9 : Unf q107_9 e107_9 := fun _ _ _ _ _ => (rfl)
def e107_10 : LC :=
  .lift 2 (.seq (.seq (.region [ ⟨some 9, none, .load (some 9) (.t 2)⟩, ⟨some 10, none, .call 105 [.t 9]⟩, ⟨some 5, none, .mov (.t 10)⟩]) (.seq (.region [ ⟨some 11, none, .mov (.t 5)⟩, ⟨some 12, none, .bin .neq (.t 11) (.i 0)⟩]) (.cond (.t 12) (.seq (.region [ ⟨some 13, none, .mov (.t 5)⟩, ⟨some 4, none, .mov (.t 13)⟩]) .ret) .skip))) q107_9)
def q107_10 : LC := e107_10
theorem u107_10 : Unf q107_10 e107_10 := fun _ _ _ _ _ => (rfl)
def d_frame_Check : LC :=
  .seq (.region [ ⟨some 2, none, .box 2 (.t 0)⟩, ⟨some 3, none, .box 3 (.t 1)⟩, ⟨some 4, none, .mov (.i 0)⟩]) q107_10
def c_frame_Check : LC := d_frame_Check
theorem w_frame_Check : Unf c_frame_Check d_frame_Check := fun _ _ _ _ _ => (rfl)
attribute [simp] e107_1 u107_1 e107_2 u107_2 e107_3 u107_3 e107_4 u107_4 e107_5 u107_5 e107_6 u107_6 e107_7 u107_7 e107_8 u107_8 e107_9 u107_9 e107_10 u107_10 d_frame_Check w_frame_Check
theorem k_frame_Check : chkF Tryz.prog Tryz.f107 2 [(4, none)] c_frame_Check = true := by kernel_rfl
/-- metrolab/metrolabref19.Check -/
def e151_1 : LC :=
  .seq (.block 1 (.seq (.draw [0, 1, 0, 7, 15, 31, 0, 64, 255] [ ⟨some 32, none, .fieldA 4 (.t 3)⟩, ⟨some 33, none, .load none (.t 32)⟩, ⟨some 34, none, .mov (.t 8)⟩, ⟨some 35, none, .idxA 2 (.t 33) (.t 34)⟩, ⟨some 36, none, .fieldA 0 (.t 35)⟩, ⟨some 37, none, .load none (.t 36)⟩, ⟨some 38, none, .fieldA 0 (.t 2)⟩, ⟨some 39, none, .load none (.t 38)⟩, ⟨some 40, none, .bin .eql (.t 37) (.t 39)⟩]) (.cond (.t 40) (.seq (.region [ ⟨some 4, none, .mov (.i 7)⟩]) .ret) .skip))) (.keep [2, 3, 8] [2, 3] (.tail [2, 3, 8] [2, 3] (.region [ ⟨some 30, none, .mov (.t 8)⟩, ⟨some 31, none, .bin .add (.t 30) (.i 1)⟩, ⟨some 8, none, .mov (.t 31)⟩])))
def q151_1 : LC := e151_1
theorem u151_1 : Unf q151_1 e151_1 := fun _ _ _ _ _ => (rfl)
def e151_2 : LC :=
  .block 0 (.keep [2, 3, 8] [2, 3] (.loop (.seq (.seq (.region [ ⟨some 25, none, .mov (.t 8)⟩, ⟨some 26, none, .fieldA 4 (.t 3)⟩, ⟨some 27, none, .load none (.t 26)⟩, ⟨some 28, none, .lenL (.t 27)⟩, ⟨some 29, none, .bin .lss (.t 25) (.t 28)⟩]) (.cond (.t 29) .skip (.exit 0))) q151_1)))
def q151_2 : LC := e151_2
theorem u151_2 : Unf q151_2 e151_2 := fun _ _ _ _ _ => (rfl)
def e151_3 : LC :=
  .seq (.seq (.region [ ⟨some 19, none, .load (some 9) (.t 2)⟩, ⟨some 20, none, .load (some 5) (.t 3)⟩, ⟨some 21, none, .call 202 [.t 19, .t 20]⟩, ⟨some 7, none, .mov (.t 21)⟩]) (.seq (.region [ ⟨some 22, none, .mov (.t 7)⟩, ⟨some 23, none, .bin .neq (.t 22) (.i 0)⟩]) (.cond (.t 23) (.seq (.region [ ⟨some 24, none, .mov (.t 7)⟩, ⟨some 4, none, .mov (.t 24)⟩]) .ret) .skip))) (.seq (.seq (.region [ ⟨some 8, none, .mov (.i 0)⟩]) q151_2) (.seq (.region [ ⟨some 4, none, .mov (.i 0)⟩]) .ret))
def q151_3 : LC := e151_3
theorem u151_3 : Unf q151_3 e151_3 := fun _ _ _ _ _ => (rfl)
def e151_4 : LC :=
  .seq (.seq (.region [ ⟨some 14, none, .load (some 5) (.t 3)⟩, ⟨some 15, none, .call 201 [.t 14]⟩, ⟨some 6, none, .mov (.t 15)⟩]) (.seq (.region [ ⟨some 16, none, .mov (.t 6)⟩, ⟨some 17, none, .bin .neq (.t 16) (.i 0)⟩]) (.cond (.t 17) (.seq (.region [ ⟨some 18, none, .mov (.t 6)⟩, ⟨some 4, none, .mov (.t 18)⟩]) .ret) .skip))) q151_3
def q151_4 : LC := e151_4
theorem u151_4 : Unf q151_4 e151_4 := fun _ _ _ _ _ => (rfl)
def e151_5 : LC :=
  .seq (.seq (.region [ ⟨some 9, none, .load (some 9) (.t 2)⟩, ⟨some 10, none, .call 150 [.t 9]⟩, ⟨some 5, none, .mov (.t 10)⟩]) (.seq (.region [ ⟨some 11, none, .mov (.t 5)⟩, ⟨some 12, none, .bin .neq (.t 11) (.i 0)⟩]) (.cond (.t 12) (.seq (.region [ ⟨some 13, none, .mov (.t 5)⟩, ⟨some 4, none, .mov (.t 13)⟩]) .ret) .skip))) q151_4
def q151_5 : LC := e151_5
theorem u151_5 : Unf q151_5 e151_5 := fun _ _ _ _ _ => (rfl)
def d_metrolabref19_Check : LC :=
  .seq (.region [ ⟨some 2, none, .box 2 (.t 0)⟩, ⟨some 3, none, .box 3 (.t 1)⟩, ⟨some 4, none, .mov (.i 0)⟩]) q151_5
def c_metrolabref19_Check : LC := d_metrolabref19_Check
theorem w_metrolabref19_Check : Unf c_metrolabref19_Check d_metrolabref19_Check := fun _ _ _ _ _ => (rfl)
attribute [simp] e151_1 u151_1 e151_2 u151_2 e151_3 u151_3 e151_4 u151_4 e151_5 u151_5 d_metrolabref19_Check w_metrolabref19_Check
theorem k_metrolabref19_Check : chkF Tryz.prog Tryz.f151 2 [(4, none)] c_metrolabref19_Check = true := by kernel_rfl
/-- metrolab/frame.rows -/
def e158_1 : LC :=
  .seq (.region [ ⟨some 1, none, .build [.d (.str []), .d (.str []), .d (.str []), .d (.int .i64 0), .d (.int .i64 0), .d (.bool false)] [(0, 1, .s [115, 116, 114, 97, 105, 103, 104, 116]), (1, 1, .s [104, 112]), (2, 1, .s [104, 112]), (3, 1, .i 0), (4, 1, .i 0), (5, 1, .b true)]⟩, ⟨some 2, none, .build [.d (.str []), .d (.str []), .d (.str []), .d (.int .i64 0), .d (.int .i64 0), .d (.bool false)] [(0, 1, .s [102, 108, 97, 116]), (1, 1, .s [108, 115]), (2, 1, .s []), (3, 1, .i 0), (4, 1, .i 0), (5, 1, .b false)]⟩, ⟨some 3, none, .build [.d (.str []), .d (.str []), .d (.str []), .d (.int .i64 0), .d (.int .i64 0), .d (.bool false)] [(0, 1, .s [112, 97, 114, 97, 108, 108, 101, 108]), (1, 1, .s [108, 104, 112, 115]), (2, 1, .s [104, 112]), (3, 1, .i 1), (4, 1, .i 2), (5, 1, .b true)]⟩, ⟨some 4, none, .build [.d (.str []), .d (.str []), .d (.str []), .d (.int .i64 0), .d (.int .i64 0), .d (.bool false)] [(0, 1, .s [115, 113, 117, 97, 114, 101]), (1, 1, .s [108, 104, 112, 115]), (2, 1, .s [104, 112]), (3, 1, .i 1), (4, 1, .i 2), (5, 1, .b true)]⟩, ⟨some 5, none, .build [.d (.str []), .d (.str []), .d (.str []), .d (.int .i64 0), .d (.int .i64 0), .d (.bool false)] [(0, 1, .s [114, 111, 117, 110, 100]), (1, 1, .s [104, 112, 98]), (2, 1, .s []), (3, 1, .i 0), (4, 1, .i 0), (5, 1, .b false)]⟩, ⟨some 6, none, .build [.d (.str []), .d (.str []), .d (.str []), .d (.int .i64 0), .d (.int .i64 0), .d (.bool false)] [(0, 1, .s [115, 112, 104, 101, 114, 101]), (1, 1, .s [98]), (2, 1, .s []), (3, 1, .i 0), (4, 1, .i 0), (5, 1, .b false)]⟩, ⟨some 7, none, .build [.d (.str []), .d (.str []), .d (.str []), .d (.int .i64 0), .d (.int .i64 0), .d (.bool false)] [(0, 1, .s [112, 114, 111, 102, 105, 108, 101]), (1, 1, .s [108]), (2, 1, .s []), (3, 1, .i 0), (4, 1, .i 3), (5, 1, .b false)]⟩, ⟨some 8, none, .build [.d (.str []), .d (.str []), .d (.str []), .d (.int .i64 0), .d (.int .i64 0), .d (.bool false)] [(0, 1, .s [114, 117, 110, 111, 117, 116]), (1, 1, .s [108, 104, 112]), (2, 1, .s []), (3, 1, .i 1), (4, 1, .i 1), (5, 1, .b false)]⟩, ⟨some 9, none, .build [.d (.str []), .d (.str []), .d (.str []), .d (.int .i64 0), .d (.int .i64 0), .d (.bool false)] [(0, 1, .s [112, 111, 115, 105, 116, 105, 111, 110]), (1, 1, .s [108, 104, 112, 115, 98]), (2, 1, .s [104, 112, 98]), (3, 1, .i 0), (4, 1, .i 3), (5, 1, .b true)]⟩, ⟨some 10, none, .build [.d (.str []), .d (.str []), .d (.str []), .d (.int .i64 0), .d (.int .i64 0), .d (.bool false), .d (.str []), .d (.str []), .d (.str []), .d (.int .i64 0), .d (.int .i64 0), .d (.bool false), .d (.str []), .d (.str []), .d (.str []), .d (.int .i64 0), .d (.int .i64 0), .d (.bool false), .d (.str []), .d (.str []), .d (.str []), .d (.int .i64 0), .d (.int .i64 0), .d (.bool false), .d (.str []), .d (.str []), .d (.str []), .d (.int .i64 0), .d (.int .i64 0), .d (.bool false), .d (.str []), .d (.str []), .d (.str []), .d (.int .i64 0), .d (.int .i64 0), .d (.bool false), .d (.str []), .d (.str []), .d (.str []), .d (.int .i64 0), .d (.int .i64 0), .d (.bool false), .d (.str []), .d (.str []), .d (.str []), .d (.int .i64 0), .d (.int .i64 0), .d (.bool false), .d (.str []), .d (.str []), .d (.str []), .d (.int .i64 0), .d (.int .i64 0), .d (.bool false)] [(0, 6, .t 1), (6, 6, .t 2), (12, 6, .t 3), (18, 6, .t 4), (24, 6, .t 5), (30, 6, .t 6), (36, 6, .t 7), (42, 6, .t 8), (48, 6, .t 9)]⟩, ⟨none, none, .store 54 (.t 0) (.t 10)⟩]) .ret
def q158_1 : LC := e158_1
theorem u158_1 : Unf q158_1 e158_1 := fun _ _ _ _ _ => (rfl)
def d_frame_rows : LC :=
  .seq (.region [ ⟨some 0, none, .alloc 0 [.d (.str []), .d (.str []), .d (.str []), .d (.int .i64 0), .d (.int .i64 0), .d (.bool false), .d (.str []), .d (.str []), .d (.str []), .d (.int .i64 0), .d (.int .i64 0), .d (.bool false), .d (.str []), .d (.str []), .d (.str []), .d (.int .i64 0), .d (.int .i64 0), .d (.bool false), .d (.str []), .d (.str []), .d (.str []), .d (.int .i64 0), .d (.int .i64 0), .d (.bool false), .d (.str []), .d (.str []), .d (.str []), .d (.int .i64 0), .d (.int .i64 0), .d (.bool false), .d (.str []), .d (.str []), .d (.str []), .d (.int .i64 0), .d (.int .i64 0), .d (.bool false), .d (.str []), .d (.str []), .d (.str []), .d (.int .i64 0), .d (.int .i64 0), .d (.bool false), .d (.str []), .d (.str []), .d (.str []), .d (.int .i64 0), .d (.int .i64 0), .d (.bool false), .d (.str []), .d (.str []), .d (.str []), .d (.int .i64 0), .d (.int .i64 0), .d (.bool false)]⟩]) q158_1
def c_frame_rows : LC := d_frame_rows
theorem w_frame_rows : Unf c_frame_rows d_frame_rows := fun _ _ _ _ _ => (rfl)
attribute [simp] e158_1 u158_1 d_frame_rows w_frame_rows
theorem k_frame_rows : chkF Tryz.prog Tryz.f158 0 [(0, some (some 54))] c_frame_rows = true := by kernel_rfl
/-- metrolab/frame.Parse.1 -/
def d_frame_Parse_1 : LC :=
  .seq (.region [ ⟨some 2, none, .box 2 (.t 0)⟩, ⟨some 3, none, .mov (.b false)⟩]) (.seq (.draw [0, 1, 0, 4, 12, 31, 63] [ ⟨some 4, none, .fieldA 0 (.t 2)⟩, ⟨some 5, none, .load none (.t 4)⟩, ⟨some 6, none, .load none (.t 1)⟩, ⟨some 7, none, .idxA 1 (.t 6) (.i 0)⟩, ⟨some 8, none, .load none (.t 7)⟩, ⟨some 9, none, .bin .eql (.t 5) (.t 8)⟩, ⟨some 3, none, .mov (.t 9)⟩]) .ret)
def c_frame_Parse_1 : LC := d_frame_Parse_1
theorem w_frame_Parse_1 : Unf c_frame_Parse_1 d_frame_Parse_1 := fun _ _ _ _ _ => (rfl)
attribute [simp] d_frame_Parse_1 w_frame_Parse_1
theorem k_frame_Parse_1 : chkF Tryz.prog Tryz.f160 2 [(3, none)] c_frame_Parse_1 = true := by kernel_rfl
/-- metrolab/frame.Parse.2 -/
def d_frame_Parse_2 : LC :=
  .seq (.region [ ⟨some 6, none, .mov (.t 0)⟩, ⟨some 7, none, .call 162 [.t 6]⟩, ⟨some 5, none, .mov (.t 7)⟩, ⟨some 8, none, .ext (.t 5) 0⟩, ⟨some 9, none, .ext (.t 5) 1⟩, ⟨some 10, none, .fieldA 2 (.t 2)⟩, ⟨none, none, .store 1 (.t 10) (.t 8)⟩]) (.region [ ⟨some 11, none, .mov (.t 1)⟩, ⟨some 12, none, .fieldA 3 (.t 2)⟩, ⟨none, none, .store 1 (.t 12) (.t 11)⟩])
def c_frame_Parse_2 : LC := d_frame_Parse_2
theorem w_frame_Parse_2 : Unf c_frame_Parse_2 d_frame_Parse_2 := fun _ _ _ _ _ => (rfl)
attribute [simp] d_frame_Parse_2 w_frame_Parse_2
theorem k_frame_Parse_2 : chkF Tryz.prog Tryz.f161 3 [] c_frame_Parse_2 = true := by kernel_rfl
/-- metrolab/frame.unmarked -/
def e163_1 : LC :=
  .seq (.block 1 (.seq (.region [ ⟨some 12, none, .mov (.t 0)⟩, ⟨some 13, none, .mov (.t 4)⟩, ⟨some 14, none, .call 210 [.s [], .t 13]⟩, ⟨some 15, none, .call 209 [.t 12, .t 14]⟩, ⟨some 11, none, .mov (.t 15)⟩, ⟨some 16, none, .ext (.t 11) 0⟩, ⟨some 17, none, .ext (.t 11) 1⟩, ⟨some 5, none, .mov (.t 16)⟩, ⟨some 6, none, .mov (.t 17)⟩]) (.seq (.region [ ⟨some 18, none, .mov (.t 6)⟩]) (.cond (.t 18) (.seq (.region [ ⟨some 19, none, .mov (.t 5)⟩, ⟨some 20, none, .mov (.t 4)⟩, ⟨some 2, none, .mov (.t 19)⟩, ⟨some 3, none, .mov (.t 20)⟩]) .ret) .skip)))) (.keep [0, 4] [] (.tail [0, 4] [] (.region [ ⟨some 9, none, .mov (.t 4)⟩, ⟨some 10, none, .bin .add (.t 9) (.i 1)⟩, ⟨some 4, none, .mov (.t 10)⟩])))
def q163_1 : LC := e163_1
theorem u163_1 : Unf q163_1 e163_1 := fun _ _ _ _ _ => (rfl)
def e163_2 : LC :=
  .seq (.seq (.region [ ⟨some 4, none, .mov (.i 1)⟩]) (.block 0 (.keep [0, 4] [] (.loop (.seq (.seq (.region [ ⟨some 7, none, .mov (.t 4)⟩, ⟨some 8, none, .bin .lss (.t 7) (.i 3)⟩]) (.cond (.t 8) .skip (.exit 0))) q163_1))))) (.seq (.region [ ⟨some 21, none, .mov (.t 0)⟩, ⟨some 2, none, .mov (.t 21)⟩, ⟨some 3, none, .mov (.i 0)⟩]) .ret)
def q163_2 : LC := e163_2
theorem u163_2 : Unf q163_2 e163_2 := fun _ _ _ _ _ => (rfl)
def d_frame_unmarked : LC :=
  .seq (.region [ ⟨some 2, none, .mov (.s [])⟩, ⟨some 3, none, .mov (.i 0)⟩]) q163_2
def c_frame_unmarked : LC := d_frame_unmarked
theorem w_frame_unmarked : Unf c_frame_unmarked d_frame_unmarked := fun _ _ _ _ _ => (rfl)
attribute [simp] e163_1 u163_1 e163_2 u163_2 d_frame_unmarked w_frame_unmarked
theorem k_frame_unmarked : chkF Tryz.prog Tryz.f163 1 [(2, none), (3, none)] c_frame_unmarked = true := by kernel_rfl
/-- metrolab/frame.Parse.3 -/
def d_frame_Parse_3 : LC :=
  .region [ ⟨some 5, none, .fieldA 4 (.t 2)⟩, ⟨some 6, none, .load none (.t 5)⟩, ⟨some 7, none, .mov (.t 0)⟩, ⟨some 8, none, .mov (.t 1)⟩, ⟨some 9, none, .build [.d (.str []), .d (.int .i64 0)] [(0, 1, .t 7), (1, 1, .t 8)]⟩, ⟨some 10, none, .buildS 10 117 2 1 [(0, 2, .t 9)]⟩, ⟨some 11, none, .appN 1011 117 2 (.t 6) (.t 10)⟩, ⟨some 12, none, .fieldA 4 (.t 2)⟩, ⟨none, none, .store 1 (.t 12) (.t 11)⟩]
def c_frame_Parse_3 : LC := d_frame_Parse_3
theorem w_frame_Parse_3 : Unf c_frame_Parse_3 d_frame_Parse_3 := fun _ _ _ _ _ => (rfl)
attribute [simp] d_frame_Parse_3 w_frame_Parse_3
theorem k_frame_Parse_3 : chkF Tryz.prog Tryz.f164 3 [] c_frame_Parse_3 = true := by kernel_rfl
/-- metrolab/frame.Text -/
def e165_1 : LC :=
  .region [ ⟨some 40, none, .mov (.t 5)⟩, ⟨some 41, none, .fieldA 0 (.t 7)⟩, ⟨some 42, none, .load none (.t 41)⟩, ⟨some 43, none, .fieldA 1 (.t 7)⟩, ⟨some 44, none, .load none (.t 43)⟩, ⟨some 45, none, .call 210 [.t 42, .t 44]⟩, ⟨some 46, none, .buildS 46 9 1 1 [(0, 1, .t 45)]⟩, ⟨some 47, none, .append 9 1 (.t 40) (.t 46)⟩, ⟨some 5, none, .mov (.t 47)⟩]
def q165_1 : LC := e165_1
theorem u165_1 : Unf q165_1 e165_1 := fun _ _ _ _ _ => (rfl)
def e165_2 : LC :=
  .keep [5, 34, 35, 36] [18] (.seq (.block 1 (.seq (.region [ ⟨some 38, none, .idxA 2 (.t 34) (.t 36)⟩, ⟨some 39, none, .load (some 2) (.t 38)⟩, ⟨some 7, none, .alloc 7 [.d (.str []), .d (.int .i64 0)]⟩, ⟨none, none, .store 2 (.t 7) (.t 39)⟩]) q165_1)) (.keep [5, 34, 35, 36] [18] (.tail [5, 34, 35, 36] [18] (.region [ ⟨some 48, none, .bin .add (.t 36) (.i 1)⟩, ⟨some 36, none, .mov (.t 48)⟩]))))
def q165_2 : LC := e165_2
theorem u165_2 : Unf q165_2 e165_2 := fun _ _ _ _ _ => (rfl)
def e165_3 : LC :=
  .seq (.seq (.region [ ⟨some 33, none, .fieldA 4 (.t 1)⟩, ⟨some 34, none, .load none (.t 33)⟩, ⟨some 35, none, .lenL (.t 34)⟩, ⟨some 36, none, .mov (.i 0)⟩]) (.block 0 (.keep [5, 34, 35, 36] [18] (.loop (.seq (.region [ ⟨some 37, none, .bin .lss (.t 36) (.t 35)⟩]) (.seq (.cond (.t 37) .skip (.exit 0)) q165_2)))))) (.seq (.region [ ⟨some 49, none, .mov (.t 5)⟩, ⟨some 50, none, .call 28 [.t 49, .s [32]]⟩, ⟨some 2, none, .mov (.t 50)⟩, ⟨some 3, none, .mov (.i 0)⟩]) .ret)
def q165_3 : LC := e165_3
theorem u165_3 : Unf q165_3 e165_3 := fun _ _ _ _ _ => (rfl)
def e165_4 : LC :=
  .seq (.draw [0, 0, 2, 6, 0, 16, 62, 126, 255, 511] [ ⟨some 24, none, .mov (.t 5)⟩, ⟨some 25, none, .fieldA 2 (.t 1)⟩, ⟨some 26, none, .load none (.t 25)⟩, ⟨some 27, none, .call 211 [.t 26]⟩, ⟨some 28, none, .fieldA 3 (.t 1)⟩, ⟨some 29, none, .load none (.t 28)⟩, ⟨some 30, none, .call 210 [.t 27, .t 29]⟩, ⟨some 31, none, .buildS 31 9 1 1 [(0, 1, .t 30)]⟩, ⟨some 32, none, .append 9 1 (.t 24) (.t 31)⟩, ⟨some 5, none, .mov (.t 32)⟩]) q165_3
def q165_4 : LC := e165_4
theorem u165_4 : Unf q165_4 e165_4 := fun _ _ _ _ _ => (rfl)
def e165_5 : LC :=
  .seq (.draw [0, 0, 2, 7, 15, 31, 63] [ ⟨some 13, none, .call 158 []⟩, ⟨some 14, none, .fieldA 0 (.t 1)⟩, ⟨some 15, none, .load none (.t 14)⟩, ⟨some 16, none, .idx 9 6 (some 6) (.t 13) (.t 15)⟩, ⟨some 17, none, .field 0 none (.t 16)⟩, ⟨some 18, none, .buildS 18 9 1 1 [(0, 1, .t 17)]⟩, ⟨some 5, none, .mov (.t 18)⟩]) (.seq (.seq (.region [ ⟨some 19, none, .fieldA 1 (.t 1)⟩, ⟨some 20, none, .load none (.t 19)⟩]) (.cond (.t 20) (.region [ ⟨some 21, none, .mov (.t 5)⟩, ⟨some 22, none, .buildS 22 9 1 1 [(0, 1, .s [100, 105, 115, 99])]⟩, ⟨some 23, none, .append 9 1 (.t 21) (.t 22)⟩, ⟨some 5, none, .mov (.t 23)⟩]) .skip)) q165_4)
def q165_5 : LC := e165_5
theorem u165_5 : Unf q165_5 e165_5 := fun _ _ _ _ _ => (rfl)
def e165_6 : LC :=
  .seq (.seq (.region [ ⟨some 8, none, .load (some 5) (.t 1)⟩, ⟨some 9, none, .call 166 [.t 8]⟩, ⟨some 4, none, .mov (.t 9)⟩]) (.seq (.region [ ⟨some 10, none, .mov (.t 4)⟩, ⟨some 11, none, .bin .neq (.t 10) (.i 0)⟩]) (.cond (.t 11) (.seq (.region [ ⟨some 12, none, .mov (.t 4)⟩, ⟨some 2, none, .mov (.s [])⟩, ⟨some 3, none, .mov (.t 12)⟩]) .ret) .skip))) q165_5
def q165_6 : LC := e165_6
theorem u165_6 : Unf q165_6 e165_6 := fun _ _ _ _ _ => (rfl)
def d_frame_Text : LC :=
  .seq (.region [ ⟨some 1, none, .box 1 (.t 0)⟩, ⟨some 2, none, .mov (.s [])⟩, ⟨some 3, none, .mov (.i 0)⟩]) q165_6
def c_frame_Text : LC := d_frame_Text
theorem w_frame_Text : Unf c_frame_Text d_frame_Text := fun _ _ _ _ _ => (rfl)
attribute [simp] e165_1 u165_1 e165_2 u165_2 e165_3 u165_3 e165_4 u165_4 e165_5 u165_5 e165_6 u165_6 d_frame_Text w_frame_Text
theorem k_frame_Text : chkF Tryz.prog Tryz.f165 1 [(2, none), (3, none)] c_frame_Text = true := by kernel_rfl
/-- metrolab/frame.Plain -/
def e166_1 : LC :=
  .cond (.t 22) (.seq (.region [ ⟨some 2, none, .mov (.i 2)⟩]) .ret) (.seq (.region [ ⟨some 32, none, .fieldA 4 (.t 1)⟩, ⟨some 33, none, .load none (.t 32)⟩, ⟨some 34, none, .lenL (.t 33)⟩, ⟨some 35, none, .bin .gtr (.t 34) (.i 3)⟩, ⟨some 31, none, .mov (.t 35)⟩]) (.cond (.t 31) (.seq (.region [ ⟨some 2, none, .mov (.i 5)⟩]) .ret) .skip))
def q166_1 : LC := e166_1
theorem u166_1 : Unf q166_1 e166_1 := fun _ _ _ _ _ => (rfl)
def e166_2 : LC :=
  .seq (.region [ ⟨some 56, none, .fieldA 1 (.t 5)⟩, ⟨some 57, none, .load none (.t 56)⟩, ⟨some 58, none, .call 212 [.t 57]⟩, ⟨some 7, none, .mov (.t 58)⟩]) (.seq (.region [ ⟨some 59, none, .mov (.t 7)⟩, ⟨some 60, none, .bin .neq (.t 59) (.i 0)⟩]) (.cond (.t 60) (.seq (.region [ ⟨some 61, none, .mov (.t 7)⟩, ⟨some 2, none, .mov (.t 61)⟩]) .ret) .skip))
def q166_2 : LC := e166_2
theorem u166_2 : Unf q166_2 e166_2 := fun _ _ _ _ _ => (rfl)
def e166_3 : LC :=
  .seq (.seq (.region [ ⟨some 50, none, .fieldA 4 (.t 1)⟩, ⟨some 51, none, .load none (.t 50)⟩, ⟨some 52, none, .mov (.t 4)⟩, ⟨some 53, none, .slcL 2 (.t 51) none (some (.t 52))⟩, ⟨some 54, none, .fn 213 [.t 5]⟩, ⟨some 55, none, .call 169 [.t 53, .t 54]⟩]) (.cond (.t 55) (.seq (.region [ ⟨some 2, none, .mov (.i 7)⟩]) .ret) .skip)) q166_2
def q166_3 : LC := e166_3
theorem u166_3 : Unf q166_3 e166_3 := fun _ _ _ _ _ => (rfl)
def e166_4 : LC :=
  .seq (.seq (.region [ ⟨some 44, none, .fieldA 0 (.t 5)⟩, ⟨some 45, none, .load none (.t 44)⟩, ⟨some 46, none, .call 43 [.t 45]⟩, ⟨some 6, none, .mov (.t 46)⟩]) (.seq (.region [ ⟨some 47, none, .mov (.t 6)⟩, ⟨some 48, none, .bin .neq (.t 47) (.i 0)⟩]) (.cond (.t 48) (.seq (.region [ ⟨some 49, none, .mov (.t 6)⟩, ⟨some 2, none, .mov (.t 49)⟩]) .ret) .skip))) q166_3
def q166_4 : LC := e166_4
theorem u166_4 : Unf q166_4 e166_4 := fun _ _ _ _ _ => (rfl)
def e166_5 : LC :=
  .keep [1, 37, 38, 39] [1] (.seq (.block 2 (.seq (.region [ ⟨some 41, none, .mov (.t 39)⟩, ⟨some 42, none, .idxA 2 (.t 37) (.t 39)⟩, ⟨some 43, none, .load (some 2) (.t 42)⟩, ⟨some 5, none, .alloc 5 [.d (.str []), .d (.int .i64 0)]⟩, ⟨some 4, none, .mov (.t 41)⟩, ⟨none, none, .store 2 (.t 5) (.t 43)⟩]) q166_4)) (.keep [1, 37, 38, 39] [1] (.tail [1, 37, 38, 39] [1] (.region [ ⟨some 62, none, .bin .add (.t 39) (.i 1)⟩, ⟨some 39, none, .mov (.t 62)⟩]))))
def q166_5 : LC := e166_5
theorem u166_5 : Unf q166_5 e166_5 := fun _ _ _ _ _ => (rfl)
def e166_6 : LC :=
  .keep [1] [1] (.seq (.seq (.region [ ⟨some 36, none, .fieldA 4 (.t 1)⟩, ⟨some 37, none, .load none (.t 36)⟩, ⟨some 38, none, .lenL (.t 37)⟩, ⟨some 39, none, .mov (.i 0)⟩]) (.block 1 (.keep [1, 37, 38, 39] [1] (.loop (.seq (.region [ ⟨some 40, none, .bin .lss (.t 39) (.t 38)⟩]) (.seq (.cond (.t 40) .skip (.exit 1)) q166_5)))))) (.seq (.region [ ⟨some 2, none, .mov (.i 0)⟩]) .ret))
def q166_6 : LC := e166_6
theorem u166_6 : Unf q166_6 e166_6 := fun _ _ _ _ _ => (rfl)
def e166_7 : LC :=
  .seq (.block 0 (.seq (.region [ ⟨some 23, none, .fieldA 2 (.t 1)⟩, ⟨some 24, none, .load none (.t 23)⟩, ⟨some 25, none, .bin .lss (.t 24) (.i 0)⟩, ⟨some 26, none, .mov (.t 25)⟩, ⟨some 27, some (26, false), .fieldA 2 (.t 1)⟩, ⟨some 28, some (26, false), .load none (.t 27)⟩, ⟨some 29, some (26, false), .bin .gtr (.t 28) (.i 100000)⟩, ⟨some 30, none, .pick (.t 26) (.b true) (.t 29)⟩, ⟨some 22, none, .mov (.t 30)⟩]) q166_1)) q166_6
def q166_7 : LC := e166_7
theorem u166_7 : Unf q166_7 e166_7 := fun _ _ _ _ _ => (rfl)
def e166_8 : LC :=
  .seq (.seq (.region [ ⟨some 16, none, .fieldA 3 (.t 1)⟩, ⟨some 17, none, .load none (.t 16)⟩, ⟨some 18, none, .call 212 [.t 17]⟩, ⟨some 3, none, .mov (.t 18)⟩]) (.seq (.region [ ⟨some 19, none, .mov (.t 3)⟩, ⟨some 20, none, .bin .neq (.t 19) (.i 0)⟩]) (.cond (.t 20) (.seq (.region [ ⟨some 21, none, .mov (.t 3)⟩, ⟨some 2, none, .mov (.t 21)⟩]) .ret) .skip))) q166_7
def q166_8 : LC := e166_8
theorem u166_8 : Unf q166_8 e166_8 := fun _ _ _ _ _ => (rfl)
def e166_9 : LC :=
  .seq (.seq (.region [ ⟨some 8, none, .fieldA 0 (.t 1)⟩, ⟨some 9, none, .load none (.t 8)⟩, ⟨some 10, none, .bin .lss (.t 9) (.i 0)⟩, ⟨some 11, none, .mov (.t 10)⟩, ⟨some 12, some (11, false), .fieldA 0 (.t 1)⟩, ⟨some 13, some (11, false), .load none (.t 12)⟩, ⟨some 14, some (11, false), .bin .geq (.t 13) (.i 9)⟩, ⟨some 15, none, .pick (.t 11) (.b true) (.t 14)⟩]) (.cond (.t 15) (.seq (.region [ ⟨some 2, none, .mov (.i 1)⟩]) .ret) .skip)) q166_8
def q166_9 : LC := e166_9
theorem u166_9 : Unf q166_9 e166_9 := fun _ _ _ _ _ => (rfl)
def d_frame_Plain : LC :=
  .seq (.region [ ⟨some 1, none, .box 1 (.t 0)⟩, ⟨some 2, none, .mov (.i 0)⟩]) q166_9
def c_frame_Plain : LC := d_frame_Plain
theorem w_frame_Plain : Unf c_frame_Plain d_frame_Plain := fun _ _ _ _ _ => (rfl)
attribute [simp] e166_1 u166_1 e166_2 u166_2 e166_3 u166_3 e166_4 u166_4 e166_5 u166_5 e166_6 u166_6 e166_7 u166_7 e166_8 u166_8 e166_9 u166_9 d_frame_Plain w_frame_Plain
theorem k_frame_Plain : chkF Tryz.prog Tryz.f166 1 [(2, none)] c_frame_Plain = true := by kernel_rfl
/-- metrolab/frame.Check.1 -/
def d_frame_Check_1 : LC :=
  .seq (.region [ ⟨some 3, none, .mov (.b false)⟩]) (.seq (.region [ ⟨some 4, none, .mov (.t 0)⟩, ⟨some 5, none, .fieldA 1 (.t 1)⟩, ⟨some 6, none, .load none (.t 5)⟩, ⟨some 7, none, .idxS (.s [108, 104, 112, 115, 98]) (.t 6)⟩, ⟨some 8, none, .call 168 [.t 4, .t 7]⟩, ⟨some 9, none, .bin .geq (.t 8) (.i 0)⟩, ⟨some 3, none, .mov (.t 9)⟩]) .ret)
def c_frame_Check_1 : LC := d_frame_Check_1
theorem w_frame_Check_1 : Unf c_frame_Check_1 d_frame_Check_1 := fun _ _ _ _ _ => (rfl)
attribute [simp] d_frame_Check_1 w_frame_Check_1
theorem k_frame_Check_1 : chkF Tryz.prog Tryz.f167 2 [(3, none)] c_frame_Check_1 = true := by kernel_rfl
/-- metrolab/frame.Check.2 -/
def d_frame_Check_2 : LC :=
  .seq (.region [ ⟨some 2, none, .box 2 (.t 0)⟩, ⟨some 3, none, .mov (.b false)⟩]) (.seq (.region [ ⟨some 4, none, .fieldA 0 (.t 2)⟩, ⟨some 5, none, .load none (.t 4)⟩, ⟨some 6, none, .fieldA 0 (.t 1)⟩, ⟨some 7, none, .load none (.t 6)⟩, ⟨some 8, none, .bin .eql (.t 5) (.t 7)⟩, ⟨some 3, none, .mov (.t 8)⟩]) .ret)
def c_frame_Check_2 : LC := d_frame_Check_2
theorem w_frame_Check_2 : Unf c_frame_Check_2 d_frame_Check_2 := fun _ _ _ _ _ => (rfl)
attribute [simp] d_frame_Check_2 w_frame_Check_2
theorem k_frame_Check_2 : chkF Tryz.prog Tryz.f170 2 [(3, none)] c_frame_Check_2 = true := by kernel_rfl
/-- metrolab/metrolabref19.Plain -/
def e201_1 : LC :=
  .seq (.seq (.region [ ⟨some 18, none, .fieldA 2 (.t 1)⟩, ⟨some 19, none, .load none (.t 18)⟩, ⟨some 20, none, .bin .lss (.t 19) (.i 0)⟩, ⟨some 21, none, .mov (.t 20)⟩, ⟨some 22, some (21, false), .fieldA 2 (.t 1)⟩, ⟨some 23, some (21, false), .load none (.t 22)⟩, ⟨some 24, some (21, false), .bin .gtr (.t 23) (.i 100000)⟩, ⟨some 25, none, .pick (.t 21) (.b true) (.t 24)⟩]) (.cond (.t 25) (.seq (.region [ ⟨some 2, none, .mov (.i 2)⟩]) .ret) .skip)) (.seq (.region [ ⟨some 26, none, .fieldA 4 (.t 1)⟩, ⟨some 27, none, .load none (.t 26)⟩, ⟨some 28, none, .call 237 [.t 27]⟩, ⟨some 2, none, .mov (.t 28)⟩]) .ret)
def q201_1 : LC := e201_1
theorem u201_1 : Unf q201_1 e201_1 := fun _ _ _ _ _ => (rfl)
def e201_2 : LC :=
  .seq (.seq (.region [ ⟨some 12, none, .fieldA 3 (.t 1)⟩, ⟨some 13, none, .load none (.t 12)⟩, ⟨some 14, none, .call 236 [.t 13]⟩, ⟨some 3, none, .mov (.t 14)⟩]) (.seq (.region [ ⟨some 15, none, .mov (.t 3)⟩, ⟨some 16, none, .bin .neq (.t 15) (.i 0)⟩]) (.cond (.t 16) (.seq (.region [ ⟨some 17, none, .mov (.t 3)⟩, ⟨some 2, none, .mov (.t 17)⟩]) .ret) .skip))) q201_1
def q201_2 : LC := e201_2
theorem u201_2 : Unf q201_2 e201_2 := fun _ _ _ _ _ => (rfl)
def e201_3 : LC :=
  .seq (.seq (.region [ ⟨some 4, none, .fieldA 0 (.t 1)⟩, ⟨some 5, none, .load none (.t 4)⟩, ⟨some 6, none, .bin .lss (.t 5) (.i 0)⟩, ⟨some 7, none, .mov (.t 6)⟩, ⟨some 8, some (7, false), .fieldA 0 (.t 1)⟩, ⟨some 9, some (7, false), .load none (.t 8)⟩, ⟨some 10, some (7, false), .bin .geq (.t 9) (.i 9)⟩, ⟨some 11, none, .pick (.t 7) (.b true) (.t 10)⟩]) (.cond (.t 11) (.seq (.region [ ⟨some 2, none, .mov (.i 1)⟩]) .ret) .skip)) q201_2
def q201_3 : LC := e201_3
theorem u201_3 : Unf q201_3 e201_3 := fun _ _ _ _ _ => (rfl)
def d_metrolabref19_Plain : LC :=
  .seq (.region [ ⟨some 1, none, .box 1 (.t 0)⟩, ⟨some 2, none, .mov (.i 0)⟩]) q201_3
def c_metrolabref19_Plain : LC := d_metrolabref19_Plain
theorem w_metrolabref19_Plain : Unf c_metrolabref19_Plain d_metrolabref19_Plain := fun _ _ _ _ _ => (rfl)
attribute [simp] e201_1 u201_1 e201_2 u201_2 e201_3 u201_3 d_metrolabref19_Plain w_metrolabref19_Plain
theorem k_metrolabref19_Plain : chkF Tryz.prog Tryz.f201 1 [(2, none)] c_metrolabref19_Plain = true := by kernel_rfl
/-- metrolab/metrolabref19.permitted -/
def e202_1 : LC :=
  .seq (.seq (.region [ ⟨some 51, none, .fieldA 4 (.t 3)⟩, ⟨some 52, none, .load none (.t 51)⟩, ⟨some 53, none, .lenL (.t 52)⟩, ⟨some 54, none, .fieldA 3 (.t 5)⟩, ⟨some 55, none, .load none (.t 54)⟩, ⟨some 56, none, .bin .gtr (.t 53) (.t 55)⟩]) (.cond (.t 56) (.seq (.region [ ⟨some 4, none, .mov (.i 5)⟩]) .ret) .skip)) (.seq (.region [ ⟨some 4, none, .mov (.i 0)⟩]) .ret)
def q202_1 : LC := e202_1
theorem u202_1 : Unf q202_1 e202_1 := fun _ _ _ _ _ => (rfl)
def e202_2 : LC :=
  .seq (.seq (.region [ ⟨some 45, none, .fieldA 4 (.t 3)⟩, ⟨some 46, none, .load none (.t 45)⟩, ⟨some 47, none, .lenL (.t 46)⟩, ⟨some 48, none, .fieldA 2 (.t 5)⟩, ⟨some 49, none, .load none (.t 48)⟩, ⟨some 50, none, .bin .lss (.t 47) (.t 49)⟩]) (.cond (.t 50) (.seq (.region [ ⟨some 4, none, .mov (.i 13)⟩]) .ret) .skip)) q202_1
def q202_2 : LC := e202_2
theorem u202_2 : Unf q202_2 e202_2 := fun _ _ _ _ _ => (rfl)
def e202_3 : LC :=
  .seq (.seq (.region [ ⟨some 35, none, .fieldA 3 (.t 3)⟩, ⟨some 36, none, .load none (.t 35)⟩, ⟨some 37, none, .bin .neq (.t 36) (.i 0)⟩, ⟨some 38, none, .mov (.t 37)⟩, ⟨some 39, some (38, true), .load (some 9) (.t 2)⟩, ⟨some 40, some (38, true), .fieldA 0 (.t 3)⟩, ⟨some 41, some (38, true), .load none (.t 40)⟩, ⟨some 42, some (38, true), .call 240 [.t 39, .t 41]⟩, ⟨some 43, some (38, true), .not (.t 42)⟩, ⟨some 44, none, .pick (.t 38) (.t 43) (.b false)⟩]) (.cond (.t 44) (.seq (.region [ ⟨some 4, none, .mov (.i 3)⟩]) .ret) .skip)) q202_2
def q202_3 : LC := e202_3
theorem u202_3 : Unf q202_3 e202_3 := fun _ _ _ _ _ => (rfl)
def e202_4 : LC :=
  .seq (.seq (.region [ ⟨some 27, none, .fieldA 2 (.t 3)⟩, ⟨some 28, none, .load none (.t 27)⟩, ⟨some 29, none, .bin .eql (.t 28) (.i 0)⟩, ⟨some 30, none, .mov (.t 29)⟩, ⟨some 31, some (30, true), .fieldA 3 (.t 3)⟩, ⟨some 32, some (30, true), .load none (.t 31)⟩, ⟨some 33, some (30, true), .bin .neq (.t 32) (.i 1)⟩, ⟨some 34, none, .pick (.t 30) (.t 33) (.b false)⟩]) (.cond (.t 34) (.seq (.region [ ⟨some 4, none, .mov (.i 10)⟩]) .ret) .skip)) q202_3
def q202_4 : LC := e202_4
theorem u202_4 : Unf q202_4 e202_4 := fun _ _ _ _ _ => (rfl)
def e202_5 : LC :=
  .seq (.seq (.region [ ⟨some 17, none, .fieldA 1 (.t 3)⟩, ⟨some 18, none, .load none (.t 17)⟩, ⟨some 19, none, .mov (.t 18)⟩, ⟨some 20, some (19, true), .fieldA 4 (.t 5)⟩, ⟨some 21, some (19, true), .load none (.t 20)⟩, ⟨some 22, some (19, true), .fieldA 1 (.t 2)⟩, ⟨some 23, some (19, true), .load none (.t 22)⟩, ⟨some 24, some (19, true), .call 239 [.t 21, .t 23]⟩, ⟨some 25, some (19, true), .not (.t 24)⟩, ⟨some 26, none, .pick (.t 19) (.t 25) (.b false)⟩]) (.cond (.t 26) (.seq (.region [ ⟨some 4, none, .mov (.i 3)⟩]) .ret) .skip)) q202_4
def q202_5 : LC := e202_5
theorem u202_5 : Unf q202_5 e202_5 := fun _ _ _ _ _ => (rfl)
def e202_6 : LC :=
  .seq (.seq (.region [ ⟨some 11, none, .fieldA 1 (.t 5)⟩, ⟨some 12, none, .load none (.t 11)⟩, ⟨some 13, none, .fieldA 1 (.t 2)⟩, ⟨some 14, none, .load none (.t 13)⟩, ⟨some 15, none, .call 239 [.t 12, .t 14]⟩, ⟨some 16, none, .not (.t 15)⟩]) (.cond (.t 16) (.seq (.region [ ⟨some 4, none, .mov (.i 14)⟩]) .ret) .skip)) q202_5
def q202_6 : LC := e202_6
theorem u202_6 : Unf q202_6 e202_6 := fun _ _ _ _ _ => (rfl)
def e202_7 : LC :=
  .seq (.draw [0, 0, 2, 7, 15, 0, 63] [ ⟨some 6, none, .call 238 []⟩, ⟨some 7, none, .fieldA 0 (.t 3)⟩, ⟨some 8, none, .load none (.t 7)⟩, ⟨some 9, none, .idxA 5 (.t 6) (.t 8)⟩, ⟨some 10, none, .load (some 5) (.t 9)⟩, ⟨some 5, none, .alloc 5 [.d (.str []), .d (.str []), .d (.int .i64 0), .d (.int .i64 0), .d (.str [])]⟩, ⟨none, none, .store 5 (.t 5) (.t 10)⟩]) q202_6
def q202_7 : LC := e202_7
theorem u202_7 : Unf q202_7 e202_7 := fun _ _ _ _ _ => (rfl)
def d_metrolabref19_permitted : LC :=
  .seq (.region [ ⟨some 2, none, .box 2 (.t 0)⟩, ⟨some 3, none, .box 3 (.t 1)⟩, ⟨some 4, none, .mov (.i 0)⟩]) q202_7
def c_metrolabref19_permitted : LC := d_metrolabref19_permitted
theorem w_metrolabref19_permitted : Unf c_metrolabref19_permitted d_metrolabref19_permitted := fun _ _ _ _ _ => (rfl)
attribute [simp] e202_1 u202_1 e202_2 u202_2 e202_3 u202_3 e202_4 u202_4 e202_5 u202_5 e202_6 u202_6 e202_7 u202_7 d_metrolabref19_permitted w_metrolabref19_permitted
theorem k_metrolabref19_permitted : chkF Tryz.prog Tryz.f202 2 [(4, none)] c_metrolabref19_permitted = true := by kernel_rfl
/-- metrolab/frame.marked -/
def d_frame_marked : LC :=
  .seq (.region [ ⟨some 4, none, .mov (.s [])⟩]) (.seq (.region [ ⟨some 5, none, .mov (.t 0)⟩, ⟨some 6, none, .build [.d (.str []), .d (.str []), .d (.str [])] [(0, 1, .s []), (1, 1, .s [40, 77, 41]), (2, 1, .s [40, 76, 41])]⟩, ⟨some 7, none, .mov (.t 1)⟩, ⟨some 8, none, .idx 3 1 none (.t 6) (.t 7)⟩, ⟨some 9, none, .bin .add (.t 5) (.t 8)⟩, ⟨some 4, none, .mov (.t 9)⟩]) .ret)
def c_frame_marked : LC := d_frame_marked
theorem w_frame_marked : Unf c_frame_marked d_frame_marked := fun _ _ _ _ _ => (rfl)
attribute [simp] d_frame_marked w_frame_marked
theorem k_frame_marked : chkF Tryz.prog Tryz.f210 2 [(4, none)] c_frame_marked = true := by kernel_rfl
/-- metrolab/frame.condition -/
def e212_1 : LC :=
  .seq (.seq (.region [ ⟨some 3, none, .mov (.t 0)⟩, ⟨some 4, none, .bin .lss (.t 3) (.i 0)⟩, ⟨some 5, none, .mov (.t 4)⟩, ⟨some 6, some (5, false), .mov (.t 0)⟩, ⟨some 7, some (5, false), .bin .geq (.t 6) (.i 3)⟩, ⟨some 8, none, .pick (.t 5) (.b true) (.t 7)⟩]) (.cond (.t 8) (.seq (.region [ ⟨some 2, none, .mov (.i 1)⟩]) .ret) .skip)) (.seq (.region [ ⟨some 2, none, .mov (.i 0)⟩]) .ret)
def q212_1 : LC := e212_1
theorem u212_1 : Unf q212_1 e212_1 := fun _ _ _ _ _ => (rfl)
def d_frame_condition : LC :=
  .seq (.region [ ⟨some 2, none, .mov (.i 0)⟩]) q212_1
def c_frame_condition : LC := d_frame_condition
theorem w_frame_condition : Unf c_frame_condition d_frame_condition := fun _ _ _ _ _ => (rfl)
attribute [simp] e212_1 u212_1 d_frame_condition w_frame_condition
theorem k_frame_condition : chkF Tryz.prog Tryz.f212 1 [(2, none)] c_frame_condition = true := by kernel_rfl
/-- metrolab/frame.Plain.1 -/
def d_frame_Plain_1 : LC :=
  .seq (.region [ ⟨some 2, none, .box 2 (.t 0)⟩, ⟨some 3, none, .mov (.b false)⟩]) (.seq (.region [ ⟨some 4, none, .fieldA 0 (.t 2)⟩, ⟨some 5, none, .load none (.t 4)⟩, ⟨some 6, none, .fieldA 0 (.t 1)⟩, ⟨some 7, none, .load none (.t 6)⟩, ⟨some 8, none, .bin .eql (.t 5) (.t 7)⟩, ⟨some 3, none, .mov (.t 8)⟩]) .ret)
def c_frame_Plain_1 : LC := d_frame_Plain_1
theorem w_frame_Plain_1 : Unf c_frame_Plain_1 d_frame_Plain_1 := fun _ _ _ _ _ => (rfl)
attribute [simp] d_frame_Plain_1 w_frame_Plain_1
theorem k_frame_Plain_1 : chkF Tryz.prog Tryz.f213 2 [(3, none)] c_frame_Plain_1 = true := by kernel_rfl
/-- metrolab/metrolabref19.material -/
def e236_1 : LC :=
  .seq (.seq (.region [ ⟨some 3, none, .mov (.t 0)⟩, ⟨some 4, none, .bin .lss (.t 3) (.i 0)⟩, ⟨some 5, none, .mov (.t 4)⟩, ⟨some 6, some (5, false), .mov (.t 0)⟩, ⟨some 7, some (5, false), .bin .geq (.t 6) (.i 3)⟩, ⟨some 8, none, .pick (.t 5) (.b true) (.t 7)⟩]) (.cond (.t 8) (.seq (.region [ ⟨some 2, none, .mov (.i 1)⟩]) .ret) .skip)) (.seq (.region [ ⟨some 2, none, .mov (.i 0)⟩]) .ret)
def q236_1 : LC := e236_1
theorem u236_1 : Unf q236_1 e236_1 := fun _ _ _ _ _ => (rfl)
def d_metrolabref19_material : LC :=
  .seq (.region [ ⟨some 2, none, .mov (.i 0)⟩]) q236_1
def c_metrolabref19_material : LC := d_metrolabref19_material
theorem w_metrolabref19_material : Unf c_metrolabref19_material d_metrolabref19_material := fun _ _ _ _ _ => (rfl)
attribute [simp] e236_1 u236_1 d_metrolabref19_material w_metrolabref19_material
theorem k_metrolabref19_material : chkF Tryz.prog Tryz.f236 1 [(2, none)] c_metrolabref19_material = true := by kernel_rfl
/-- metrolab/metrolabref19.datums -/
def e237_1 : LC :=
  .seq (.block 3 (.seq (.draw [0, 0, 3, 7, 15, 0, 0, 96, 224, 480, 1023] [ ⟨some 30, none, .mov (.t 0)⟩, ⟨some 31, none, .mov (.t 5)⟩, ⟨some 32, none, .idxA 2 (.t 30) (.t 31)⟩, ⟨some 33, none, .fieldA 0 (.t 32)⟩, ⟨some 34, none, .load none (.t 33)⟩, ⟨some 35, none, .mov (.t 0)⟩, ⟨some 36, none, .mov (.t 3)⟩, ⟨some 37, none, .idxA 2 (.t 35) (.t 36)⟩, ⟨some 38, none, .fieldA 0 (.t 37)⟩, ⟨some 39, none, .load none (.t 38)⟩, ⟨some 40, none, .bin .eql (.t 34) (.t 39)⟩]) (.cond (.t 40) (.seq (.region [ ⟨some 2, none, .mov (.i 7)⟩]) .ret) .skip))) (.keep [0, 3, 5] [] (.tail [0, 3, 5] [] (.region [ ⟨some 28, none, .mov (.t 5)⟩, ⟨some 29, none, .bin .add (.t 28) (.i 1)⟩, ⟨some 5, none, .mov (.t 29)⟩])))
def q237_1 : LC := e237_1
theorem u237_1 : Unf q237_1 e237_1 := fun _ _ _ _ _ => (rfl)
def e237_2 : LC :=
  .block 2 (.keep [0, 3, 5] [] (.loop (.seq (.seq (.region [ ⟨some 25, none, .mov (.t 5)⟩, ⟨some 26, none, .mov (.t 3)⟩, ⟨some 27, none, .bin .lss (.t 25) (.t 26)⟩]) (.cond (.t 27) .skip (.exit 2))) q237_1)))
def q237_2 : LC := e237_2
theorem u237_2 : Unf q237_2 e237_2 := fun _ _ _ _ _ => (rfl)
def e237_3 : LC :=
  .seq (.region [ ⟨some 41, none, .mov (.t 0)⟩, ⟨some 42, none, .mov (.t 3)⟩, ⟨some 43, none, .idxA 2 (.t 41) (.t 42)⟩, ⟨some 44, none, .fieldA 1 (.t 43)⟩, ⟨some 45, none, .load none (.t 44)⟩, ⟨some 46, none, .call 236 [.t 45]⟩, ⟨some 6, none, .mov (.t 46)⟩]) (.seq (.region [ ⟨some 47, none, .mov (.t 6)⟩, ⟨some 48, none, .bin .neq (.t 47) (.i 0)⟩]) (.cond (.t 48) (.seq (.region [ ⟨some 49, none, .mov (.t 6)⟩, ⟨some 2, none, .mov (.t 49)⟩]) .ret) .skip))
def q237_3 : LC := e237_3
theorem u237_3 : Unf q237_3 e237_3 := fun _ _ _ _ _ => (rfl)
def e237_4 : LC :=
  .seq (.block 1 (.seq (.seq (.region [ ⟨some 16, none, .mov (.t 0)⟩, ⟨some 17, none, .mov (.t 3)⟩, ⟨some 18, none, .idxA 2 (.t 16) (.t 17)⟩, ⟨some 19, none, .fieldA 0 (.t 18)⟩, ⟨some 20, none, .load none (.t 19)⟩, ⟨some 21, none, .call 47 [.t 20]⟩, ⟨some 4, none, .mov (.t 21)⟩]) (.seq (.region [ ⟨some 22, none, .mov (.t 4)⟩, ⟨some 23, none, .bin .neq (.t 22) (.i 0)⟩]) (.cond (.t 23) (.seq (.region [ ⟨some 24, none, .mov (.t 4)⟩, ⟨some 2, none, .mov (.t 24)⟩]) .ret) .skip))) (.seq (.seq (.region [ ⟨some 5, none, .mov (.i 0)⟩]) q237_2) q237_3))) (.keep [0, 3] [] (.tail [0, 3] [] (.region [ ⟨some 14, none, .mov (.t 3)⟩, ⟨some 15, none, .bin .add (.t 14) (.i 1)⟩, ⟨some 3, none, .mov (.t 15)⟩])))
def q237_4 : LC := e237_4
theorem u237_4 : Unf q237_4 e237_4 := fun _ _ _ _ _ => (rfl)
def e237_5 : LC :=
  .seq (.seq (.region [ ⟨some 3, none, .mov (.i 0)⟩]) (.block 0 (.keep [0, 3] [] (.loop (.seq (.seq (.region [ ⟨some 10, none, .mov (.t 3)⟩, ⟨some 11, none, .mov (.t 0)⟩, ⟨some 12, none, .lenL (.t 11)⟩, ⟨some 13, none, .bin .lss (.t 10) (.t 12)⟩]) (.cond (.t 13) .skip (.exit 0))) q237_4))))) (.seq (.region [ ⟨some 2, none, .mov (.i 0)⟩]) .ret)
def q237_5 : LC := e237_5
theorem u237_5 : Unf q237_5 e237_5 := fun _ _ _ _ _ => (rfl)
def d_metrolabref19_datums : LC :=
  .seq (.region [ ⟨some 2, none, .mov (.i 0)⟩]) (.seq (.seq (.region [ ⟨some 7, none, .mov (.t 0)⟩, ⟨some 8, none, .lenL (.t 7)⟩, ⟨some 9, none, .bin .gtr (.t 8) (.i 3)⟩]) (.cond (.t 9) (.seq (.region [ ⟨some 2, none, .mov (.i 5)⟩]) .ret) .skip)) q237_5)
def c_metrolabref19_datums : LC := d_metrolabref19_datums
theorem w_metrolabref19_datums : Unf c_metrolabref19_datums d_metrolabref19_datums := fun _ _ _ _ _ => (rfl)
attribute [simp] e237_1 u237_1 e237_2 u237_2 e237_3 u237_3 e237_4 u237_4 e237_5 u237_5 d_metrolabref19_datums w_metrolabref19_datums
theorem k_metrolabref19_datums : chkF Tryz.prog Tryz.f237 1 [(2, none)] c_metrolabref19_datums = true := by kernel_rfl
/-- metrolab/metrolabref19.Rows -/
def e238_1 : LC :=
  .lift 0 (.seq (.region [ ⟨some 1, none, .build [.d (.str []), .d (.str []), .d (.int .i64 0), .d (.int .i64 0), .d (.str [])] [(0, 1, .s [115, 116, 114, 97, 105, 103, 104, 116]), (1, 1, .s [72, 73]), (2, 1, .i 0), (3, 1, .i 0), (4, 1, .s [72, 73])]⟩, ⟨some 2, none, .build [.d (.str []), .d (.str []), .d (.int .i64 0), .d (.int .i64 0), .d (.str [])] [(0, 1, .s [102, 108, 97, 116]), (1, 1, .s [80, 83]), (2, 1, .i 0), (3, 1, .i 0), (4, 1, .s [])]⟩, ⟨some 3, none, .build [.d (.str []), .d (.str []), .d (.int .i64 0), .d (.int .i64 0), .d (.str [])] [(0, 1, .s [112, 97, 114, 97, 108, 108, 101, 108]), (1, 1, .s [80, 72, 73, 83]), (2, 1, .i 1), (3, 1, .i 2), (4, 1, .s [72, 73])]⟩, ⟨some 4, none, .build [.d (.str []), .d (.str []), .d (.int .i64 0), .d (.int .i64 0), .d (.str [])] [(0, 1, .s [115, 113, 117, 97, 114, 101]), (1, 1, .s [80, 72, 73, 83]), (2, 1, .i 1), (3, 1, .i 2), (4, 1, .s [72, 73])]⟩, ⟨some 5, none, .build [.d (.str []), .d (.str []), .d (.int .i64 0), .d (.int .i64 0), .d (.str [])] [(0, 1, .s [114, 111, 117, 110, 100]), (1, 1, .s [72, 73, 66]), (2, 1, .i 0), (3, 1, .i 0), (4, 1, .s [])]⟩, ⟨some 6, none, .build [.d (.str []), .d (.str []), .d (.int .i64 0), .d (.int .i64 0), .d (.str [])] [(0, 1, .s [115, 112, 104, 101, 114, 101]), (1, 1, .s [66]), (2, 1, .i 0), (3, 1, .i 0), (4, 1, .s [])]⟩, ⟨some 7, none, .build [.d (.str []), .d (.str []), .d (.int .i64 0), .d (.int .i64 0), .d (.str [])] [(0, 1, .s [112, 114, 111, 102, 105, 108, 101]), (1, 1, .s [80]), (2, 1, .i 0), (3, 1, .i 3), (4, 1, .s [])]⟩, ⟨some 8, none, .build [.d (.str []), .d (.str []), .d (.int .i64 0), .d (.int .i64 0), .d (.str [])] [(0, 1, .s [114, 117, 110, 111, 117, 116]), (1, 1, .s [80, 72, 73]), (2, 1, .i 1), (3, 1, .i 1), (4, 1, .s [])]⟩, ⟨some 9, none, .build [.d (.str []), .d (.str []), .d (.int .i64 0), .d (.int .i64 0), .d (.str [])] [(0, 1, .s [112, 111, 115, 105, 116, 105, 111, 110]), (1, 1, .s [80, 72, 73, 83, 66]), (2, 1, .i 0), (3, 1, .i 3), (4, 1, .s [72, 73, 66])]⟩, ⟨some 10, none, .buildS 10 255 5 9 [(0, 5, .t 1), (5, 5, .t 2), (10, 5, .t 3), (15, 5, .t 4), (20, 5, .t 5), (25, 5, .t 6), (30, 5, .t 7), (35, 5, .t 8), (40, 5, .t 9)]⟩, ⟨some 0, none, .mov (.t 10)⟩]) (.lift 0 .ret))
def q238_1 : LC := e238_1
theorem u238_1 : Unf q238_1 e238_1 := fun _ _ _ _ _ => (rfl)
def d_metrolabref19_Rows : LC :=
  .seq (.region [ ⟨some 0, none, .mov (.c (.at (.nils)))⟩]) q238_1
def c_metrolabref19_Rows : LC := d_metrolabref19_Rows
theorem w_metrolabref19_Rows : Unf c_metrolabref19_Rows d_metrolabref19_Rows := fun _ _ _ _ _ => (rfl)
attribute [simp] e238_1 u238_1 d_metrolabref19_Rows w_metrolabref19_Rows
theorem k_metrolabref19_Rows : chkF Tryz.prog Tryz.f238 0 [(0, none)] c_metrolabref19_Rows = true := by kernel_rfl
/-- metrolab/metrolabref19.has -/
def e239_1 : LC :=
  .seq (.block 1 (.seq (.draw [0, 0, 3, 0, 8, 31] [ ⟨some 12, none, .mov (.t 0)⟩, ⟨some 13, none, .mov (.t 5)⟩, ⟨some 14, none, .idxS (.t 12) (.t 13)⟩, ⟨some 15, none, .mov (.t 1)⟩, ⟨some 16, none, .idxS (.s [80, 72, 73, 83, 66]) (.t 15)⟩, ⟨some 17, none, .bin .eql (.t 14) (.t 16)⟩]) (.cond (.t 17) (.seq (.region [ ⟨some 4, none, .mov (.b true)⟩]) .ret) .skip))) (.keep [0, 1, 5] [] (.tail [0, 1, 5] [] (.region [ ⟨some 10, none, .mov (.t 5)⟩, ⟨some 11, none, .bin .add (.t 10) (.i 1)⟩, ⟨some 5, none, .mov (.t 11)⟩])))
def q239_1 : LC := e239_1
theorem u239_1 : Unf q239_1 e239_1 := fun _ _ _ _ _ => (rfl)
def e239_2 : LC :=
  .seq (.seq (.region [ ⟨some 5, none, .mov (.i 0)⟩]) (.block 0 (.keep [0, 1, 5] [] (.loop (.seq (.seq (.region [ ⟨some 6, none, .mov (.t 5)⟩, ⟨some 7, none, .mov (.t 0)⟩, ⟨some 8, none, .lenS (.t 7)⟩, ⟨some 9, none, .bin .lss (.t 6) (.t 8)⟩]) (.cond (.t 9) .skip (.exit 0))) q239_1))))) (.seq (.region [ ⟨some 4, none, .mov (.b false)⟩]) .ret)
def q239_2 : LC := e239_2
theorem u239_2 : Unf q239_2 e239_2 := fun _ _ _ _ _ => (rfl)
def d_metrolabref19_has : LC :=
  .seq (.region [ ⟨some 4, none, .mov (.b false)⟩]) q239_2
def c_metrolabref19_has : LC := d_metrolabref19_has
theorem w_metrolabref19_has : Unf c_metrolabref19_has d_metrolabref19_has := fun _ _ _ _ _ => (rfl)
attribute [simp] e239_1 u239_1 e239_2 u239_2 d_metrolabref19_has w_metrolabref19_has
theorem k_metrolabref19_has : chkF Tryz.prog Tryz.f239 2 [(4, none)] c_metrolabref19_has = true := by kernel_rfl
/-- metrolab/metrolabref19.mayMaterial -/
def e240_1 : LC :=
  .seq (.region [ ⟨some 5, none, .fieldA 1 (.t 2)⟩, ⟨some 6, none, .load none (.t 5)⟩, ⟨some 7, none, .bin .neq (.t 6) (.i 0)⟩, ⟨some 8, none, .mov (.t 7)⟩, ⟨some 9, some (8, true), .mov (.t 1)⟩, ⟨some 10, some (8, true), .bin .eql (.t 9) (.i 0)⟩, ⟨some 11, some (8, true), .mov (.t 10)⟩, ⟨some 12, some (11, false), .mov (.t 1)⟩, ⟨some 13, some (11, false), .bin .eql (.t 12) (.i 2)⟩, ⟨some 14, some (8, true), .pick (.t 11) (.b true) (.t 13)⟩, ⟨some 15, some (8, true), .mov (.t 14)⟩, ⟨some 16, some (15, false), .mov (.t 1)⟩, ⟨some 17, some (15, false), .bin .eql (.t 16) (.i 3)⟩, ⟨some 18, some (8, true), .pick (.t 15) (.b true) (.t 17)⟩, ⟨some 19, some (8, true), .mov (.t 18)⟩, ⟨some 20, some (19, false), .mov (.t 1)⟩, ⟨some 21, some (19, false), .bin .eql (.t 20) (.i 8)⟩, ⟨some 22, some (8, true), .pick (.t 19) (.b true) (.t 21)⟩, ⟨some 23, none, .pick (.t 8) (.t 22) (.b false)⟩, ⟨some 4, none, .mov (.t 23)⟩]) .ret
def q240_1 : LC := e240_1
theorem u240_1 : Unf q240_1 e240_1 := fun _ _ _ _ _ => (rfl)
def d_metrolabref19_mayMaterial : LC :=
  .seq (.region [ ⟨some 2, none, .box 2 (.t 0)⟩, ⟨some 4, none, .mov (.b false)⟩]) q240_1
def c_metrolabref19_mayMaterial : LC := d_metrolabref19_mayMaterial
theorem w_metrolabref19_mayMaterial : Unf c_metrolabref19_mayMaterial d_metrolabref19_mayMaterial := fun _ _ _ _ _ => (rfl)
attribute [simp] e240_1 u240_1 d_metrolabref19_mayMaterial w_metrolabref19_mayMaterial
theorem k_metrolabref19_mayMaterial : chkF Tryz.prog Tryz.f240 2 [(4, none)] c_metrolabref19_mayMaterial = true := by kernel_rfl
/-- metrolab/metrolablaw20.DrawingChecks -/
def e3_1 : LC :=
  .seq (.draw [0, 1, 3, 7, 3, 31, 63, 127, 255, 511, 511, 2047, 4095, 8191, 16383, 16383, 65535, 131071, 262143] [ ⟨some 21, none, .call 10 []⟩, ⟨some 22, none, .mov (.t 21)⟩, ⟨some 23, some (22, true), .load (some 3) (.t 1)⟩, ⟨some 24, some (22, true), .call 13 [.t 23]⟩, ⟨some 25, some (22, true), .load (some 3) (.t 1)⟩, ⟨some 26, some (22, true), .call 14 [.t 25]⟩, ⟨some 27, some (22, true), .bin .eql (.t 24) (.t 26)⟩, ⟨some 28, none, .pick (.t 22) (.t 27) (.b false)⟩, ⟨some 29, none, .mov (.t 28)⟩, ⟨some 30, some (29, true), .mov (.t 3)⟩, ⟨some 31, some (29, true), .mov (.t 5)⟩, ⟨some 32, some (29, true), .call 15 [.t 30, .t 31]⟩, ⟨some 33, none, .pick (.t 29) (.t 32) (.b false)⟩, ⟨some 34, none, .mov (.t 33)⟩, ⟨some 35, some (34, true), .mov (.t 4)⟩, ⟨some 36, some (34, true), .mov (.t 6)⟩, ⟨some 37, some (34, true), .bin .eql (.t 35) (.t 36)⟩, ⟨some 38, none, .pick (.t 34) (.t 37) (.b false)⟩, ⟨some 2, none, .mov (.t 38)⟩]) .ret
def q3_1 : LC := e3_1
theorem u3_1 : Unf q3_1 e3_1 := fun _ _ _ _ _ => (rfl)
def e3_2 : LC :=
  .seq (.region [ ⟨some 12, none, .load (some 3) (.t 1)⟩, ⟨some 13, none, .call 11 [.t 12]⟩, ⟨some 11, none, .mov (.t 13)⟩, ⟨some 14, none, .ext (.t 11) 0⟩, ⟨some 15, none, .ext (.t 11) 1⟩, ⟨some 3, none, .mov (.t 14)⟩, ⟨some 4, none, .mov (.t 15)⟩]) (.seq (.region [ ⟨some 17, none, .load (some 3) (.t 1)⟩, ⟨some 18, none, .call 12 [.t 17]⟩, ⟨some 16, none, .mov (.t 18)⟩, ⟨some 19, none, .ext (.t 16) 0⟩, ⟨some 20, none, .ext (.t 16) 1⟩, ⟨some 5, none, .mov (.t 19)⟩, ⟨some 6, none, .mov (.t 20)⟩]) q3_1)
def q3_2 : LC := e3_2
theorem u3_2 : Unf q3_2 e3_2 := fun _ _ _ _ _ => (rfl)
def d_metrolablaw20_DrawingChecks : LC :=
  .seq (.region [ ⟨some 1, none, .box 1 (.t 0)⟩, ⟨some 2, none, .mov (.b false)⟩]) (.seq (.seq (.region [ ⟨some 7, none, .load (some 3) (.t 1)⟩, ⟨some 8, none, .call 9 [.t 7]⟩, ⟨some 9, none, .not (.t 8)⟩]) (.cond (.t 9) (.seq (.region [ ⟨some 10, none, .call 10 []⟩, ⟨some 2, none, .mov (.t 10)⟩]) .ret) .skip)) q3_2)
def c_metrolablaw20_DrawingChecks : LC := d_metrolablaw20_DrawingChecks
theorem w_metrolablaw20_DrawingChecks : Unf c_metrolablaw20_DrawingChecks d_metrolablaw20_DrawingChecks := fun _ _ _ _ _ => (rfl)
attribute [simp] e3_1 u3_1 e3_2 u3_2 d_metrolablaw20_DrawingChecks w_metrolablaw20_DrawingChecks
theorem k_metrolablaw20_DrawingChecks : chkF Tryz.prog Tryz.f3 1 [(2, none)] c_metrolablaw20_DrawingChecks = true := by kernel_rfl
/-- metrolab/metrolablaw20.DrawingDepends -/
def e5_1 : LC :=
  .seq (.region [ ⟨some 79, none, .mov (.t 7)⟩, ⟨some 80, none, .mov (.t 14)⟩, ⟨some 81, none, .call 22 [.t 79, .t 80]⟩, ⟨some 82, none, .not (.t 81)⟩]) (.cond (.t 82) (.seq (.region [ ⟨some 2, none, .mov (.b false)⟩]) .ret) .skip)
def q5_1 : LC := e5_1
theorem u5_1 : Unf q5_1 e5_1 := fun _ _ _ _ _ => (rfl)
def e5_2 : LC :=
  .keep [1, 3, 7, 27, 28, 29, 53, 54, 55, 73, 74, 75] [1] (.seq (.block 5 (.seq (.region [ ⟨some 77, none, .idxA 1 (.t 73) (.t 75)⟩, ⟨some 78, none, .load none (.t 77)⟩, ⟨some 14, none, .mov (.t 78)⟩]) q5_1)) (.keep [1, 3, 7, 27, 28, 29, 53, 54, 55, 73, 74, 75] [1] (.tail [1, 3, 7, 27, 28, 29, 53, 54, 55, 73, 74, 75] [1] (.region [ ⟨some 83, none, .bin .add (.t 75) (.i 1)⟩, ⟨some 75, none, .mov (.t 83)⟩]))))
def q5_2 : LC := e5_2
theorem u5_2 : Unf q5_2 e5_2 := fun _ _ _ _ _ => (rfl)
def e5_3 : LC :=
  .seq (.region [ ⟨some 73, none, .mov (.t 11)⟩, ⟨some 74, none, .lenL (.t 73)⟩, ⟨some 75, none, .mov (.i 0)⟩]) (.block 4 (.keep [1, 3, 7, 27, 28, 29, 53, 54, 55, 73, 74, 75] [1] (.loop (.seq (.region [ ⟨some 76, none, .bin .lss (.t 75) (.t 74)⟩]) (.seq (.cond (.t 76) .skip (.exit 4)) q5_2)))))
def q5_3 : LC := e5_3
theorem u5_3 : Unf q5_3 e5_3 := fun _ _ _ _ _ => (rfl)
def e5_4 : LC :=
  .seq (.seq (.region [ ⟨some 65, none, .mov (.t 12)⟩, ⟨some 66, none, .bin .neq (.t 65) (.i 0)⟩, ⟨some 67, none, .mov (.t 66)⟩, ⟨some 68, some (67, false), .mov (.t 3)⟩, ⟨some 69, some (67, false), .mov (.t 10)⟩, ⟨some 70, some (67, false), .call 22 [.t 68, .t 69]⟩, ⟨some 71, some (67, false), .not (.t 70)⟩, ⟨some 72, none, .pick (.t 67) (.b true) (.t 71)⟩]) (.cond (.t 72) (.seq (.region [ ⟨some 2, none, .mov (.b false)⟩]) .ret) .skip)) q5_3
def q5_4 : LC := e5_4
theorem u5_4 : Unf q5_4 e5_4 := fun _ _ _ _ _ => (rfl)
def e5_5 : LC :=
  .seq (.region [ ⟨some 60, none, .load (some 3) (.t 1)⟩, ⟨some 61, none, .mov (.t 10)⟩, ⟨some 62, none, .call 21 [.t 60, .t 61]⟩, ⟨some 59, none, .mov (.t 62)⟩, ⟨some 63, none, .ext (.t 59) 0⟩, ⟨some 64, none, .ext (.t 59) 1⟩, ⟨some 11, none, .mov (.t 63)⟩, ⟨some 12, none, .mov (.t 64)⟩]) q5_4
def q5_5 : LC := e5_5
theorem u5_5 : Unf q5_5 e5_5 := fun _ _ _ _ _ => (rfl)
def e5_6 : LC :=
  .keep [1, 3, 7, 27, 28, 29, 53, 54, 55] [1] (.seq (.block 3 (.seq (.region [ ⟨some 57, none, .idxA 1 (.t 53) (.t 55)⟩, ⟨some 58, none, .load none (.t 57)⟩, ⟨some 10, none, .mov (.t 58)⟩]) q5_5)) (.keep [1, 3, 7, 27, 28, 29, 53, 54, 55] [1] (.tail [1, 3, 7, 27, 28, 29, 53, 54, 55] [1] (.region [ ⟨some 84, none, .bin .add (.t 55) (.i 1)⟩, ⟨some 55, none, .mov (.t 84)⟩]))))
def q5_6 : LC := e5_6
theorem u5_6 : Unf q5_6 e5_6 := fun _ _ _ _ _ => (rfl)
def e5_7 : LC :=
  .seq (.region [ ⟨some 53, none, .mov (.t 7)⟩, ⟨some 54, none, .lenL (.t 53)⟩, ⟨some 55, none, .mov (.i 0)⟩]) (.block 2 (.keep [1, 3, 7, 27, 28, 29, 53, 54, 55] [1] (.loop (.seq (.region [ ⟨some 56, none, .bin .lss (.t 55) (.t 54)⟩]) (.seq (.cond (.t 56) .skip (.exit 2)) q5_6)))))
def q5_7 : LC := e5_7
theorem u5_7 : Unf q5_7 e5_7 := fun _ _ _ _ _ => (rfl)
def e5_8 : LC :=
  .seq (.seq (.region [ ⟨some 40, none, .mov (.t 8)⟩, ⟨some 41, none, .bin .neq (.t 40) (.i 0)⟩, ⟨some 42, none, .mov (.t 41)⟩, ⟨some 43, some (42, false), .mov (.t 7)⟩, ⟨some 44, some (42, false), .fieldA 0 (.t 6)⟩, ⟨some 45, some (42, false), .load none (.t 44)⟩, ⟨some 46, some (42, false), .call 22 [.t 43, .t 45]⟩, ⟨some 47, none, .pick (.t 42) (.b true) (.t 46)⟩, ⟨some 48, none, .mov (.t 47)⟩, ⟨some 49, some (48, false), .mov (.t 7)⟩, ⟨some 50, some (48, false), .call 23 [.t 49]⟩, ⟨some 51, some (48, false), .not (.t 50)⟩, ⟨some 52, none, .pick (.t 48) (.b true) (.t 51)⟩]) (.cond (.t 52) (.seq (.region [ ⟨some 2, none, .mov (.b false)⟩]) .ret) .skip)) q5_7
def q5_8 : LC := e5_8
theorem u5_8 : Unf q5_8 e5_8 := fun _ _ _ _ _ => (rfl)
def e5_9 : LC :=
  .seq (.region [ ⟨some 34, none, .load (some 3) (.t 1)⟩, ⟨some 35, none, .fieldA 0 (.t 6)⟩, ⟨some 36, none, .load none (.t 35)⟩, ⟨some 37, none, .call 21 [.t 34, .t 36]⟩, ⟨some 33, none, .mov (.t 37)⟩, ⟨some 38, none, .ext (.t 33) 0⟩, ⟨some 39, none, .ext (.t 33) 1⟩, ⟨some 7, none, .mov (.t 38)⟩, ⟨some 8, none, .mov (.t 39)⟩]) q5_8
def q5_9 : LC := e5_9
theorem u5_9 : Unf q5_9 e5_9 := fun _ _ _ _ _ => (rfl)
def e5_10 : LC :=
  .keep [1, 3, 27, 28, 29] [1] (.seq (.block 1 (.seq (.region [ ⟨some 31, none, .idxA 9 (.t 27) (.t 29)⟩, ⟨some 32, none, .load (some 9) (.t 31)⟩, ⟨some 6, none, .alloc 6 [.d (.str []), .d (.int .i64 0), .d (.int .i64 0), .d (.int .i64 0), .d (.int .i64 0), .d (.int .i64 0), .d (.int .i64 0), .d (.int .i64 0), .nils]⟩, ⟨none, none, .store 9 (.t 6) (.t 32)⟩]) q5_9)) (.keep [1, 3, 27, 28, 29] [1] (.tail [1, 3, 27, 28, 29] [1] (.region [ ⟨some 85, none, .bin .add (.t 29) (.i 1)⟩, ⟨some 29, none, .mov (.t 85)⟩]))))
def q5_10 : LC := e5_10
theorem u5_10 : Unf q5_10 e5_10 := fun _ _ _ _ _ => (rfl)
def e5_11 : LC :=
  .seq (.seq (.region [ ⟨some 26, none, .fieldA 1 (.t 1)⟩, ⟨some 27, none, .load none (.t 26)⟩, ⟨some 28, none, .lenL (.t 27)⟩, ⟨some 29, none, .mov (.i 0)⟩]) (.block 0 (.keep [1, 3, 27, 28, 29] [1] (.loop (.seq (.region [ ⟨some 30, none, .bin .lss (.t 29) (.t 28)⟩]) (.seq (.cond (.t 30) .skip (.exit 0)) q5_10)))))) (.seq (.region [ ⟨some 86, none, .call 10 []⟩, ⟨some 2, none, .mov (.t 86)⟩]) .ret)
def q5_11 : LC := e5_11
theorem u5_11 : Unf q5_11 e5_11 := fun _ _ _ _ _ => (rfl)
def e5_12 : LC :=
  .seq (.region [ ⟨some 20, none, .load (some 3) (.t 1)⟩, ⟨some 21, none, .call 11 [.t 20]⟩, ⟨some 19, none, .mov (.t 21)⟩, ⟨some 22, none, .ext (.t 19) 0⟩, ⟨some 23, none, .ext (.t 19) 1⟩, ⟨some 3, none, .mov (.t 22)⟩, ⟨some 4, none, .mov (.t 23)⟩]) (.seq (.seq (.region [ ⟨some 24, none, .mov (.t 4)⟩, ⟨some 25, none, .bin .neq (.t 24) (.i 0)⟩]) (.cond (.t 25) (.seq (.region [ ⟨some 2, none, .mov (.b false)⟩]) .ret) .skip)) q5_11)
def q5_12 : LC := e5_12
theorem u5_12 : Unf q5_12 e5_12 := fun _ _ _ _ _ => (rfl)
def d_metrolablaw20_DrawingDepends : LC :=
  .seq (.region [ ⟨some 1, none, .box 1 (.t 0)⟩, ⟨some 2, none, .mov (.b false)⟩]) (.seq (.seq (.region [ ⟨some 15, none, .load (some 3) (.t 1)⟩, ⟨some 16, none, .call 20 [.t 15]⟩, ⟨some 17, none, .not (.t 16)⟩]) (.cond (.t 17) (.seq (.region [ ⟨some 18, none, .call 10 []⟩, ⟨some 2, none, .mov (.t 18)⟩]) .ret) .skip)) q5_12)
def c_metrolablaw20_DrawingDepends : LC := d_metrolablaw20_DrawingDepends
theorem w_metrolablaw20_DrawingDepends : Unf c_metrolablaw20_DrawingDepends d_metrolablaw20_DrawingDepends := fun _ _ _ _ _ => (rfl)
attribute [simp] e5_1 u5_1 e5_2 u5_2 e5_3 u5_3 e5_4 u5_4 e5_5 u5_5 e5_6 u5_6 e5_7 u5_7 e5_8 u5_8 e5_9 u5_9 e5_10 u5_10 e5_11 u5_11 e5_12 u5_12 d_metrolablaw20_DrawingDepends w_metrolablaw20_DrawingDepends
theorem k_metrolablaw20_DrawingDepends : chkF Tryz.prog Tryz.f5 1 [(2, none)] c_metrolablaw20_DrawingDepends = true := by kernel_rfl
/-- metrolab/metrolablaw20.DrawingFinds -/
def e7_1 : LC :=
  .seq (.region [ ⟨some 83, none, .call 10 []⟩, ⟨some 84, none, .mov (.t 83)⟩, ⟨some 85, some (84, true), .load (some 9) (.t 7)⟩, ⟨some 86, some (84, true), .load (some 9) (.t 9)⟩, ⟨some 87, some (84, true), .call 35 [.t 85, .t 86]⟩, ⟨some 88, none, .pick (.t 84) (.t 87) (.b false)⟩, ⟨some 89, none, .mov (.t 88)⟩, ⟨some 90, some (89, true), .mov (.t 8)⟩, ⟨some 91, some (89, true), .mov (.t 10)⟩, ⟨some 92, some (89, true), .bin .eql (.t 90) (.t 91)⟩, ⟨some 93, none, .pick (.t 89) (.t 92) (.b false)⟩, ⟨some 94, none, .mov (.t 93)⟩, ⟨some 95, some (94, true), .mov (.t 11)⟩, ⟨some 96, some (94, true), .mov (.t 13)⟩, ⟨some 97, some (94, true), .call 15 [.t 95, .t 96]⟩, ⟨some 98, none, .pick (.t 94) (.t 97) (.b false)⟩, ⟨some 99, none, .mov (.t 98)⟩, ⟨some 100, some (99, true), .mov (.t 12)⟩, ⟨some 101, some (99, true), .mov (.t 14)⟩, ⟨some 102, some (99, true), .bin .eql (.t 100) (.t 101)⟩, ⟨some 103, none, .pick (.t 99) (.t 102) (.b false)⟩, ⟨some 104, none, .mov (.t 103)⟩, ⟨some 105, some (104, true), .mov (.t 15)⟩, ⟨some 106, some (104, true), .mov (.t 17)⟩, ⟨some 107, some (104, true), .bin .eql (.t 105) (.t 106)⟩, ⟨some 108, none, .pick (.t 104) (.t 107) (.b false)⟩, ⟨some 109, none, .mov (.t 108)⟩, ⟨some 110, some (109, true), .mov (.t 16)⟩, ⟨some 111, some (109, true), .mov (.t 18)⟩, ⟨some 112, some (109, true), .bin .eql (.t 110) (.t 111)⟩, ⟨some 113, none, .pick (.t 109) (.t 112) (.b false)⟩, ⟨some 6, none, .mov (.t 113)⟩]) .ret
def q7_1 : LC := e7_1
theorem u7_1 : Unf q7_1 e7_1 := fun _ _ _ _ _ => (rfl)
def e7_2 : LC :=
  .seq (.region [ ⟨some 74, none, .load (some 3) (.t 3)⟩, ⟨some 75, none, .idxAA 2 1 (.t 4) (.i 0)⟩, ⟨some 76, none, .load none (.t 75)⟩, ⟨some 77, none, .idxAA 2 1 (.t 4) (.i 1)⟩, ⟨some 78, none, .load none (.t 77)⟩, ⟨some 79, none, .mov (.t 2)⟩, ⟨some 80, none, .call 34 [.t 74, .t 76, .t 78, .t 79]⟩, ⟨some 73, none, .mov (.t 80)⟩, ⟨some 81, none, .ext (.t 73) 0⟩, ⟨some 82, none, .ext (.t 73) 1⟩, ⟨some 17, none, .mov (.t 81)⟩, ⟨some 18, none, .mov (.t 82)⟩]) q7_1
def q7_2 : LC := e7_2
theorem u7_2 : Unf q7_2 e7_2 := fun _ _ _ _ _ => (rfl)
def e7_3 : LC :=
  .seq (.region [ ⟨some 64, none, .load (some 3) (.t 3)⟩, ⟨some 65, none, .idxAA 2 1 (.t 4) (.i 0)⟩, ⟨some 66, none, .load none (.t 65)⟩, ⟨some 67, none, .idxAA 2 1 (.t 4) (.i 1)⟩, ⟨some 68, none, .load none (.t 67)⟩, ⟨some 69, none, .mov (.t 2)⟩, ⟨some 70, none, .call 33 [.t 64, .t 66, .t 68, .t 69]⟩, ⟨some 63, none, .mov (.t 70)⟩, ⟨some 71, none, .ext (.t 63) 0⟩, ⟨some 72, none, .ext (.t 63) 1⟩, ⟨some 15, none, .mov (.t 71)⟩, ⟨some 16, none, .mov (.t 72)⟩]) q7_2
def q7_3 : LC := e7_3
theorem u7_3 : Unf q7_3 e7_3 := fun _ _ _ _ _ => (rfl)
def e7_4 : LC :=
  .seq (.region [ ⟨some 57, none, .load (some 3) (.t 3)⟩, ⟨some 58, none, .idxAA 2 1 (.t 4) (.i 0)⟩, ⟨some 59, none, .load none (.t 58)⟩, ⟨some 60, none, .call 32 [.t 57, .t 59]⟩, ⟨some 56, none, .mov (.t 60)⟩, ⟨some 61, none, .ext (.t 56) 0⟩, ⟨some 62, none, .ext (.t 56) 1⟩, ⟨some 13, none, .mov (.t 61)⟩, ⟨some 14, none, .mov (.t 62)⟩]) q7_3
def q7_4 : LC := e7_4
theorem u7_4 : Unf q7_4 e7_4 := fun _ _ _ _ _ => (rfl)
def e7_5 : LC :=
  .seq (.region [ ⟨some 50, none, .load (some 3) (.t 3)⟩, ⟨some 51, none, .idxAA 2 1 (.t 4) (.i 0)⟩, ⟨some 52, none, .load none (.t 51)⟩, ⟨some 53, none, .call 21 [.t 50, .t 52]⟩, ⟨some 49, none, .mov (.t 53)⟩, ⟨some 54, none, .ext (.t 49) 0⟩, ⟨some 55, none, .ext (.t 49) 1⟩, ⟨some 11, none, .mov (.t 54)⟩, ⟨some 12, none, .mov (.t 55)⟩]) q7_4
def q7_5 : LC := e7_5
theorem u7_5 : Unf q7_5 e7_5 := fun _ _ _ _ _ => (rfl)
def e7_6 : LC :=
  .seq (.region [ ⟨some 43, none, .load (some 3) (.t 3)⟩, ⟨some 44, none, .idxAA 2 1 (.t 4) (.i 0)⟩, ⟨some 45, none, .load none (.t 44)⟩, ⟨some 46, none, .call 31 [.t 43, .t 45]⟩, ⟨some 42, none, .mov (.t 46)⟩, ⟨some 47, none, .ext (.t 42) 0⟩, ⟨some 48, none, .ext (.t 42) 1⟩, ⟨some 9, none, .alloc 9 [.d (.str []), .d (.int .i64 0), .d (.int .i64 0), .d (.int .i64 0), .d (.int .i64 0), .d (.int .i64 0), .d (.int .i64 0), .d (.int .i64 0), .nils]⟩, ⟨none, none, .store 9 (.t 9) (.t 47)⟩, ⟨some 10, none, .mov (.t 48)⟩]) q7_5
def q7_6 : LC := e7_6
theorem u7_6 : Unf q7_6 e7_6 := fun _ _ _ _ _ => (rfl)
def e7_7 : LC :=
  .seq (.region [ ⟨some 36, none, .load (some 3) (.t 3)⟩, ⟨some 37, none, .idxAA 2 1 (.t 4) (.i 0)⟩, ⟨some 38, none, .load none (.t 37)⟩, ⟨some 39, none, .call 30 [.t 36, .t 38]⟩, ⟨some 35, none, .mov (.t 39)⟩, ⟨some 40, none, .ext (.t 35) 0⟩, ⟨some 41, none, .ext (.t 35) 1⟩, ⟨some 7, none, .alloc 7 [.d (.str []), .d (.int .i64 0), .d (.int .i64 0), .d (.int .i64 0), .d (.int .i64 0), .d (.int .i64 0), .d (.int .i64 0), .d (.int .i64 0), .nils]⟩, ⟨none, none, .store 9 (.t 7) (.t 40)⟩, ⟨some 8, none, .mov (.t 41)⟩]) q7_6
def q7_7 : LC := e7_7
theorem u7_7 : Unf q7_7 e7_7 := fun _ _ _ _ _ => (rfl)
def e7_8 : LC :=
  .seq (.seq (.region [ ⟨some 19, none, .load (some 3) (.t 3)⟩, ⟨some 20, none, .call 9 [.t 19]⟩, ⟨some 21, none, .not (.t 20)⟩, ⟨some 22, none, .mov (.t 21)⟩, ⟨some 23, some (22, false), .idxAA 2 1 (.t 4) (.i 0)⟩, ⟨some 24, some (22, false), .load none (.t 23)⟩, ⟨some 25, some (22, false), .lenS (.t 24)⟩, ⟨some 26, some (22, false), .bin .gtr (.t 25) (.i 60)⟩, ⟨some 27, none, .pick (.t 22) (.b true) (.t 26)⟩, ⟨some 28, none, .mov (.t 27)⟩, ⟨some 29, some (28, false), .idxAA 2 1 (.t 4) (.i 1)⟩, ⟨some 30, some (28, false), .load none (.t 29)⟩, ⟨some 31, some (28, false), .lenS (.t 30)⟩, ⟨some 32, some (28, false), .bin .gtr (.t 31) (.i 60)⟩, ⟨some 33, none, .pick (.t 28) (.b true) (.t 32)⟩]) (.cond (.t 33) (.seq (.region [ ⟨some 34, none, .call 10 []⟩, ⟨some 6, none, .mov (.t 34)⟩]) .ret) .skip)) q7_7
def q7_8 : LC := e7_8
theorem u7_8 : Unf q7_8 e7_8 := fun _ _ _ _ _ => (rfl)
def d_metrolablaw20_DrawingFinds : LC :=
  .seq (.region [ ⟨some 3, none, .box 3 (.t 0)⟩, ⟨some 4, none, .box 4 (.t 1)⟩, ⟨some 6, none, .mov (.b false)⟩]) q7_8
def c_metrolablaw20_DrawingFinds : LC := d_metrolablaw20_DrawingFinds
theorem w_metrolablaw20_DrawingFinds : Unf c_metrolablaw20_DrawingFinds d_metrolablaw20_DrawingFinds := fun _ _ _ _ _ => (rfl)
attribute [simp] e7_1 u7_1 e7_2 u7_2 e7_3 u7_3 e7_4 u7_4 e7_5 u7_5 e7_6 u7_6 e7_7 u7_7 e7_8 u7_8 d_metrolablaw20_DrawingFinds w_metrolablaw20_DrawingFinds
theorem k_metrolablaw20_DrawingFinds : chkF Tryz.prog Tryz.f7 3 [(6, none)] c_metrolablaw20_DrawingFinds = true := by kernel_rfl
/-- metrolab/metrolabref20.Few -/
def e9_1 : LC :=
  .seq (.block 1 (.seq (.region [ ⟨some 33, none, .fieldA 1 (.t 1)⟩, ⟨some 34, none, .load none (.t 33)⟩, ⟨some 35, none, .mov (.t 3)⟩, ⟨some 36, none, .idxA 9 (.t 34) (.t 35)⟩, ⟨some 37, none, .load (some 9) (.t 36)⟩, ⟨some 38, none, .call 36 [.t 37]⟩, ⟨some 39, none, .not (.t 38)⟩]) (.cond (.t 39) (.seq (.region [ ⟨some 2, none, .mov (.b false)⟩]) .ret) .skip))) (.keep [1, 3] [1] (.tail [1, 3] [1] (.region [ ⟨some 31, none, .mov (.t 3)⟩, ⟨some 32, none, .bin .add (.t 31) (.i 1)⟩, ⟨some 3, none, .mov (.t 32)⟩])))
def q9_1 : LC := e9_1
theorem u9_1 : Unf q9_1 e9_1 := fun _ _ _ _ _ => (rfl)
def e9_2 : LC :=
  .block 0 (.keep [1, 3] [1] (.loop (.seq (.seq (.region [ ⟨some 26, none, .mov (.t 3)⟩, ⟨some 27, none, .fieldA 1 (.t 1)⟩, ⟨some 28, none, .load none (.t 27)⟩, ⟨some 29, none, .lenL (.t 28)⟩, ⟨some 30, none, .bin .lss (.t 26) (.t 29)⟩]) (.cond (.t 30) .skip (.exit 0))) q9_1)))
def q9_2 : LC := e9_2
theorem u9_2 : Unf q9_2 e9_2 := fun _ _ _ _ _ => (rfl)
def e9_3 : LC :=
  .seq (.seq (.region [ ⟨some 4, none, .fieldA 0 (.t 1)⟩, ⟨some 5, none, .load none (.t 4)⟩, ⟨some 6, none, .lenS (.t 5)⟩, ⟨some 7, none, .bin .gtr (.t 6) (.i 100)⟩, ⟨some 8, none, .mov (.t 7)⟩, ⟨some 9, some (8, false), .fieldA 1 (.t 1)⟩, ⟨some 10, some (8, false), .load none (.t 9)⟩, ⟨some 11, some (8, false), .lenL (.t 10)⟩, ⟨some 12, some (8, false), .bin .gtr (.t 11) (.i 8)⟩, ⟨some 13, some (8, false), .mov (.t 12)⟩, ⟨some 14, some (13, true), .fieldA 1 (.t 1)⟩, ⟨some 15, some (13, true), .load none (.t 14)⟩, ⟨some 16, some (13, true), .lenL (.t 15)⟩, ⟨some 17, some (13, true), .bin .leq (.t 16) (.i 32)⟩, ⟨some 18, some (8, false), .pick (.t 13) (.t 17) (.b false)⟩, ⟨some 19, none, .pick (.t 8) (.b true) (.t 18)⟩, ⟨some 20, none, .mov (.t 19)⟩, ⟨some 21, some (20, false), .fieldA 1 (.t 1)⟩, ⟨some 22, some (20, false), .load none (.t 21)⟩, ⟨some 23, some (20, false), .lenL (.t 22)⟩, ⟨some 24, some (20, false), .bin .gtr (.t 23) (.i 64)⟩, ⟨some 25, none, .pick (.t 20) (.b true) (.t 24)⟩]) (.cond (.t 25) (.seq (.region [ ⟨some 2, none, .mov (.b false)⟩]) .ret) .skip)) (.seq (.seq (.region [ ⟨some 3, none, .mov (.i 0)⟩]) q9_2) (.seq (.region [ ⟨some 40, none, .fieldA 2 (.t 1)⟩, ⟨some 41, none, .load none (.t 40)⟩, ⟨some 42, none, .call 39 [.t 41]⟩, ⟨some 2, none, .mov (.t 42)⟩]) .ret))
def q9_3 : LC := e9_3
theorem u9_3 : Unf q9_3 e9_3 := fun _ _ _ _ _ => (rfl)
def d_metrolabref20_Few : LC :=
  .seq (.region [ ⟨some 1, none, .box 1 (.t 0)⟩, ⟨some 2, none, .mov (.b false)⟩]) q9_3
def c_metrolabref20_Few : LC := d_metrolabref20_Few
theorem w_metrolabref20_Few : Unf c_metrolabref20_Few d_metrolabref20_Few := fun _ _ _ _ _ => (rfl)
attribute [simp] e9_1 u9_1 e9_2 u9_2 e9_3 u9_3 d_metrolabref20_Few w_metrolabref20_Few
theorem k_metrolabref20_Few : chkF Tryz.prog Tryz.f9 1 [(2, none)] c_metrolabref20_Few = true := by kernel_rfl
/-- metrolab/metrolablaw20.awake -/
def e10_1 : LC :=
  .seq (.region [ ⟨some 106, none, .mov (.t 15)⟩, ⟨some 107, none, .fieldA 2 (.t 13)⟩, ⟨some 108, none, .load none (.t 107)⟩, ⟨some 109, none, .bin .neq (.t 106) (.t 108)⟩, ⟨some 110, none, .mov (.t 109)⟩, ⟨some 111, some (110, false), .mov (.t 16)⟩, ⟨some 112, some (110, false), .fieldA 3 (.t 13)⟩, ⟨some 113, some (110, false), .load none (.t 112)⟩, ⟨some 114, some (110, false), .bin .neq (.t 111) (.t 113)⟩, ⟨some 115, none, .pick (.t 110) (.b true) (.t 114)⟩]) (.cond (.t 115) (.seq (.region [ ⟨some 0, none, .mov (.b false)⟩]) .ret) .skip)
def q10_1 : LC := e10_1
theorem u10_1 : Unf q10_1 e10_1 := fun _ _ _ _ _ => (rfl)
def e10_2 : LC :=
  .seq (.region [ ⟨some 97, none, .fieldA 0 (.t 13)⟩, ⟨some 98, none, .load none (.t 97)⟩, ⟨some 99, none, .fieldA 1 (.t 13)⟩, ⟨some 100, none, .load none (.t 99)⟩, ⟨some 101, none, .call 40 [.s [100, 114, 97, 119, 105, 110, 103, 32, 68, 10, 102, 101, 97, 116, 117, 114, 101, 32, 66, 32, 112, 108, 97, 110, 101, 32, 120, 32, 97, 116, 32, 48, 32, 48, 32, 48, 10, 102, 101, 97, 116, 117, 114, 101, 32, 72, 32, 104, 111, 108, 101, 32, 122, 32, 97, 116, 32, 53, 48, 48, 32, 48, 32, 48, 32, 115, 105, 122, 101, 32, 57, 48, 32, 57, 53, 10, 102, 114, 97, 109, 101, 32, 72, 32, 112, 111, 115, 105, 116, 105, 111, 110, 32, 100, 105, 115, 99, 32, 50, 48, 40, 77, 41, 32, 66, 10, 100, 105, 109, 101, 110, 115, 105, 111, 110, 32, 66, 32, 72, 32, 120, 32, 52, 57, 48, 32, 53, 49, 48], .t 98, .t 100, .i 1]⟩, ⟨some 102, none, .callD 17 [.t 101]⟩, ⟨some 96, none, .mov (.t 102)⟩, ⟨some 103, none, .ext (.t 96) 0⟩, ⟨some 104, none, .ext (.t 96) 1⟩, ⟨some 105, none, .ext (.t 96) 2⟩, ⟨some 14, none, .alloc 14 [.d (.str []), .nils, .nils]⟩, ⟨none, none, .store 3 (.t 14) (.t 103)⟩, ⟨some 15, none, .mov (.t 104)⟩, ⟨some 16, none, .mov (.t 105)⟩]) q10_1
def q10_2 : LC := e10_2
theorem u10_2 : Unf q10_2 e10_2 := fun _ _ _ _ _ => (rfl)
def e10_3 : LC :=
  .seq (.block 1 (.seq (.region [ ⟨some 94, none, .idxA 4 (.t 90) (.t 92)⟩, ⟨some 95, none, .load (some 4) (.t 94)⟩, ⟨some 13, none, .alloc 13 [.d (.str []), .d (.str []), .d (.int .i64 0), .d (.int .i64 0)]⟩, ⟨none, none, .store 4 (.t 13) (.t 95)⟩]) q10_2)) (.tailW [13, 14] (.region [ ⟨some 116, none, .bin .add (.t 92) (.i 1)⟩, ⟨some 92, none, .mov (.t 116)⟩]))
def q10_3 : LC := e10_3
theorem u10_3 : Unf q10_3 e10_3 := fun _ _ _ _ _ => (rfl)
def e10_4 : LC :=
  .seq (.region [ ⟨some 127, none, .mov (.t 3)⟩, ⟨some 128, none, .bin .eql (.t 127) (.i 0)⟩, ⟨some 129, none, .mov (.t 128)⟩, ⟨some 130, some (129, true), .fieldA 1 (.t 1)⟩, ⟨some 131, some (129, true), .load none (.t 130)⟩, ⟨some 132, some (129, true), .lenL (.t 131)⟩, ⟨some 133, some (129, true), .bin .eql (.t 132) (.i 1)⟩, ⟨some 134, none, .pick (.t 129) (.t 133) (.b false)⟩, ⟨some 135, none, .mov (.t 134)⟩, ⟨some 136, some (135, true), .fieldA 1 (.t 1)⟩, ⟨some 137, some (135, true), .load none (.t 136)⟩, ⟨some 138, some (135, true), .idxA 9 (.t 137) (.i 0)⟩, ⟨some 139, some (135, true), .fieldA 0 (.t 138)⟩, ⟨some 140, some (135, true), .load none (.t 139)⟩, ⟨some 141, some (135, true), .bin .eql (.t 140) (.s [72])⟩, ⟨some 142, none, .pick (.t 135) (.t 141) (.b false)⟩, ⟨some 0, none, .mov (.t 142)⟩]) .ret
def q10_4 : LC := e10_4
theorem u10_4 : Unf q10_4 e10_4 := fun _ _ _ _ _ => (rfl)
def e10_5 : LC :=
  .seq (.region [ ⟨some 117, none, .fieldA 1 (.t 1)⟩, ⟨some 118, none, .load none (.t 117)⟩, ⟨some 119, none, .idxA 9 (.t 118) (.i 1)⟩, ⟨some 120, none, .fieldA 8 (.t 119)⟩, ⟨none, none, .store 1 (.t 120) (.c (.at (.nils)))⟩, ⟨some 121, none, .fieldA 2 (.t 1)⟩, ⟨none, none, .store 1 (.t 121) (.c (.at (.nils)))⟩]) (.seq (.region [ ⟨some 123, none, .load (some 3) (.t 1)⟩, ⟨some 124, none, .callD 38 [.t 123, .s [66]]⟩, ⟨some 122, none, .mov (.t 124)⟩, ⟨some 125, none, .ext (.t 122) 0⟩, ⟨some 126, none, .ext (.t 122) 1⟩, ⟨none, none, .store 3 (.t 1) (.t 125)⟩, ⟨some 3, none, .mov (.t 126)⟩]) q10_4)
def q10_5 : LC := e10_5
theorem u10_5 : Unf q10_5 e10_5 := fun _ _ _ _ _ => (rfl)
def e10_6 : LC :=
  .seq (.seq (.region [ ⟨some 86, none, .build [.d (.str []), .d (.str []), .d (.int .i64 0), .d (.int .i64 0)] [(0, 1, .s [120, 32, 52, 57, 48]), (1, 1, .s [120, 32, 53, 48, 49]), (2, 1, .i 5), (3, 1, .i 16)]⟩, ⟨some 87, none, .build [.d (.str []), .d (.str []), .d (.int .i64 0), .d (.int .i64 0)] [(0, 1, .s [120, 32, 52, 57, 48, 32, 53, 49, 48]), (1, 1, .s [121, 32, 48, 32, 48]), (2, 1, .i 5), (3, 1, .i 14)]⟩, ⟨some 88, none, .build [.d (.str []), .d (.str []), .d (.int .i64 0), .d (.int .i64 0)] [(0, 1, .s [102, 101, 97, 116, 117, 114, 101, 32, 66, 32, 112, 108, 97, 110, 101, 32, 120, 32, 97, 116, 32, 48, 32, 48, 32, 48, 10]), (1, 1, .s []), (2, 1, .i 4), (3, 1, .i 6)]⟩, ⟨some 89, none, .build [.d (.str []), .d (.str []), .d (.int .i64 0), .d (.int .i64 0)] [(0, 1, .s [97, 116, 32, 48, 32, 48, 32, 48]), (1, 1, .s [97, 116, 32, 48, 32, 48]), (2, 1, .i 1), (3, 1, .i 4)]⟩, ⟨some 90, none, .buildS 90 78 4 4 [(0, 4, .t 86), (4, 4, .t 87), (8, 4, .t 88), (12, 4, .t 89)]⟩, ⟨some 91, none, .lenL (.t 90)⟩, ⟨some 92, none, .mov (.i 0)⟩]) (.block 0 (.weak [13, 14] (.loop (.seq (.region [ ⟨some 93, none, .bin .lss (.t 92) (.t 91)⟩]) (.seq (.cond (.t 93) .skip (.exit 0)) q10_3)))))) q10_5
def q10_6 : LC := e10_6
theorem u10_6 : Unf q10_6 e10_6 := fun _ _ _ _ _ => (rfl)
def e10_7 : LC :=
  .seq (.seq (.region [ ⟨some 42, none, .mov (.t 3)⟩, ⟨some 43, none, .mov (.t 5)⟩, ⟨some 44, none, .bin .add (.t 42) (.t 43)⟩, ⟨some 45, none, .mov (.t 7)⟩, ⟨some 46, none, .bin .add (.t 44) (.t 45)⟩, ⟨some 47, none, .mov (.t 9)⟩, ⟨some 48, none, .bin .add (.t 46) (.t 47)⟩, ⟨some 49, none, .bin .neq (.t 48) (.i 0)⟩, ⟨some 50, none, .mov (.t 49)⟩, ⟨some 51, some (50, false), .mov (.t 2)⟩, ⟨some 52, some (50, false), .bin .neq (.t 51) (.i 0)⟩, ⟨some 53, none, .pick (.t 50) (.b true) (.t 52)⟩, ⟨some 54, none, .mov (.t 53)⟩, ⟨some 55, some (54, false), .mov (.t 11)⟩, ⟨some 56, some (54, false), .bin .neq (.t 55) (.i 14)⟩, ⟨some 57, none, .pick (.t 54) (.b true) (.t 56)⟩, ⟨some 58, none, .mov (.t 57)⟩, ⟨some 59, some (58, false), .mov (.t 8)⟩, ⟨some 60, some (58, false), .bin .neq (.t 59) (.i 500)⟩, ⟨some 61, none, .pick (.t 58) (.b true) (.t 60)⟩, ⟨some 62, none, .mov (.t 61)⟩, ⟨some 63, some (62, false), .mov (.t 4)⟩, ⟨some 64, some (62, false), .buildS 64 9 1 1 [(0, 1, .s [66])]⟩, ⟨some 65, some (62, false), .call 15 [.t 63, .t 64]⟩, ⟨some 66, some (62, false), .not (.t 65)⟩, ⟨some 67, none, .pick (.t 62) (.b true) (.t 66)⟩, ⟨some 68, none, .mov (.t 67)⟩, ⟨some 69, some (68, false), .mov (.t 6)⟩, ⟨some 70, some (68, false), .buildS 70 9 1 1 [(0, 1, .s [66])]⟩, ⟨some 71, some (68, false), .call 15 [.t 69, .t 70]⟩, ⟨some 72, some (68, false), .not (.t 71)⟩, ⟨some 73, none, .pick (.t 68) (.b true) (.t 72)⟩, ⟨some 74, none, .mov (.t 73)⟩, ⟨some 75, some (74, false), .fieldA 1 (.t 1)⟩, ⟨some 76, some (74, false), .load none (.t 75)⟩, ⟨some 77, some (74, false), .lenL (.t 76)⟩, ⟨some 78, some (74, false), .bin .neq (.t 77) (.i 2)⟩, ⟨some 79, none, .pick (.t 74) (.b true) (.t 78)⟩, ⟨some 80, none, .mov (.t 79)⟩, ⟨some 81, some (80, false), .fieldA 2 (.t 1)⟩, ⟨some 82, some (80, false), .load none (.t 81)⟩, ⟨some 83, some (80, false), .lenL (.t 82)⟩, ⟨some 84, some (80, false), .bin .neq (.t 83) (.i 1)⟩, ⟨some 85, none, .pick (.t 80) (.b true) (.t 84)⟩]) (.cond (.t 85) (.seq (.region [ ⟨some 0, none, .mov (.b false)⟩]) .ret) .skip)) q10_6
def q10_7 : LC := e10_7
theorem u10_7 : Unf q10_7 e10_7 := fun _ _ _ _ _ => (rfl)
def e10_8 : LC :=
  .seq (.region [ ⟨some 38, none, .load (some 3) (.t 1)⟩, ⟨some 39, none, .callD 38 [.t 38, .s [66]]⟩, ⟨some 37, none, .mov (.t 39)⟩, ⟨some 40, none, .ext (.t 37) 0⟩, ⟨some 41, none, .ext (.t 37) 1⟩, ⟨some 10, none, .alloc 10 [.d (.str []), .nils, .nils]⟩, ⟨none, none, .store 3 (.t 10) (.t 40)⟩, ⟨some 11, none, .mov (.t 41)⟩]) q10_7
def q10_8 : LC := e10_8
theorem u10_8 : Unf q10_8 e10_8 := fun _ _ _ _ _ => (rfl)
def e10_9 : LC :=
  .seq (.region [ ⟨some 28, none, .load (some 3) (.t 1)⟩, ⟨some 29, none, .callD 11 [.t 28]⟩, ⟨some 27, none, .mov (.t 29)⟩, ⟨some 30, none, .ext (.t 27) 0⟩, ⟨some 31, none, .ext (.t 27) 1⟩, ⟨some 6, none, .mov (.t 30)⟩, ⟨some 7, none, .mov (.t 31)⟩]) (.seq (.region [ ⟨some 33, none, .load (some 3) (.t 1)⟩, ⟨some 34, none, .callF 33 [.t 33, .s [66], .s [72], .i 0]⟩, ⟨some 32, none, .mov (.t 34)⟩, ⟨some 35, none, .ext (.t 32) 0⟩, ⟨some 36, none, .ext (.t 32) 1⟩, ⟨some 8, none, .mov (.t 35)⟩, ⟨some 9, none, .mov (.t 36)⟩]) q10_8)
def q10_9 : LC := e10_9
theorem u10_9 : Unf q10_9 e10_9 := fun _ _ _ _ _ => (rfl)
def e10_10 : LC :=
  .seq (.region [ ⟨some 18, none, .callD 17 [.s [100, 114, 97, 119, 105, 110, 103, 32, 68, 10, 102, 101, 97, 116, 117, 114, 101, 32, 66, 32, 112, 108, 97, 110, 101, 32, 120, 32, 97, 116, 32, 48, 32, 48, 32, 48, 10, 102, 101, 97, 116, 117, 114, 101, 32, 72, 32, 104, 111, 108, 101, 32, 122, 32, 97, 116, 32, 53, 48, 48, 32, 48, 32, 48, 32, 115, 105, 122, 101, 32, 57, 48, 32, 57, 53, 10, 102, 114, 97, 109, 101, 32, 72, 32, 112, 111, 115, 105, 116, 105, 111, 110, 32, 100, 105, 115, 99, 32, 50, 48, 40, 77, 41, 32, 66, 10, 100, 105, 109, 101, 110, 115, 105, 111, 110, 32, 66, 32, 72, 32, 120, 32, 52, 57, 48, 32, 53, 49, 48]]⟩, ⟨some 17, none, .mov (.t 18)⟩, ⟨some 19, none, .ext (.t 17) 0⟩, ⟨some 20, none, .ext (.t 17) 1⟩, ⟨some 21, none, .ext (.t 17) 2⟩, ⟨some 1, none, .alloc 1 [.d (.str []), .nils, .nils]⟩, ⟨none, none, .store 3 (.t 1) (.t 19)⟩, ⟨some 2, none, .mov (.t 20)⟩, ⟨some 3, none, .mov (.t 21)⟩]) (.seq (.region [ ⟨some 23, none, .load (some 3) (.t 1)⟩, ⟨some 24, none, .callD 21 [.t 23, .s [72]]⟩, ⟨some 22, none, .mov (.t 24)⟩, ⟨some 25, none, .ext (.t 22) 0⟩, ⟨some 26, none, .ext (.t 22) 1⟩, ⟨some 4, none, .mov (.t 25)⟩, ⟨some 5, none, .mov (.t 26)⟩]) q10_9)
def q10_10 : LC := e10_10
theorem u10_10 : Unf q10_10 e10_10 := fun _ _ _ _ _ => (rfl)
def d_metrolablaw20_awake : LC :=
  .seq (.region [ ⟨some 0, none, .mov (.b false)⟩]) q10_10
def c_metrolablaw20_awake : LC := d_metrolablaw20_awake
theorem w_metrolablaw20_awake : Unf c_metrolablaw20_awake d_metrolablaw20_awake := fun _ _ _ _ _ => (rfl)
attribute [simp] e10_1 u10_1 e10_2 u10_2 e10_3 u10_3 e10_4 u10_4 e10_5 u10_5 e10_6 u10_6 e10_7 u10_7 e10_8 u10_8 e10_9 u10_9 e10_10 u10_10 d_metrolablaw20_awake w_metrolablaw20_awake
theorem k_metrolablaw20_awake : chkF Tryz.prog Tryz.f10 0 [(0, none)] c_metrolablaw20_awake = true := by kernel_rfl
/-- metrolab/drawing.Datums -/
def e11_1 : LC :=
  .lift 2 (.seq (.seq (.region [ ⟨some 5, none, .load (some 3) (.t 1)⟩, ⟨some 6, none, .call 13 [.t 5]⟩, ⟨some 4, none, .mov (.t 6)⟩]) (.seq (.region [ ⟨some 7, none, .mov (.t 4)⟩, ⟨some 8, none, .bin .neq (.t 7) (.i 0)⟩]) (.cond (.t 8) (.seq (.region [ ⟨some 9, none, .mov (.t 4)⟩, ⟨some 2, none, .mov (.c (.at (.nils)))⟩, ⟨some 3, none, .mov (.t 9)⟩]) (.lift 2 .ret)) .skip))) (.seq (.region [ ⟨some 10, none, .load (some 3) (.t 1)⟩, ⟨some 11, none, .call 41 [.t 10]⟩, ⟨some 2, none, .mov (.t 11)⟩, ⟨some 3, none, .mov (.i 0)⟩]) (.lift 2 .ret)))
def q11_1 : LC := e11_1
theorem u11_1 : Unf q11_1 e11_1 := fun _ _ _ _ _ => (rfl)
def d_drawing_Datums : LC :=
  .seq (.region [ ⟨some 1, none, .box 1 (.t 0)⟩, ⟨some 2, none, .mov (.c (.at (.nils)))⟩, ⟨some 3, none, .mov (.i 0)⟩]) q11_1
def c_drawing_Datums : LC := d_drawing_Datums
theorem w_drawing_Datums : Unf c_drawing_Datums d_drawing_Datums := fun _ _ _ _ _ => (rfl)
attribute [simp] e11_1 u11_1 d_drawing_Datums w_drawing_Datums
theorem k_drawing_Datums : chkF Tryz.prog Tryz.f11 1 [(2, none), (3, none)] c_drawing_Datums = true := by kernel_rfl
/-- metrolab/metrolabref20.Datums -/
def e12_1 : LC :=
  .lift 2 (.seq (.seq (.region [ ⟨some 5, none, .load (some 3) (.t 1)⟩, ⟨some 6, none, .call 14 [.t 5]⟩, ⟨some 4, none, .mov (.t 6)⟩]) (.seq (.region [ ⟨some 7, none, .mov (.t 4)⟩, ⟨some 8, none, .bin .neq (.t 7) (.i 0)⟩]) (.cond (.t 8) (.seq (.region [ ⟨some 9, none, .mov (.t 4)⟩, ⟨some 2, none, .mov (.c (.at (.nils)))⟩, ⟨some 3, none, .mov (.t 9)⟩]) (.lift 2 .ret)) .skip))) (.seq (.region [ ⟨some 10, none, .load (some 3) (.t 1)⟩, ⟨some 11, none, .call 42 [.t 10]⟩, ⟨some 2, none, .mov (.t 11)⟩, ⟨some 3, none, .mov (.i 0)⟩]) (.lift 2 .ret)))
def q12_1 : LC := e12_1
theorem u12_1 : Unf q12_1 e12_1 := fun _ _ _ _ _ => (rfl)
def d_metrolabref20_Datums : LC :=
  .seq (.region [ ⟨some 1, none, .box 1 (.t 0)⟩, ⟨some 2, none, .mov (.c (.at (.nils)))⟩, ⟨some 3, none, .mov (.i 0)⟩]) q12_1
def c_metrolabref20_Datums : LC := d_metrolabref20_Datums
theorem w_metrolabref20_Datums : Unf c_metrolabref20_Datums d_metrolabref20_Datums := fun _ _ _ _ _ => (rfl)
attribute [simp] e12_1 u12_1 d_metrolabref20_Datums w_metrolabref20_Datums
theorem k_metrolabref20_Datums : chkF Tryz.prog Tryz.f12 1 [(2, none), (3, none)] c_metrolabref20_Datums = true := by kernel_rfl
/-- metrolab/drawing.Check -/
def e13_1 : LC :=
  .seq (.draw [0, 0, 2, 7, 0, 16, 63] [ ⟨some 25, none, .load (some 3) (.t 1)⟩, ⟨some 26, none, .fieldA 0 (.t 6)⟩, ⟨some 27, none, .load none (.t 26)⟩, ⟨some 28, none, .call 45 [.t 25, .t 27]⟩, ⟨some 29, none, .fieldA 0 (.t 6)⟩, ⟨some 30, none, .load none (.t 29)⟩, ⟨some 31, none, .call 22 [.t 28, .t 30]⟩]) (.cond (.t 31) (.seq (.region [ ⟨some 2, none, .mov (.i 16)⟩]) .ret) .skip)
def q13_1 : LC := e13_1
theorem u13_1 : Unf q13_1 e13_1 := fun _ _ _ _ _ => (rfl)
def e13_2 : LC :=
  .keep [1, 19, 20, 21] [1] (.seq (.block 1 (.seq (.region [ ⟨some 23, none, .idxA 9 (.t 19) (.t 21)⟩, ⟨some 24, none, .load (some 9) (.t 23)⟩, ⟨some 6, none, .alloc 6 [.d (.str []), .d (.int .i64 0), .d (.int .i64 0), .d (.int .i64 0), .d (.int .i64 0), .d (.int .i64 0), .d (.int .i64 0), .d (.int .i64 0), .nils]⟩, ⟨none, none, .store 9 (.t 6) (.t 24)⟩]) q13_1)) (.keep [1, 19, 20, 21] [1] (.tail [1, 19, 20, 21] [1] (.region [ ⟨some 32, none, .bin .add (.t 21) (.i 1)⟩, ⟨some 21, none, .mov (.t 32)⟩]))))
def q13_2 : LC := e13_2
theorem u13_2 : Unf q13_2 e13_2 := fun _ _ _ _ _ => (rfl)
def e13_3 : LC :=
  .seq (.seq (.region [ ⟨some 18, none, .fieldA 1 (.t 1)⟩, ⟨some 19, none, .load none (.t 18)⟩, ⟨some 20, none, .lenL (.t 19)⟩, ⟨some 21, none, .mov (.i 0)⟩]) (.block 0 (.keep [1, 19, 20, 21] [1] (.loop (.seq (.region [ ⟨some 22, none, .bin .lss (.t 21) (.t 20)⟩]) (.seq (.cond (.t 22) .skip (.exit 0)) q13_2)))))) (.seq (.region [ ⟨some 33, none, .load (some 3) (.t 1)⟩, ⟨some 34, none, .call 46 [.t 33]⟩, ⟨some 2, none, .mov (.t 34)⟩]) .ret)
def q13_3 : LC := e13_3
theorem u13_3 : Unf q13_3 e13_3 := fun _ _ _ _ _ => (rfl)
def e13_4 : LC :=
  .seq (.seq (.region [ ⟨some 13, none, .load (some 3) (.t 1)⟩, ⟨some 14, none, .call 44 [.t 13]⟩, ⟨some 4, none, .mov (.t 14)⟩]) (.seq (.region [ ⟨some 15, none, .mov (.t 4)⟩, ⟨some 16, none, .bin .neq (.t 15) (.i 0)⟩]) (.cond (.t 16) (.seq (.region [ ⟨some 17, none, .mov (.t 4)⟩, ⟨some 2, none, .mov (.t 17)⟩]) .ret) .skip))) q13_3
def q13_4 : LC := e13_4
theorem u13_4 : Unf q13_4 e13_4 := fun _ _ _ _ _ => (rfl)
def e13_5 : LC :=
  .seq (.seq (.region [ ⟨some 7, none, .fieldA 0 (.t 1)⟩, ⟨some 8, none, .load none (.t 7)⟩, ⟨some 9, none, .call 43 [.t 8]⟩, ⟨some 3, none, .mov (.t 9)⟩]) (.seq (.region [ ⟨some 10, none, .mov (.t 3)⟩, ⟨some 11, none, .bin .neq (.t 10) (.i 0)⟩]) (.cond (.t 11) (.seq (.region [ ⟨some 12, none, .mov (.t 3)⟩, ⟨some 2, none, .mov (.t 12)⟩]) .ret) .skip))) q13_4
def q13_5 : LC := e13_5
theorem u13_5 : Unf q13_5 e13_5 := fun _ _ _ _ _ => (rfl)
def d_drawing_Check : LC :=
  .seq (.region [ ⟨some 1, none, .box 1 (.t 0)⟩, ⟨some 2, none, .mov (.i 0)⟩]) q13_5
def c_drawing_Check : LC := d_drawing_Check
theorem w_drawing_Check : Unf c_drawing_Check d_drawing_Check := fun _ _ _ _ _ => (rfl)
attribute [simp] e13_1 u13_1 e13_2 u13_2 e13_3 u13_3 e13_4 u13_4 e13_5 u13_5 d_drawing_Check w_drawing_Check
theorem k_drawing_Check : chkF Tryz.prog Tryz.f13 1 [(2, none)] c_drawing_Check = true := by kernel_rfl
/-- metrolab/metrolabref20.Check -/
def e14_1 : LC :=
  .seq (.block 1 (.seq (.draw [0, 0, 2, 0, 14, 30, 62, 127, 0, 256, 0, 1792, 3840, 7936, 16383] [ ⟨some 30, none, .load (some 3) (.t 1)⟩, ⟨some 31, none, .fieldA 1 (.t 1)⟩, ⟨some 32, none, .load none (.t 31)⟩, ⟨some 33, none, .mov (.t 6)⟩, ⟨some 34, none, .idxA 9 (.t 32) (.t 33)⟩, ⟨some 35, none, .fieldA 0 (.t 34)⟩, ⟨some 36, none, .load none (.t 35)⟩, ⟨some 37, none, .call 51 [.t 30, .t 36]⟩, ⟨some 38, none, .fieldA 1 (.t 1)⟩, ⟨some 39, none, .load none (.t 38)⟩, ⟨some 40, none, .mov (.t 6)⟩, ⟨some 41, none, .idxA 9 (.t 39) (.t 40)⟩, ⟨some 42, none, .fieldA 0 (.t 41)⟩, ⟨some 43, none, .load none (.t 42)⟩, ⟨some 44, none, .call 50 [.t 37, .t 43]⟩]) (.cond (.t 44) (.seq (.region [ ⟨some 2, none, .mov (.i 16)⟩]) .ret) .skip))) (.keep [1, 6] [1] (.tail [1, 6] [1] (.region [ ⟨some 28, none, .mov (.t 6)⟩, ⟨some 29, none, .bin .add (.t 28) (.i 1)⟩, ⟨some 6, none, .mov (.t 29)⟩])))
def q14_1 : LC := e14_1
theorem u14_1 : Unf q14_1 e14_1 := fun _ _ _ _ _ => (rfl)
def e14_2 : LC :=
  .block 0 (.keep [1, 6] [1] (.loop (.seq (.seq (.region [ ⟨some 23, none, .mov (.t 6)⟩, ⟨some 24, none, .fieldA 1 (.t 1)⟩, ⟨some 25, none, .load none (.t 24)⟩, ⟨some 26, none, .lenL (.t 25)⟩, ⟨some 27, none, .bin .lss (.t 23) (.t 26)⟩]) (.cond (.t 27) .skip (.exit 0))) q14_1)))
def q14_2 : LC := e14_2
theorem u14_2 : Unf q14_2 e14_2 := fun _ _ _ _ _ => (rfl)
def e14_3 : LC :=
  .seq (.seq (.region [ ⟨some 18, none, .load (some 3) (.t 1)⟩, ⟨some 19, none, .call 49 [.t 18]⟩, ⟨some 5, none, .mov (.t 19)⟩]) (.seq (.region [ ⟨some 20, none, .mov (.t 5)⟩, ⟨some 21, none, .bin .neq (.t 20) (.i 0)⟩]) (.cond (.t 21) (.seq (.region [ ⟨some 22, none, .mov (.t 5)⟩, ⟨some 2, none, .mov (.t 22)⟩]) .ret) .skip))) (.seq (.seq (.region [ ⟨some 6, none, .mov (.i 0)⟩]) q14_2) (.seq (.region [ ⟨some 45, none, .load (some 3) (.t 1)⟩, ⟨some 46, none, .call 52 [.t 45]⟩, ⟨some 2, none, .mov (.t 46)⟩]) .ret))
def q14_3 : LC := e14_3
theorem u14_3 : Unf q14_3 e14_3 := fun _ _ _ _ _ => (rfl)
def e14_4 : LC :=
  .seq (.seq (.region [ ⟨some 13, none, .load (some 3) (.t 1)⟩, ⟨some 14, none, .call 48 [.t 13]⟩, ⟨some 4, none, .mov (.t 14)⟩]) (.seq (.region [ ⟨some 15, none, .mov (.t 4)⟩, ⟨some 16, none, .bin .neq (.t 15) (.i 0)⟩]) (.cond (.t 16) (.seq (.region [ ⟨some 17, none, .mov (.t 4)⟩, ⟨some 2, none, .mov (.t 17)⟩]) .ret) .skip))) q14_3
def q14_4 : LC := e14_4
theorem u14_4 : Unf q14_4 e14_4 := fun _ _ _ _ _ => (rfl)
def e14_5 : LC :=
  .seq (.seq (.region [ ⟨some 7, none, .fieldA 0 (.t 1)⟩, ⟨some 8, none, .load none (.t 7)⟩, ⟨some 9, none, .call 47 [.t 8]⟩, ⟨some 3, none, .mov (.t 9)⟩]) (.seq (.region [ ⟨some 10, none, .mov (.t 3)⟩, ⟨some 11, none, .bin .neq (.t 10) (.i 0)⟩]) (.cond (.t 11) (.seq (.region [ ⟨some 12, none, .mov (.t 3)⟩, ⟨some 2, none, .mov (.t 12)⟩]) .ret) .skip))) q14_4
def q14_5 : LC := e14_5
theorem u14_5 : Unf q14_5 e14_5 := fun _ _ _ _ _ => (rfl)
def d_metrolabref20_Check : LC :=
  .seq (.region [ ⟨some 1, none, .box 1 (.t 0)⟩, ⟨some 2, none, .mov (.i 0)⟩]) q14_5
def c_metrolabref20_Check : LC := d_metrolabref20_Check
theorem w_metrolabref20_Check : Unf c_metrolabref20_Check d_metrolabref20_Check := fun _ _ _ _ _ => (rfl)
attribute [simp] e14_1 u14_1 e14_2 u14_2 e14_3 u14_3 e14_4 u14_4 e14_5 u14_5 d_metrolabref20_Check w_metrolabref20_Check
theorem k_metrolabref20_Check : chkF Tryz.prog Tryz.f14 1 [(2, none)] c_metrolabref20_Check = true := by kernel_rfl
/-- metrolab/drawing.Parse -/
def e17_1 : LC :=
  .seq (.region [ ⟨some 22, none, .mov (.t 5)⟩, ⟨some 23, none, .mov (.t 6)⟩, ⟨some 24, none, .idxA 1 (.t 22) (.t 23)⟩, ⟨some 25, none, .load none (.t 24)⟩, ⟨some 26, none, .bin .eql (.t 25) (.s [])⟩]) (.cond (.t 26) (.region [ ⟨some 27, none, .mov (.t 5)⟩, ⟨some 28, none, .mov (.t 6)⟩, ⟨some 29, none, .slcL 1 (.t 27) none (some (.t 28))⟩, ⟨some 5, none, .mov (.t 29)⟩]) .skip)
def q17_1 : LC := e17_1
theorem u17_1 : Unf q17_1 e17_1 := fun _ _ _ _ _ => (rfl)
def e17_2 : LC :=
  .cond (.t 69) (.seq (.region [ ⟨some 70, none, .build [.d (.str []), .nils, .nils] []⟩, ⟨some 71, none, .mov (.t 8)⟩, ⟨some 72, none, .mov (.t 11)⟩, ⟨none, none, .store 3 (.t 2) (.t 70)⟩, ⟨some 3, none, .mov (.t 71)⟩, ⟨some 4, none, .mov (.t 72)⟩]) .ret) .skip
def q17_2 : LC := e17_2
theorem u17_2 : Unf q17_2 e17_2 := fun _ _ _ _ _ => (rfl)
def e17_3 : LC :=
  .lift 10 (.seq (.seq (.region [ ⟨some 55, none, .mov (.t 10)⟩, ⟨some 56, none, .lenL (.t 55)⟩, ⟨some 57, none, .bin .eql (.t 56) (.i 0)⟩, ⟨some 58, none, .mov (.t 57)⟩, ⟨some 59, some (58, false), .mov (.t 10)⟩, ⟨some 60, some (58, false), .idxA 1 (.t 59) (.i 0)⟩, ⟨some 61, some (58, false), .load none (.t 60)⟩, ⟨some 62, some (58, false), .idxS (.t 61) (.i 0)⟩, ⟨some 63, some (58, false), .bin .eql (.t 62) (.c (.at (.d (.int .u8 35))))⟩, ⟨some 64, none, .pick (.t 58) (.b true) (.t 63)⟩]) (.cond (.t 64) (.exit 1) .skip)) (.seq (.region [ ⟨some 65, none, .mov (.t 7)⟩, ⟨some 66, none, .mov (.t 10)⟩, ⟨some 67, none, .callD 59 [.t 65, .t 66]⟩, ⟨some 11, none, .mov (.t 67)⟩]) (.seq (.region [ ⟨some 68, none, .mov (.t 11)⟩, ⟨some 69, none, .bin .neq (.t 68) (.i 0)⟩]) q17_2)))
def q17_3 : LC := e17_3
theorem u17_3 : Unf q17_3 e17_3 := fun _ _ _ _ _ => (rfl)
def e17_4 : LC :=
  .seq (.block 1 (.seq (.region [ ⟨some 49, none, .mov (.t 47)⟩, ⟨some 50, none, .idxA 1 (.t 45) (.t 47)⟩, ⟨some 51, none, .load none (.t 50)⟩, ⟨some 8, none, .mov (.t 49)⟩, ⟨some 9, none, .mov (.t 51)⟩]) (.seq (.region [ ⟨some 52, none, .mov (.t 9)⟩, ⟨some 53, none, .callD 24 [.t 52, .s [32]]⟩, ⟨some 54, none, .callD 57 [.t 53, .c (.at (.d (.fn 58 [])))]⟩, ⟨some 10, none, .mov (.t 54)⟩]) q17_3))) (.tailW [] (.region [ ⟨some 73, none, .bin .add (.t 47) (.i 1)⟩, ⟨some 47, none, .mov (.t 73)⟩]))
def q17_4 : LC := e17_4
theorem u17_4 : Unf q17_4 e17_4 := fun _ _ _ _ _ => (rfl)
def e17_5 : LC :=
  .seq (.region [ ⟨some 88, none, .mov (.t 12)⟩, ⟨some 89, none, .bin .neq (.t 88) (.i 0)⟩]) (.cond (.t 89) (.seq (.region [ ⟨some 90, none, .build [.d (.str []), .nils, .nils] []⟩, ⟨some 91, none, .mov (.t 5)⟩, ⟨some 92, none, .lenL (.t 91)⟩, ⟨some 93, none, .mov (.t 12)⟩, ⟨none, none, .store 3 (.t 2) (.t 90)⟩, ⟨some 3, none, .mov (.t 92)⟩, ⟨some 4, none, .mov (.t 93)⟩]) .ret) .skip)
def q17_5 : LC := e17_5
theorem u17_5 : Unf q17_5 e17_5 := fun _ _ _ _ _ => (rfl)
def e17_6 : LC :=
  .seq (.seq (.region [ ⟨some 83, none, .mov (.t 7)⟩, ⟨some 84, none, .nilck (.t 83)⟩, ⟨some 85, none, .fieldA 0 (.t 84)⟩, ⟨some 86, none, .load (some 3) (.t 85)⟩, ⟨some 87, none, .callF 13 [.t 86]⟩, ⟨some 12, none, .mov (.t 87)⟩]) q17_5) (.seq (.region [ ⟨some 94, none, .mov (.t 7)⟩, ⟨some 95, none, .nilck (.t 94)⟩, ⟨some 96, none, .fieldA 0 (.t 95)⟩, ⟨some 97, none, .load (some 3) (.t 96)⟩, ⟨none, none, .store 3 (.t 2) (.t 97)⟩, ⟨some 3, none, .mov (.i 0)⟩, ⟨some 4, none, .mov (.i 0)⟩]) .ret)
def q17_6 : LC := e17_6
theorem u17_6 : Unf q17_6 e17_6 := fun _ _ _ _ _ => (rfl)
def e17_7 : LC :=
  .seq (.seq (.region [ ⟨some 74, none, .mov (.t 7)⟩, ⟨some 75, none, .nilck (.t 74)⟩, ⟨some 76, none, .fieldA 0 (.t 75)⟩, ⟨some 77, none, .fieldA 0 (.t 76)⟩, ⟨some 78, none, .load none (.t 77)⟩, ⟨some 79, none, .bin .eql (.t 78) (.s [])⟩]) (.cond (.t 79) (.seq (.region [ ⟨some 80, none, .build [.d (.str []), .nils, .nils] []⟩, ⟨some 81, none, .mov (.t 5)⟩, ⟨some 82, none, .lenL (.t 81)⟩, ⟨none, none, .store 3 (.t 2) (.t 80)⟩, ⟨some 3, none, .mov (.t 82)⟩, ⟨some 4, none, .mov (.i 13)⟩]) .ret) .skip)) q17_6
def q17_7 : LC := e17_7
theorem u17_7 : Unf q17_7 e17_7 := fun _ _ _ _ _ => (rfl)
def e17_8 : LC :=
  .ownC 31 2 1031 94 5 (.seq (.region [ ⟨some 32, none, .mov (.t 7)⟩, ⟨some 33, none, .mkMap 33⟩, ⟨some 34, none, .mov (.t 7)⟩, ⟨some 35, none, .bind 53 (.t 34)⟩, ⟨none, none, .mapUpd (.t 33) (.s [100, 114, 97, 119, 105, 110, 103]) (.t 35)⟩, ⟨some 36, none, .mov (.t 7)⟩, ⟨some 37, none, .bind 54 (.t 36)⟩, ⟨none, none, .mapUpd (.t 33) (.s [102, 101, 97, 116, 117, 114, 101]) (.t 37)⟩, ⟨some 38, none, .mov (.t 7)⟩, ⟨some 39, none, .bind 55 (.t 38)⟩, ⟨none, none, .mapUpd (.t 33) (.s [102, 114, 97, 109, 101]) (.t 39)⟩, ⟨some 40, none, .mov (.t 7)⟩, ⟨some 41, none, .bind 56 (.t 40)⟩, ⟨none, none, .mapUpd (.t 33) (.s [100, 105, 109, 101, 110, 115, 105, 111, 110]) (.t 41)⟩, ⟨some 42, none, .mov (.t 33)⟩, ⟨some 43, none, .nilck (.t 32)⟩, ⟨some 44, none, .fieldA 3 (.t 43)⟩, ⟨none, none, .store 1 (.t 44) (.t 42)⟩]) (.seq (.seq (.region [ ⟨some 45, none, .mov (.t 5)⟩, ⟨some 46, none, .lenL (.t 45)⟩, ⟨some 47, none, .mov (.i 0)⟩]) (.block 0 (.weak [] (.loop (.seq (.region [ ⟨some 48, none, .bin .lss (.t 47) (.t 46)⟩]) (.seq (.cond (.t 48) .skip (.exit 0)) q17_4)))))) q17_7))
def q17_8 : LC := e17_8
theorem u17_8 : Unf q17_8 e17_8 := fun _ _ _ _ _ => (rfl)
def e17_9 : LC :=
  .lift 5 (.seq (.seq (.region [ ⟨some 19, none, .mov (.t 5)⟩, ⟨some 20, none, .lenL (.t 19)⟩, ⟨some 21, none, .bin .sub (.t 20) (.i 1)⟩, ⟨some 6, none, .mov (.t 21)⟩]) q17_1) (.seq (.region [ ⟨some 30, none, .build [.d (.str []), .nils, .nils, .any] []⟩, ⟨some 31, none, .box 31 (.t 30)⟩, ⟨some 7, none, .mov (.t 31)⟩]) q17_8))
def q17_9 : LC := e17_9
theorem u17_9 : Unf q17_9 e17_9 := fun _ _ _ _ _ => (rfl)
def e17_10 : LC :=
  .seq (.seq (.region [ ⟨some 13, none, .mov (.t 0)⟩, ⟨some 14, none, .lenS (.t 13)⟩, ⟨some 15, none, .bin .gtr (.t 14) (.i 65536)⟩]) (.cond (.t 15) (.seq (.region [ ⟨some 16, none, .build [.d (.str []), .nils, .nils] []⟩, ⟨none, none, .store 3 (.t 2) (.t 16)⟩, ⟨some 3, none, .mov (.i 0)⟩, ⟨some 4, none, .mov (.i 17)⟩]) .ret) .skip)) (.seq (.region [ ⟨some 17, none, .mov (.t 0)⟩, ⟨some 18, none, .callD 24 [.t 17, .s [10]]⟩, ⟨some 5, none, .mov (.t 18)⟩]) q17_9)
def q17_10 : LC := e17_10
theorem u17_10 : Unf q17_10 e17_10 := fun _ _ _ _ _ => (rfl)
def d_drawing_Parse : LC :=
  .seq (.region [ ⟨some 2, none, .alloc 2 [.d (.str []), .nils, .nils]⟩, ⟨some 3, none, .mov (.i 0)⟩, ⟨some 4, none, .mov (.i 0)⟩]) q17_10
def c_drawing_Parse : LC := d_drawing_Parse
theorem w_drawing_Parse : Unf c_drawing_Parse d_drawing_Parse := fun _ _ _ _ _ => (rfl)
attribute [simp] e17_1 u17_1 e17_2 u17_2 e17_3 u17_3 e17_4 u17_4 e17_5 u17_5 e17_6 u17_6 e17_7 u17_7 e17_8 u17_8 e17_9 u17_9 e17_10 u17_10 d_drawing_Parse w_drawing_Parse
theorem k_drawing_Parse : chkF Tryz.prog Tryz.f17 1 [(2, some (some 3)), (3, none), (4, none)] c_drawing_Parse = true := by kernel_rfl
/-- metrolab/metrolabref20.Same -/
def e19_1 : LC :=
  .seq (.block 1 (.seq (.draw [0, 1, 0, 7, 15, 0, 32, 0, 224, 480, 1023, 2047] [ ⟨some 37, none, .fieldA 1 (.t 2)⟩, ⟨some 38, none, .load none (.t 37)⟩, ⟨some 39, none, .mov (.t 5)⟩, ⟨some 40, none, .idxA 9 (.t 38) (.t 39)⟩, ⟨some 41, none, .load (some 9) (.t 40)⟩, ⟨some 42, none, .fieldA 1 (.t 3)⟩, ⟨some 43, none, .load none (.t 42)⟩, ⟨some 44, none, .mov (.t 5)⟩, ⟨some 45, none, .idxA 9 (.t 43) (.t 44)⟩, ⟨some 46, none, .load (some 9) (.t 45)⟩, ⟨some 47, none, .call 35 [.t 41, .t 46]⟩, ⟨some 48, none, .not (.t 47)⟩]) (.cond (.t 48) (.seq (.region [ ⟨some 4, none, .mov (.b false)⟩]) .ret) .skip))) (.keep [2, 3, 5] [2, 3] (.tail [2, 3, 5] [2, 3] (.region [ ⟨some 35, none, .mov (.t 5)⟩, ⟨some 36, none, .bin .add (.t 35) (.i 1)⟩, ⟨some 5, none, .mov (.t 36)⟩])))
def q19_1 : LC := e19_1
theorem u19_1 : Unf q19_1 e19_1 := fun _ _ _ _ _ => (rfl)
def e19_2 : LC :=
  .block 0 (.keep [2, 3, 5] [2, 3] (.loop (.seq (.seq (.region [ ⟨some 30, none, .mov (.t 5)⟩, ⟨some 31, none, .fieldA 1 (.t 2)⟩, ⟨some 32, none, .load none (.t 31)⟩, ⟨some 33, none, .lenL (.t 32)⟩, ⟨some 34, none, .bin .lss (.t 30) (.t 33)⟩]) (.cond (.t 34) .skip (.exit 0))) q19_1)))
def q19_2 : LC := e19_2
theorem u19_2 : Unf q19_2 e19_2 := fun _ _ _ _ _ => (rfl)
def e19_3 : LC :=
  .seq (.block 3 (.seq (.draw [0, 1, 0, 7, 15, 0, 32, 0, 224, 480, 1023] [ ⟨some 56, none, .fieldA 2 (.t 2)⟩, ⟨some 57, none, .load none (.t 56)⟩, ⟨some 58, none, .mov (.t 6)⟩, ⟨some 59, none, .idxA 5 (.t 57) (.t 58)⟩, ⟨some 60, none, .load (some 5) (.t 59)⟩, ⟨some 61, none, .fieldA 2 (.t 3)⟩, ⟨some 62, none, .load none (.t 61)⟩, ⟨some 63, none, .mov (.t 6)⟩, ⟨some 64, none, .idxA 5 (.t 62) (.t 63)⟩, ⟨some 65, none, .load (some 5) (.t 64)⟩, ⟨some 66, none, .eqAgg true [1, 1, 0, 0, 0] (.t 60) (.t 65)⟩]) (.cond (.t 66) (.seq (.region [ ⟨some 4, none, .mov (.b false)⟩]) .ret) .skip))) (.keep [2, 3, 6] [2, 3] (.tail [2, 3, 6] [2, 3] (.region [ ⟨some 54, none, .mov (.t 6)⟩, ⟨some 55, none, .bin .add (.t 54) (.i 1)⟩, ⟨some 6, none, .mov (.t 55)⟩])))
def q19_3 : LC := e19_3
theorem u19_3 : Unf q19_3 e19_3 := fun _ _ _ _ _ => (rfl)
def e19_4 : LC :=
  .block 2 (.keep [2, 3, 6] [2, 3] (.loop (.seq (.seq (.region [ ⟨some 49, none, .mov (.t 6)⟩, ⟨some 50, none, .fieldA 2 (.t 2)⟩, ⟨some 51, none, .load none (.t 50)⟩, ⟨some 52, none, .lenL (.t 51)⟩, ⟨some 53, none, .bin .lss (.t 49) (.t 52)⟩]) (.cond (.t 53) .skip (.exit 2))) q19_3)))
def q19_4 : LC := e19_4
theorem u19_4 : Unf q19_4 e19_4 := fun _ _ _ _ _ => (rfl)
def e19_5 : LC :=
  .seq (.seq (.region [ ⟨some 7, none, .fieldA 0 (.t 2)⟩, ⟨some 8, none, .load none (.t 7)⟩, ⟨some 9, none, .fieldA 0 (.t 3)⟩, ⟨some 10, none, .load none (.t 9)⟩, ⟨some 11, none, .bin .neq (.t 8) (.t 10)⟩, ⟨some 12, none, .mov (.t 11)⟩, ⟨some 13, some (12, false), .fieldA 1 (.t 2)⟩, ⟨some 14, some (12, false), .load none (.t 13)⟩, ⟨some 15, some (12, false), .lenL (.t 14)⟩, ⟨some 16, some (12, false), .fieldA 1 (.t 3)⟩, ⟨some 17, some (12, false), .load none (.t 16)⟩, ⟨some 18, some (12, false), .lenL (.t 17)⟩, ⟨some 19, some (12, false), .bin .neq (.t 15) (.t 18)⟩, ⟨some 20, none, .pick (.t 12) (.b true) (.t 19)⟩, ⟨some 21, none, .mov (.t 20)⟩, ⟨some 22, some (21, false), .fieldA 2 (.t 2)⟩, ⟨some 23, some (21, false), .load none (.t 22)⟩, ⟨some 24, some (21, false), .lenL (.t 23)⟩, ⟨some 25, some (21, false), .fieldA 2 (.t 3)⟩, ⟨some 26, some (21, false), .load none (.t 25)⟩, ⟨some 27, some (21, false), .lenL (.t 26)⟩, ⟨some 28, some (21, false), .bin .neq (.t 24) (.t 27)⟩, ⟨some 29, none, .pick (.t 21) (.b true) (.t 28)⟩]) (.cond (.t 29) (.seq (.region [ ⟨some 4, none, .mov (.b false)⟩]) .ret) .skip)) (.seq (.seq (.region [ ⟨some 5, none, .mov (.i 0)⟩]) q19_2) (.seq (.seq (.region [ ⟨some 6, none, .mov (.i 0)⟩]) q19_4) (.seq (.region [ ⟨some 4, none, .mov (.b true)⟩]) .ret)))
def q19_5 : LC := e19_5
theorem u19_5 : Unf q19_5 e19_5 := fun _ _ _ _ _ => (rfl)
def d_metrolabref20_Same : LC :=
  .seq (.region [ ⟨some 2, none, .box 2 (.t 0)⟩, ⟨some 3, none, .box 3 (.t 1)⟩, ⟨some 4, none, .mov (.b false)⟩]) q19_5
def c_metrolabref20_Same : LC := d_metrolabref20_Same
theorem w_metrolabref20_Same : Unf c_metrolabref20_Same d_metrolabref20_Same := fun _ _ _ _ _ => (rfl)
attribute [simp] e19_1 u19_1 e19_2 u19_2 e19_3 u19_3 e19_4 u19_4 e19_5 u19_5 d_metrolabref20_Same w_metrolabref20_Same
theorem k_metrolabref20_Same : chkF Tryz.prog Tryz.f19 2 [(4, none)] c_metrolabref20_Same = true := by kernel_rfl
/-- metrolab/metrolablaw20.right -/
def d_metrolablaw20_right : LC :=
  .seq (.region [ ⟨some 1, none, .box 1 (.t 0)⟩, ⟨some 2, none, .mov (.b false)⟩]) (.seq (.region [ ⟨some 3, none, .load (some 3) (.t 1)⟩, ⟨some 4, none, .call 9 [.t 3]⟩, ⟨some 5, none, .mov (.t 4)⟩, ⟨some 6, some (5, true), .load (some 3) (.t 1)⟩, ⟨some 7, some (5, true), .call 14 [.t 6]⟩, ⟨some 8, some (5, true), .bin .eql (.t 7) (.i 0)⟩, ⟨some 9, none, .pick (.t 5) (.t 8) (.b false)⟩, ⟨some 2, none, .mov (.t 9)⟩]) .ret)
def c_metrolablaw20_right : LC := d_metrolablaw20_right
theorem w_metrolablaw20_right : Unf c_metrolablaw20_right d_metrolablaw20_right := fun _ _ _ _ _ => (rfl)
attribute [simp] d_metrolablaw20_right w_metrolablaw20_right
theorem k_metrolablaw20_right : chkF Tryz.prog Tryz.f20 1 [(2, none)] c_metrolablaw20_right = true := by kernel_rfl
/-- metrolab/drawing.Depends -/
def e21_1 : LC :=
  .seq (.seq (.region [ ⟨some 12, none, .load (some 3) (.t 2)⟩, ⟨some 13, none, .mov (.t 1)⟩, ⟨some 14, none, .call 62 [.t 12, .t 13]⟩, ⟨some 15, none, .bin .lss (.t 14) (.i 0)⟩]) (.cond (.t 15) (.seq (.region [ ⟨some 4, none, .mov (.c (.at (.nils)))⟩, ⟨some 5, none, .mov (.i 6)⟩]) (.lift 4 .ret)) .skip)) (.seq (.region [ ⟨some 16, none, .load (some 3) (.t 2)⟩, ⟨some 17, none, .mov (.t 1)⟩, ⟨some 18, none, .call 45 [.t 16, .t 17]⟩, ⟨some 4, none, .mov (.t 18)⟩, ⟨some 5, none, .mov (.i 0)⟩]) (.lift 4 .ret))
def q21_1 : LC := e21_1
theorem u21_1 : Unf q21_1 e21_1 := fun _ _ _ _ _ => (rfl)
def e21_2 : LC :=
  .lift 4 (.seq (.seq (.region [ ⟨some 7, none, .load (some 3) (.t 2)⟩, ⟨some 8, none, .call 13 [.t 7]⟩, ⟨some 6, none, .mov (.t 8)⟩]) (.seq (.region [ ⟨some 9, none, .mov (.t 6)⟩, ⟨some 10, none, .bin .neq (.t 9) (.i 0)⟩]) (.cond (.t 10) (.seq (.region [ ⟨some 11, none, .mov (.t 6)⟩, ⟨some 4, none, .mov (.c (.at (.nils)))⟩, ⟨some 5, none, .mov (.t 11)⟩]) (.lift 4 .ret)) .skip))) q21_1)
def q21_2 : LC := e21_2
theorem u21_2 : Unf q21_2 e21_2 := fun _ _ _ _ _ => (rfl)
def d_drawing_Depends : LC :=
  .seq (.region [ ⟨some 2, none, .box 2 (.t 0)⟩, ⟨some 4, none, .mov (.c (.at (.nils)))⟩, ⟨some 5, none, .mov (.i 0)⟩]) q21_2
def c_drawing_Depends : LC := d_drawing_Depends
theorem w_drawing_Depends : Unf c_drawing_Depends d_drawing_Depends := fun _ _ _ _ _ => (rfl)
attribute [simp] e21_1 u21_1 e21_2 u21_2 d_drawing_Depends w_drawing_Depends
theorem k_drawing_Depends : chkF Tryz.prog Tryz.f21 2 [(4, none), (5, none)] c_drawing_Depends = true := by kernel_rfl
/-- metrolab/drawing.Find -/
def e30_1 : LC :=
  .seq (.region [ ⟨some 10, none, .mov (.t 6)⟩, ⟨some 11, none, .bin .neq (.t 10) (.i 0)⟩]) (.cond (.t 11) (.seq (.region [ ⟨some 12, none, .build [.d (.str []), .d (.int .i64 0), .d (.int .i64 0), .d (.int .i64 0), .d (.int .i64 0), .d (.int .i64 0), .d (.int .i64 0), .d (.int .i64 0), .nils] []⟩, ⟨some 13, none, .mov (.t 6)⟩, ⟨none, none, .store 9 (.t 4) (.t 12)⟩, ⟨some 5, none, .mov (.t 13)⟩]) .ret) .skip)
def q30_1 : LC := e30_1
theorem u30_1 : Unf q30_1 e30_1 := fun _ _ _ _ _ => (rfl)
def e30_2 : LC :=
  .seq (.seq (.region [ ⟨some 17, none, .mov (.t 7)⟩, ⟨some 18, none, .bin .lss (.t 17) (.i 0)⟩]) (.cond (.t 18) (.seq (.region [ ⟨some 19, none, .build [.d (.str []), .d (.int .i64 0), .d (.int .i64 0), .d (.int .i64 0), .d (.int .i64 0), .d (.int .i64 0), .d (.int .i64 0), .d (.int .i64 0), .nils] []⟩, ⟨none, none, .store 9 (.t 4) (.t 19)⟩, ⟨some 5, none, .mov (.i 6)⟩]) .ret) .skip)) (.seq (.region [ ⟨some 20, none, .fieldA 1 (.t 2)⟩, ⟨some 21, none, .load none (.t 20)⟩, ⟨some 22, none, .mov (.t 7)⟩, ⟨some 23, none, .idxA 9 (.t 21) (.t 22)⟩, ⟨some 24, none, .load (some 9) (.t 23)⟩, ⟨some 25, none, .call 73 [.t 24]⟩, ⟨none, none, .store 9 (.t 4) (.t 25)⟩, ⟨some 5, none, .mov (.i 0)⟩]) .ret)
def q30_2 : LC := e30_2
theorem u30_2 : Unf q30_2 e30_2 := fun _ _ _ _ _ => (rfl)
def d_drawing_Find : LC :=
  .seq (.region [ ⟨some 2, none, .box 2 (.t 0)⟩, ⟨some 4, none, .alloc 4 [.d (.str []), .d (.int .i64 0), .d (.int .i64 0), .d (.int .i64 0), .d (.int .i64 0), .d (.int .i64 0), .d (.int .i64 0), .d (.int .i64 0), .nils]⟩, ⟨some 5, none, .mov (.i 0)⟩]) (.seq (.seq (.region [ ⟨some 8, none, .load (some 3) (.t 2)⟩, ⟨some 9, none, .call 13 [.t 8]⟩, ⟨some 6, none, .mov (.t 9)⟩]) q30_1) (.seq (.region [ ⟨some 14, none, .load (some 3) (.t 2)⟩, ⟨some 15, none, .mov (.t 1)⟩, ⟨some 16, none, .call 62 [.t 14, .t 15]⟩, ⟨some 7, none, .mov (.t 16)⟩]) q30_2))
def c_drawing_Find : LC := d_drawing_Find
theorem w_drawing_Find : Unf c_drawing_Find d_drawing_Find := fun _ _ _ _ _ => (rfl)
attribute [simp] e30_1 u30_1 e30_2 u30_2 d_drawing_Find w_drawing_Find
theorem k_drawing_Find : chkF Tryz.prog Tryz.f30 2 [(4, some (some 9)), (5, none)] c_drawing_Find = true := by kernel_rfl
/-- metrolab/metrolabref20.Find -/
def e31_1 : LC :=
  .seq (.region [ ⟨some 10, none, .mov (.t 6)⟩, ⟨some 11, none, .bin .neq (.t 10) (.i 0)⟩]) (.cond (.t 11) (.seq (.region [ ⟨some 12, none, .build [.d (.str []), .d (.int .i64 0), .d (.int .i64 0), .d (.int .i64 0), .d (.int .i64 0), .d (.int .i64 0), .d (.int .i64 0), .d (.int .i64 0), .nils] []⟩, ⟨some 13, none, .mov (.t 6)⟩, ⟨none, none, .store 9 (.t 4) (.t 12)⟩, ⟨some 5, none, .mov (.t 13)⟩]) .ret) .skip)
def q31_1 : LC := e31_1
theorem u31_1 : Unf q31_1 e31_1 := fun _ _ _ _ _ => (rfl)
def e31_2 : LC :=
  .seq (.seq (.region [ ⟨some 17, none, .mov (.t 7)⟩, ⟨some 18, none, .bin .lss (.t 17) (.i 0)⟩]) (.cond (.t 18) (.seq (.region [ ⟨some 19, none, .build [.d (.str []), .d (.int .i64 0), .d (.int .i64 0), .d (.int .i64 0), .d (.int .i64 0), .d (.int .i64 0), .d (.int .i64 0), .d (.int .i64 0), .nils] []⟩, ⟨none, none, .store 9 (.t 4) (.t 19)⟩, ⟨some 5, none, .mov (.i 6)⟩]) .ret) .skip)) (.seq (.region [ ⟨some 20, none, .fieldA 1 (.t 2)⟩, ⟨some 21, none, .load none (.t 20)⟩, ⟨some 22, none, .mov (.t 7)⟩, ⟨some 23, none, .idxA 9 (.t 21) (.t 22)⟩, ⟨some 24, none, .load (some 9) (.t 23)⟩, ⟨none, none, .store 9 (.t 4) (.t 24)⟩, ⟨some 5, none, .mov (.i 0)⟩]) .ret)
def q31_2 : LC := e31_2
theorem u31_2 : Unf q31_2 e31_2 := fun _ _ _ _ _ => (rfl)
def d_metrolabref20_Find : LC :=
  .seq (.region [ ⟨some 2, none, .box 2 (.t 0)⟩, ⟨some 4, none, .alloc 4 [.d (.str []), .d (.int .i64 0), .d (.int .i64 0), .d (.int .i64 0), .d (.int .i64 0), .d (.int .i64 0), .d (.int .i64 0), .d (.int .i64 0), .nils]⟩, ⟨some 5, none, .mov (.i 0)⟩]) (.seq (.seq (.region [ ⟨some 8, none, .load (some 3) (.t 2)⟩, ⟨some 9, none, .call 14 [.t 8]⟩, ⟨some 6, none, .mov (.t 9)⟩]) q31_1) (.seq (.region [ ⟨some 14, none, .load (some 3) (.t 2)⟩, ⟨some 15, none, .mov (.t 1)⟩, ⟨some 16, none, .call 74 [.t 14, .t 15]⟩, ⟨some 7, none, .mov (.t 16)⟩]) q31_2))
def c_metrolabref20_Find : LC := d_metrolabref20_Find
theorem w_metrolabref20_Find : Unf c_metrolabref20_Find d_metrolabref20_Find := fun _ _ _ _ _ => (rfl)
attribute [simp] e31_1 u31_1 e31_2 u31_2 d_metrolabref20_Find w_metrolabref20_Find
theorem k_metrolabref20_Find : chkF Tryz.prog Tryz.f31 2 [(4, some (some 9)), (5, none)] c_metrolabref20_Find = true := by kernel_rfl
/-- metrolab/metrolabref20.Depends -/
def e32_1 : LC :=
  .seq (.seq (.region [ ⟨some 12, none, .load (some 3) (.t 2)⟩, ⟨some 13, none, .mov (.t 1)⟩, ⟨some 14, none, .call 74 [.t 12, .t 13]⟩, ⟨some 15, none, .bin .lss (.t 14) (.i 0)⟩]) (.cond (.t 15) (.seq (.region [ ⟨some 4, none, .mov (.c (.at (.nils)))⟩, ⟨some 5, none, .mov (.i 6)⟩]) (.lift 4 .ret)) .skip)) (.seq (.region [ ⟨some 16, none, .load (some 3) (.t 2)⟩, ⟨some 17, none, .mov (.t 1)⟩, ⟨some 18, none, .call 51 [.t 16, .t 17]⟩, ⟨some 4, none, .mov (.t 18)⟩, ⟨some 5, none, .mov (.i 0)⟩]) (.lift 4 .ret))
def q32_1 : LC := e32_1
theorem u32_1 : Unf q32_1 e32_1 := fun _ _ _ _ _ => (rfl)
def e32_2 : LC :=
  .lift 4 (.seq (.seq (.region [ ⟨some 7, none, .load (some 3) (.t 2)⟩, ⟨some 8, none, .call 14 [.t 7]⟩, ⟨some 6, none, .mov (.t 8)⟩]) (.seq (.region [ ⟨some 9, none, .mov (.t 6)⟩, ⟨some 10, none, .bin .neq (.t 9) (.i 0)⟩]) (.cond (.t 10) (.seq (.region [ ⟨some 11, none, .mov (.t 6)⟩, ⟨some 4, none, .mov (.c (.at (.nils)))⟩, ⟨some 5, none, .mov (.t 11)⟩]) (.lift 4 .ret)) .skip))) q32_1)
def q32_2 : LC := e32_2
theorem u32_2 : Unf q32_2 e32_2 := fun _ _ _ _ _ => (rfl)
def d_metrolabref20_Depends : LC :=
  .seq (.region [ ⟨some 2, none, .box 2 (.t 0)⟩, ⟨some 4, none, .mov (.c (.at (.nils)))⟩, ⟨some 5, none, .mov (.i 0)⟩]) q32_2
def c_metrolabref20_Depends : LC := d_metrolabref20_Depends
theorem w_metrolabref20_Depends : Unf c_metrolabref20_Depends d_metrolabref20_Depends := fun _ _ _ _ _ => (rfl)
attribute [simp] e32_1 u32_1 e32_2 u32_2 d_metrolabref20_Depends w_metrolabref20_Depends
theorem k_metrolabref20_Depends : chkF Tryz.prog Tryz.f32 2 [(4, none), (5, none)] c_metrolabref20_Depends = true := by kernel_rfl
/-- metrolab/drawing.Nominal -/
def e33_1 : LC :=
  .seq (.seq (.region [ ⟨some 16, none, .mov (.t 3)⟩, ⟨some 17, none, .bin .lss (.t 16) (.i 0)⟩, ⟨some 18, none, .mov (.t 17)⟩, ⟨some 19, some (18, false), .mov (.t 3)⟩, ⟨some 20, some (18, false), .bin .geq (.t 19) (.i 3)⟩, ⟨some 21, none, .pick (.t 18) (.b true) (.t 20)⟩]) (.cond (.t 21) (.seq (.region [ ⟨some 8, none, .mov (.i 0)⟩, ⟨some 9, none, .mov (.i 1)⟩]) .ret) .skip)) (.seq (.region [ ⟨some 22, none, .load (some 3) (.t 4)⟩, ⟨some 23, none, .mov (.t 1)⟩, ⟨some 24, none, .mov (.t 2)⟩, ⟨some 25, none, .mov (.t 3)⟩, ⟨some 26, none, .call 75 [.t 22, .t 23, .t 24, .t 25]⟩, ⟨some 27, none, .ext (.t 26) 0⟩, ⟨some 28, none, .ext (.t 26) 1⟩, ⟨some 8, none, .mov (.t 27)⟩, ⟨some 9, none, .mov (.t 28)⟩]) .ret)
def q33_1 : LC := e33_1
theorem u33_1 : Unf q33_1 e33_1 := fun _ _ _ _ _ => (rfl)
def e33_2 : LC :=
  .seq (.seq (.region [ ⟨some 11, none, .load (some 3) (.t 4)⟩, ⟨some 12, none, .call 13 [.t 11]⟩, ⟨some 10, none, .mov (.t 12)⟩]) (.seq (.region [ ⟨some 13, none, .mov (.t 10)⟩, ⟨some 14, none, .bin .neq (.t 13) (.i 0)⟩]) (.cond (.t 14) (.seq (.region [ ⟨some 15, none, .mov (.t 10)⟩, ⟨some 8, none, .mov (.i 0)⟩, ⟨some 9, none, .mov (.t 15)⟩]) .ret) .skip))) q33_1
def q33_2 : LC := e33_2
theorem u33_2 : Unf q33_2 e33_2 := fun _ _ _ _ _ => (rfl)
def d_drawing_Nominal : LC :=
  .seq (.region [ ⟨some 4, none, .box 4 (.t 0)⟩, ⟨some 8, none, .mov (.i 0)⟩, ⟨some 9, none, .mov (.i 0)⟩]) q33_2
def c_drawing_Nominal : LC := d_drawing_Nominal
theorem w_drawing_Nominal : Unf c_drawing_Nominal d_drawing_Nominal := fun _ _ _ _ _ => (rfl)
attribute [simp] e33_1 u33_1 e33_2 u33_2 d_drawing_Nominal w_drawing_Nominal
theorem k_drawing_Nominal : chkF Tryz.prog Tryz.f33 4 [(8, none), (9, none)] c_drawing_Nominal = true := by kernel_rfl
/-- metrolab/metrolabref20.Nominal -/
def e34_1 : LC :=
  .seq (.seq (.region [ ⟨some 17, none, .mov (.t 3)⟩, ⟨some 18, none, .call 76 [.t 17]⟩, ⟨some 11, none, .mov (.t 18)⟩]) (.seq (.region [ ⟨some 19, none, .mov (.t 11)⟩, ⟨some 20, none, .bin .neq (.t 19) (.i 0)⟩]) (.cond (.t 20) (.seq (.region [ ⟨some 21, none, .mov (.t 11)⟩, ⟨some 8, none, .mov (.i 0)⟩, ⟨some 9, none, .mov (.t 21)⟩]) .ret) .skip))) (.seq (.region [ ⟨some 22, none, .load (some 3) (.t 4)⟩, ⟨some 23, none, .mov (.t 1)⟩, ⟨some 24, none, .mov (.t 2)⟩, ⟨some 25, none, .mov (.t 3)⟩, ⟨some 26, none, .call 77 [.t 22, .t 23, .t 24, .t 25]⟩, ⟨some 27, none, .ext (.t 26) 0⟩, ⟨some 28, none, .ext (.t 26) 1⟩, ⟨some 8, none, .mov (.t 27)⟩, ⟨some 9, none, .mov (.t 28)⟩]) .ret)
def q34_1 : LC := e34_1
theorem u34_1 : Unf q34_1 e34_1 := fun _ _ _ _ _ => (rfl)
def e34_2 : LC :=
  .seq (.seq (.region [ ⟨some 12, none, .load (some 3) (.t 4)⟩, ⟨some 13, none, .call 14 [.t 12]⟩, ⟨some 10, none, .mov (.t 13)⟩]) (.seq (.region [ ⟨some 14, none, .mov (.t 10)⟩, ⟨some 15, none, .bin .neq (.t 14) (.i 0)⟩]) (.cond (.t 15) (.seq (.region [ ⟨some 16, none, .mov (.t 10)⟩, ⟨some 8, none, .mov (.i 0)⟩, ⟨some 9, none, .mov (.t 16)⟩]) .ret) .skip))) q34_1
def q34_2 : LC := e34_2
theorem u34_2 : Unf q34_2 e34_2 := fun _ _ _ _ _ => (rfl)
def d_metrolabref20_Nominal : LC :=
  .seq (.region [ ⟨some 4, none, .box 4 (.t 0)⟩, ⟨some 8, none, .mov (.i 0)⟩, ⟨some 9, none, .mov (.i 0)⟩]) q34_2
def c_metrolabref20_Nominal : LC := d_metrolabref20_Nominal
theorem w_metrolabref20_Nominal : Unf c_metrolabref20_Nominal d_metrolabref20_Nominal := fun _ _ _ _ _ => (rfl)
attribute [simp] e34_1 u34_1 e34_2 u34_2 d_metrolabref20_Nominal w_metrolabref20_Nominal
theorem k_metrolabref20_Nominal : chkF Tryz.prog Tryz.f34 4 [(8, none), (9, none)] c_metrolabref20_Nominal = true := by kernel_rfl
/-- metrolab/drawing.Remove -/
def e38_1 : LC :=
  .seq (.region [ ⟨some 36, none, .fieldA 1 (.t 9)⟩, ⟨some 37, none, .load none (.t 36)⟩, ⟨some 38, none, .mov (.t 7)⟩, ⟨some 39, none, .mov (.t 7)⟩, ⟨some 40, none, .bin .add (.t 39) (.i 1)⟩, ⟨some 41, none, .callD 83 [.t 37, .t 38, .t 40]⟩, ⟨some 42, none, .fieldA 1 (.t 9)⟩, ⟨none, none, .store 1 (.t 42) (.t 41)⟩]) (.seq (.region [ ⟨some 43, none, .load (some 3) (.t 9)⟩, ⟨none, none, .store 3 (.t 4) (.t 43)⟩, ⟨some 5, none, .mov (.i 0)⟩]) .ret)
def q38_1 : LC := e38_1
theorem u38_1 : Unf q38_1 e38_1 := fun _ _ _ _ _ => (rfl)
def e38_2 : LC :=
  .seq (.seq (.draw [0, 1, 3, 7, 3, 31, 63] [ ⟨some 26, none, .mov (.t 8)⟩, ⟨some 27, none, .mov (.t 26)⟩, ⟨some 28, some (27, false), .load (some 3) (.t 2)⟩, ⟨some 29, some (27, false), .call 41 [.t 28]⟩, ⟨some 30, some (27, false), .load none (.t 3)⟩, ⟨some 31, some (27, false), .call 22 [.t 29, .t 30]⟩, ⟨some 32, none, .pick (.t 27) (.b true) (.t 31)⟩]) (.cond (.t 32) (.seq (.region [ ⟨some 33, none, .build [.d (.str []), .nils, .nils] []⟩, ⟨none, none, .store 3 (.t 4) (.t 33)⟩, ⟨some 5, none, .mov (.i 14)⟩]) .ret) .skip)) (.seq (.region [ ⟨some 34, none, .load (some 3) (.t 2)⟩, ⟨some 35, none, .callD 79 [.t 34]⟩, ⟨some 9, none, .alloc 9 [.d (.str []), .nils, .nils]⟩, ⟨none, none, .store 3 (.t 9) (.t 35)⟩]) q38_1)
def q38_2 : LC := e38_2
theorem u38_2 : Unf q38_2 e38_2 := fun _ _ _ _ _ => (rfl)
def e38_3 : LC :=
  .seq (.seq (.region [ ⟨some 19, none, .mov (.t 7)⟩, ⟨some 20, none, .bin .lss (.t 19) (.i 0)⟩]) (.cond (.t 20) (.seq (.region [ ⟨some 21, none, .build [.d (.str []), .nils, .nils] []⟩, ⟨none, none, .store 3 (.t 4) (.t 21)⟩, ⟨some 5, none, .mov (.i 6)⟩]) .ret) .skip)) (.seq (.region [ ⟨some 22, none, .fieldA 2 (.t 2)⟩, ⟨some 23, none, .load none (.t 22)⟩, ⟨some 24, none, .fn 82 [.t 3]⟩, ⟨some 25, none, .call 81 [.t 23, .t 24]⟩, ⟨some 8, none, .mov (.t 25)⟩]) q38_2)
def q38_3 : LC := e38_3
theorem u38_3 : Unf q38_3 e38_3 := fun _ _ _ _ _ => (rfl)
def e38_4 : LC :=
  .lift 3 (.seq (.seq (.region [ ⟨some 10, none, .load (some 3) (.t 2)⟩, ⟨some 11, none, .call 13 [.t 10]⟩, ⟨some 6, none, .mov (.t 11)⟩]) (.seq (.region [ ⟨some 12, none, .mov (.t 6)⟩, ⟨some 13, none, .bin .neq (.t 12) (.i 0)⟩]) (.cond (.t 13) (.seq (.region [ ⟨some 14, none, .build [.d (.str []), .nils, .nils] []⟩, ⟨some 15, none, .mov (.t 6)⟩, ⟨none, none, .store 3 (.t 4) (.t 14)⟩, ⟨some 5, none, .mov (.t 15)⟩]) .ret) .skip))) (.seq (.region [ ⟨some 16, none, .load (some 3) (.t 2)⟩, ⟨some 17, none, .load none (.t 3)⟩, ⟨some 18, none, .call 62 [.t 16, .t 17]⟩, ⟨some 7, none, .mov (.t 18)⟩]) q38_3))
def q38_4 : LC := e38_4
theorem u38_4 : Unf q38_4 e38_4 := fun _ _ _ _ _ => (rfl)
def d_drawing_Remove : LC :=
  .seq (.region [ ⟨some 2, none, .box 2 (.t 0)⟩, ⟨some 3, none, .box 3 (.t 1)⟩, ⟨some 4, none, .alloc 4 [.d (.str []), .nils, .nils]⟩, ⟨some 5, none, .mov (.i 0)⟩]) q38_4
def c_drawing_Remove : LC := d_drawing_Remove
theorem w_drawing_Remove : Unf c_drawing_Remove d_drawing_Remove := fun _ _ _ _ _ => (rfl)
attribute [simp] e38_1 u38_1 e38_2 u38_2 e38_3 u38_3 e38_4 u38_4 d_drawing_Remove w_drawing_Remove
theorem k_drawing_Remove : chkF Tryz.prog Tryz.f38 2 [(4, some (some 3)), (5, none)] c_drawing_Remove = true := by kernel_rfl
/-- metrolab/drawing.used -/
def e41_1 : LC :=
  .keep [3, 7, 8, 9] [1003] (.seq (.block 1 (.seq (.region [ ⟨some 11, none, .idxA 9 (.t 7) (.t 9)⟩, ⟨some 12, none, .load (some 9) (.t 11)⟩, ⟨some 5, none, .alloc 5 [.d (.str []), .d (.int .i64 0), .d (.int .i64 0), .d (.int .i64 0), .d (.int .i64 0), .d (.int .i64 0), .d (.int .i64 0), .d (.int .i64 0), .nils]⟩, ⟨none, none, .store 9 (.t 5) (.t 12)⟩]) (.region [ ⟨some 13, none, .mov (.t 3)⟩, ⟨some 14, none, .load (some 9) (.t 5)⟩, ⟨some 15, none, .call 87 [.t 14]⟩, ⟨some 16, none, .append 9 1 (.t 13) (.t 15)⟩, ⟨some 3, none, .mov (.t 16)⟩]))) (.keep [3, 7, 8, 9] [1003] (.tail [3, 7, 8, 9] [1003] (.region [ ⟨some 17, none, .bin .add (.t 9) (.i 1)⟩, ⟨some 9, none, .mov (.t 17)⟩]))))
def q41_1 : LC := e41_1
theorem u41_1 : Unf q41_1 e41_1 := fun _ _ _ _ _ => (rfl)
def e41_2 : LC :=
  .own 3 1003 9 1 (.seq (.seq (.region [ ⟨some 6, none, .fieldA 1 (.t 1)⟩, ⟨some 7, none, .load none (.t 6)⟩, ⟨some 8, none, .lenL (.t 7)⟩, ⟨some 9, none, .mov (.i 0)⟩]) (.block 0 (.keep [3, 7, 8, 9] [1003] (.loop (.seq (.region [ ⟨some 10, none, .bin .lss (.t 9) (.t 8)⟩]) (.seq (.cond (.t 10) .skip (.exit 0)) q41_1)))))) (.seq (.region [ ⟨some 18, none, .mov (.t 3)⟩, ⟨some 19, none, .callD 88 [.t 18]⟩, ⟨some 2, none, .mov (.t 19)⟩]) (.lift 2 .ret)))
def q41_2 : LC := e41_2
theorem u41_2 : Unf q41_2 e41_2 := fun _ _ _ _ _ => (rfl)
def d_drawing_used : LC :=
  .seq (.region [ ⟨some 1, none, .box 1 (.t 0)⟩, ⟨some 2, none, .mov (.c (.at (.nils)))⟩]) (.lift 2 (.seq (.region [ ⟨some 3, none, .mov (.c (.at (.nils)))⟩]) q41_2))
def c_drawing_used : LC := d_drawing_used
theorem w_drawing_used : Unf c_drawing_used d_drawing_used := fun _ _ _ _ _ => (rfl)
attribute [simp] e41_1 u41_1 e41_2 u41_2 d_drawing_used w_drawing_used
theorem k_drawing_used : chkF Tryz.prog Tryz.f41 1 [(2, none)] c_drawing_used = true := by kernel_rfl
/-- metrolab/metrolabref20.Used -/
def e42_1 : LC :=
  .seq (.block 3 (.region [ ⟨some 26, none, .mov (.t 3)⟩, ⟨some 27, none, .mov (.t 5)⟩, ⟨some 28, none, .mov (.t 6)⟩, ⟨some 29, none, .idxA 1 (.t 27) (.t 28)⟩, ⟨some 30, none, .load none (.t 29)⟩, ⟨some 31, none, .call 90 [.t 26, .t 30]⟩, ⟨some 3, none, .mov (.t 31)⟩])) (.keep [1, 3, 4, 5, 6] [1] (.tail [1, 3, 4, 5, 6] [1] (.region [ ⟨some 24, none, .mov (.t 6)⟩, ⟨some 25, none, .bin .add (.t 24) (.i 1)⟩, ⟨some 6, none, .mov (.t 25)⟩])))
def q42_1 : LC := e42_1
theorem u42_1 : Unf q42_1 e42_1 := fun _ _ _ _ _ => (rfl)
def e42_2 : LC :=
  .block 2 (.keep [1, 3, 4, 5, 6] [1] (.loop (.seq (.seq (.region [ ⟨some 20, none, .mov (.t 6)⟩, ⟨some 21, none, .mov (.t 5)⟩, ⟨some 22, none, .lenL (.t 21)⟩, ⟨some 23, none, .bin .lss (.t 20) (.t 22)⟩]) (.cond (.t 23) .skip (.exit 2))) q42_1)))
def q42_2 : LC := e42_2
theorem u42_2 : Unf q42_2 e42_2 := fun _ _ _ _ _ => (rfl)
def e42_3 : LC :=
  .seq (.block 1 (.seq (.region [ ⟨some 14, none, .fieldA 1 (.t 1)⟩, ⟨some 15, none, .load none (.t 14)⟩, ⟨some 16, none, .mov (.t 4)⟩, ⟨some 17, none, .idxA 9 (.t 15) (.t 16)⟩, ⟨some 18, none, .load (some 9) (.t 17)⟩, ⟨some 19, none, .call 89 [.t 18]⟩, ⟨some 5, none, .mov (.t 19)⟩]) (.seq (.region [ ⟨some 6, none, .mov (.i 0)⟩]) q42_2))) (.keep [1, 3, 4] [1] (.tail [1, 3, 4] [1] (.region [ ⟨some 12, none, .mov (.t 4)⟩, ⟨some 13, none, .bin .add (.t 12) (.i 1)⟩, ⟨some 4, none, .mov (.t 13)⟩])))
def q42_3 : LC := e42_3
theorem u42_3 : Unf q42_3 e42_3 := fun _ _ _ _ _ => (rfl)
def e42_4 : LC :=
  .block 0 (.keep [1, 3, 4] [1] (.loop (.seq (.seq (.region [ ⟨some 7, none, .mov (.t 4)⟩, ⟨some 8, none, .fieldA 1 (.t 1)⟩, ⟨some 9, none, .load none (.t 8)⟩, ⟨some 10, none, .lenL (.t 9)⟩, ⟨some 11, none, .bin .lss (.t 7) (.t 10)⟩]) (.cond (.t 11) .skip (.exit 0))) q42_3)))
def q42_4 : LC := e42_4
theorem u42_4 : Unf q42_4 e42_4 := fun _ _ _ _ _ => (rfl)
def d_metrolabref20_Used : LC :=
  .seq (.region [ ⟨some 1, none, .box 1 (.t 0)⟩, ⟨some 2, none, .mov (.c (.at (.nils)))⟩]) (.lift 2 (.seq (.region [ ⟨some 3, none, .mov (.c (.at (.nils)))⟩]) (.lift 3 (.seq (.seq (.region [ ⟨some 4, none, .mov (.i 0)⟩]) q42_4) (.seq (.region [ ⟨some 32, none, .mov (.t 3)⟩, ⟨some 2, none, .mov (.t 32)⟩]) (.lift 2 .ret))))))
def c_metrolabref20_Used : LC := d_metrolabref20_Used
theorem w_metrolabref20_Used : Unf c_metrolabref20_Used d_metrolabref20_Used := fun _ _ _ _ _ => (rfl)
attribute [simp] e42_1 u42_1 e42_2 u42_2 e42_3 u42_3 e42_4 u42_4 d_metrolabref20_Used w_metrolabref20_Used
theorem k_metrolabref20_Used : chkF Tryz.prog Tryz.f42 1 [(2, none)] c_metrolabref20_Used = true := by kernel_rfl
/-- metrolab/drawing.features -/
def e44_1 : LC :=
  .seq (.draw [0, 1, 3, 7, 15, 7, 39, 7, 135, 487, 999, 2023, 4095, 8191] [ ⟨some 30, none, .mov (.t 3)⟩, ⟨some 31, none, .bin .gtr (.t 30) (.i 0)⟩, ⟨some 32, none, .mov (.t 31)⟩, ⟨some 33, some (32, true), .fieldA 0 (.t 4)⟩, ⟨some 34, some (32, true), .load none (.t 33)⟩, ⟨some 35, some (32, true), .fieldA 1 (.t 1)⟩, ⟨some 36, some (32, true), .load none (.t 35)⟩, ⟨some 37, some (32, true), .mov (.t 3)⟩, ⟨some 38, some (32, true), .bin .sub (.t 37) (.i 1)⟩, ⟨some 39, some (32, true), .idxA 9 (.t 36) (.t 38)⟩, ⟨some 40, some (32, true), .fieldA 0 (.t 39)⟩, ⟨some 41, some (32, true), .load none (.t 40)⟩, ⟨some 42, some (32, true), .bin .leq (.t 34) (.t 41)⟩, ⟨some 43, none, .pick (.t 32) (.t 42) (.b false)⟩]) (.cond (.t 43) (.seq (.region [ ⟨some 2, none, .mov (.i 9)⟩]) .ret) .skip)
def q44_1 : LC := e44_1
theorem u44_1 : Unf q44_1 e44_1 := fun _ _ _ _ _ => (rfl)
def e44_2 : LC :=
  .seq (.seq (.region [ ⟨some 25, none, .load (some 9) (.t 4)⟩, ⟨some 26, none, .call 93 [.t 25]⟩, ⟨some 5, none, .mov (.t 26)⟩]) (.seq (.region [ ⟨some 27, none, .mov (.t 5)⟩, ⟨some 28, none, .bin .neq (.t 27) (.i 0)⟩]) (.cond (.t 28) (.seq (.region [ ⟨some 29, none, .mov (.t 5)⟩, ⟨some 2, none, .mov (.t 29)⟩]) .ret) .skip))) q44_1
def q44_2 : LC := e44_2
theorem u44_2 : Unf q44_2 e44_2 := fun _ _ _ _ _ => (rfl)
def e44_3 : LC :=
  .keep [1, 18, 19, 20] [1] (.seq (.block 1 (.seq (.region [ ⟨some 22, none, .mov (.t 20)⟩, ⟨some 23, none, .idxA 9 (.t 18) (.t 20)⟩, ⟨some 24, none, .load (some 9) (.t 23)⟩, ⟨some 4, none, .alloc 4 [.d (.str []), .d (.int .i64 0), .d (.int .i64 0), .d (.int .i64 0), .d (.int .i64 0), .d (.int .i64 0), .d (.int .i64 0), .d (.int .i64 0), .nils]⟩, ⟨some 3, none, .mov (.t 22)⟩, ⟨none, none, .store 9 (.t 4) (.t 24)⟩]) q44_2)) (.keep [1, 18, 19, 20] [1] (.tail [1, 18, 19, 20] [1] (.region [ ⟨some 44, none, .bin .add (.t 20) (.i 1)⟩, ⟨some 20, none, .mov (.t 44)⟩]))))
def q44_3 : LC := e44_3
theorem u44_3 : Unf q44_3 e44_3 := fun _ _ _ _ _ => (rfl)
def e44_4 : LC :=
  .seq (.region [ ⟨some 72, none, .fieldA 1 (.t 11)⟩, ⟨some 73, none, .load none (.t 72)⟩, ⟨some 74, none, .bin .neq (.t 73) (.i 0)⟩, ⟨some 75, none, .mov (.t 74)⟩, ⟨some 76, some (75, true), .fieldA 1 (.t 1)⟩, ⟨some 77, some (75, true), .load none (.t 76)⟩, ⟨some 78, some (75, true), .mov (.t 12)⟩, ⟨some 79, some (75, true), .idxA 9 (.t 77) (.t 78)⟩, ⟨some 80, some (75, true), .fieldA 1 (.t 79)⟩, ⟨some 81, some (75, true), .load none (.t 80)⟩, ⟨some 82, some (75, true), .bin .eql (.t 81) (.i 0)⟩, ⟨some 83, none, .pick (.t 75) (.t 82) (.b false)⟩]) (.cond (.t 83) (.seq (.region [ ⟨some 2, none, .mov (.i 3)⟩]) .ret) .skip)
def q44_4 : LC := e44_4
theorem u44_4 : Unf q44_4 e44_4 := fun _ _ _ _ _ => (rfl)
def e44_5 : LC :=
  .seq (.seq (.region [ ⟨some 70, none, .mov (.t 12)⟩, ⟨some 71, none, .bin .lss (.t 70) (.i 0)⟩]) (.cond (.t 71) (.seq (.region [ ⟨some 2, none, .mov (.i 6)⟩]) .ret) .skip)) q44_4
def q44_5 : LC := e44_5
theorem u44_5 : Unf q44_5 e44_5 := fun _ _ _ _ _ => (rfl)
def e44_6 : LC :=
  .seq (.region [ ⟨some 66, none, .load (some 3) (.t 1)⟩, ⟨some 67, none, .fieldA 0 (.t 11)⟩, ⟨some 68, none, .load none (.t 67)⟩, ⟨some 69, none, .call 62 [.t 66, .t 68]⟩, ⟨some 12, none, .mov (.t 69)⟩]) q44_5
def q44_6 : LC := e44_6
theorem u44_6 : Unf q44_6 e44_6 := fun _ _ _ _ _ => (rfl)
def e44_7 : LC :=
  .keep [1, 46, 47, 48, 53, 54, 55, 60, 61, 62] [1] (.seq (.block 7 (.seq (.region [ ⟨some 64, none, .idxA 2 (.t 60) (.t 62)⟩, ⟨some 65, none, .load (some 2) (.t 64)⟩, ⟨some 11, none, .alloc 11 [.d (.str []), .d (.int .i64 0)]⟩, ⟨none, none, .store 2 (.t 11) (.t 65)⟩]) q44_6)) (.keep [1, 46, 47, 48, 53, 54, 55, 60, 61, 62] [1] (.tail [1, 46, 47, 48, 53, 54, 55, 60, 61, 62] [1] (.region [ ⟨some 84, none, .bin .add (.t 62) (.i 1)⟩, ⟨some 62, none, .mov (.t 84)⟩]))))
def q44_7 : LC := e44_7
theorem u44_7 : Unf q44_7 e44_7 := fun _ _ _ _ _ => (rfl)
def e44_8 : LC :=
  .seq (.region [ ⟨some 59, none, .fieldA 4 (.t 9)⟩, ⟨some 60, none, .load none (.t 59)⟩, ⟨some 61, none, .lenL (.t 60)⟩, ⟨some 62, none, .mov (.i 0)⟩]) (.block 6 (.keep [1, 46, 47, 48, 53, 54, 55, 60, 61, 62] [1] (.loop (.seq (.region [ ⟨some 63, none, .bin .lss (.t 62) (.t 61)⟩]) (.seq (.cond (.t 63) .skip (.exit 6)) q44_7)))))
def q44_8 : LC := e44_8
theorem u44_8 : Unf q44_8 e44_8 := fun _ _ _ _ _ => (rfl)
def e44_9 : LC :=
  .keep [1, 46, 47, 48, 53, 54, 55] [1] (.seq (.block 5 (.seq (.region [ ⟨some 57, none, .idxA 5 (.t 53) (.t 55)⟩, ⟨some 58, none, .load (some 5) (.t 57)⟩, ⟨some 9, none, .alloc 9 [.d (.int .i64 0), .d (.bool false), .d (.int .i64 0), .d (.int .i64 0), .nils]⟩, ⟨none, none, .store 5 (.t 9) (.t 58)⟩]) q44_8)) (.keep [1, 46, 47, 48, 53, 54, 55] [1] (.tail [1, 46, 47, 48, 53, 54, 55] [1] (.region [ ⟨some 85, none, .bin .add (.t 55) (.i 1)⟩, ⟨some 55, none, .mov (.t 85)⟩]))))
def q44_9 : LC := e44_9
theorem u44_9 : Unf q44_9 e44_9 := fun _ _ _ _ _ => (rfl)
def e44_10 : LC :=
  .seq (.region [ ⟨some 52, none, .fieldA 8 (.t 7)⟩, ⟨some 53, none, .load none (.t 52)⟩, ⟨some 54, none, .lenL (.t 53)⟩, ⟨some 55, none, .mov (.i 0)⟩]) (.block 4 (.keep [1, 46, 47, 48, 53, 54, 55] [1] (.loop (.seq (.region [ ⟨some 56, none, .bin .lss (.t 55) (.t 54)⟩]) (.seq (.cond (.t 56) .skip (.exit 4)) q44_9)))))
def q44_10 : LC := e44_10
theorem u44_10 : Unf q44_10 e44_10 := fun _ _ _ _ _ => (rfl)
def e44_11 : LC :=
  .keep [1, 46, 47, 48] [1] (.seq (.block 3 (.seq (.region [ ⟨some 50, none, .idxA 9 (.t 46) (.t 48)⟩, ⟨some 51, none, .load (some 9) (.t 50)⟩, ⟨some 7, none, .alloc 7 [.d (.str []), .d (.int .i64 0), .d (.int .i64 0), .d (.int .i64 0), .d (.int .i64 0), .d (.int .i64 0), .d (.int .i64 0), .d (.int .i64 0), .nils]⟩, ⟨none, none, .store 9 (.t 7) (.t 51)⟩]) q44_10)) (.keep [1, 46, 47, 48] [1] (.tail [1, 46, 47, 48] [1] (.region [ ⟨some 86, none, .bin .add (.t 48) (.i 1)⟩, ⟨some 48, none, .mov (.t 86)⟩]))))
def q44_11 : LC := e44_11
theorem u44_11 : Unf q44_11 e44_11 := fun _ _ _ _ _ => (rfl)
def e44_12 : LC :=
  .seq (.seq (.region [ ⟨some 45, none, .fieldA 1 (.t 1)⟩, ⟨some 46, none, .load none (.t 45)⟩, ⟨some 47, none, .lenL (.t 46)⟩, ⟨some 48, none, .mov (.i 0)⟩]) (.block 2 (.keep [1, 46, 47, 48] [1] (.loop (.seq (.region [ ⟨some 49, none, .bin .lss (.t 48) (.t 47)⟩]) (.seq (.cond (.t 49) .skip (.exit 2)) q44_11)))))) (.seq (.region [ ⟨some 2, none, .mov (.i 0)⟩]) .ret)
def q44_12 : LC := e44_12
theorem u44_12 : Unf q44_12 e44_12 := fun _ _ _ _ _ => (rfl)
def e44_13 : LC :=
  .seq (.seq (.region [ ⟨some 17, none, .fieldA 1 (.t 1)⟩, ⟨some 18, none, .load none (.t 17)⟩, ⟨some 19, none, .lenL (.t 18)⟩, ⟨some 20, none, .mov (.i 0)⟩]) (.block 0 (.keep [1, 18, 19, 20] [1] (.loop (.seq (.region [ ⟨some 21, none, .bin .lss (.t 20) (.t 19)⟩]) (.seq (.cond (.t 21) .skip (.exit 0)) q44_3)))))) q44_12
def q44_13 : LC := e44_13
theorem u44_13 : Unf q44_13 e44_13 := fun _ _ _ _ _ => (rfl)
def d_drawing_features : LC :=
  .seq (.region [ ⟨some 1, none, .box 1 (.t 0)⟩, ⟨some 2, none, .mov (.i 0)⟩]) (.seq (.seq (.region [ ⟨some 13, none, .fieldA 1 (.t 1)⟩, ⟨some 14, none, .load none (.t 13)⟩, ⟨some 15, none, .lenL (.t 14)⟩, ⟨some 16, none, .bin .gtr (.t 15) (.i 32)⟩]) (.cond (.t 16) (.seq (.region [ ⟨some 2, none, .mov (.i 5)⟩]) .ret) .skip)) q44_13)
def c_drawing_features : LC := d_drawing_features
theorem w_drawing_features : Unf c_drawing_features d_drawing_features := fun _ _ _ _ _ => (rfl)
attribute [simp] e44_1 u44_1 e44_2 u44_2 e44_3 u44_3 e44_4 u44_4 e44_5 u44_5 e44_6 u44_6 e44_7 u44_7 e44_8 u44_8 e44_9 u44_9 e44_10 u44_10 e44_11 u44_11 e44_12 u44_12 e44_13 u44_13 d_drawing_features w_drawing_features
theorem k_drawing_features : chkF Tryz.prog Tryz.f44 1 [(2, none)] c_drawing_features = true := by kernel_rfl
/-- metrolab/drawing.needs -/
def e45_1 : LC :=
  .keep [7, 15] [9, 15, 1007] (.tail [7, 15] [9, 15, 1007] (.block 1 (.seq (.region [ ⟨some 18, none, .entryM (.t 15)⟩, ⟨some 19, none, .ext (.t 18) 0⟩, ⟨some 8, none, .mov (.t 19)⟩]) (.region [ ⟨some 20, none, .mov (.t 7)⟩, ⟨some 21, none, .mov (.t 8)⟩, ⟨some 22, none, .buildS 22 9 1 1 [(0, 1, .t 21)]⟩, ⟨some 23, none, .append 9 1 (.t 20) (.t 22)⟩, ⟨some 7, none, .mov (.t 23)⟩]))))
def q45_1 : LC := e45_1
theorem u45_1 : Unf q45_1 e45_1 := fun _ _ _ _ _ => (rfl)
def e45_2 : LC :=
  .own 7 1007 9 1 (.seq (.seq (.region [ ⟨some 14, none, .load none (.t 5)⟩, ⟨some 15, none, .rangeM 15 (.t 14)⟩]) (.block 0 (.keep [7, 15] [9, 15, 1007] (.loop (.seq (.region [ ⟨some 16, none, .nextM (.t 15)⟩, ⟨some 17, none, .ext (.t 16) 0⟩]) (.seq (.cond (.t 17) .skip (.exit 0)) q45_1)))))) (.seq (.region [ ⟨some 24, none, .mov (.t 7)⟩, ⟨some 25, none, .callD 88 [.t 24]⟩, ⟨some 4, none, .mov (.t 25)⟩]) (.lift 4 .ret)))
def q45_2 : LC := e45_2
theorem u45_2 : Unf q45_2 e45_2 := fun _ _ _ _ _ => (rfl)
def e45_3 : LC :=
  .seq (.region [ ⟨some 6, none, .alloc 6 [.d .nilf]⟩]) (.seq (.region [ ⟨some 10, none, .fn 94 [.t 2, .t 5, .t 6]⟩, ⟨none, none, .store 1 (.t 6) (.t 10)⟩]) (.seq (.region [ ⟨some 11, none, .load none (.t 6)⟩, ⟨some 12, none, .mov (.t 1)⟩, ⟨some 13, none, .callvD (.t 11) [.t 12]⟩]) (.seq (.region [ ⟨some 7, none, .mov (.c (.at (.nils)))⟩]) q45_2)))
def q45_3 : LC := e45_3
theorem u45_3 : Unf q45_3 e45_3 := fun _ _ _ _ _ => (rfl)
def d_drawing_needs : LC :=
  .seq (.region [ ⟨some 2, none, .box 2 (.t 0)⟩, ⟨some 4, none, .mov (.c (.at (.nils)))⟩]) (.lift 4 (.lift 2 (.seq (.region [ ⟨some 9, none, .mkMap 9⟩, ⟨some 5, none, .alloc 5 [.any]⟩, ⟨none, none, .store 1 (.t 5) (.t 9)⟩]) q45_3)))
def c_drawing_needs : LC := d_drawing_needs
theorem w_drawing_needs : Unf c_drawing_needs d_drawing_needs := fun _ _ _ _ _ => (rfl)
attribute [simp] e45_1 u45_1 e45_2 u45_2 e45_3 u45_3 d_drawing_needs w_drawing_needs
theorem k_drawing_needs : chkF Tryz.prog Tryz.f45 2 [(4, none)] c_drawing_needs = true := by kernel_rfl
/-- metrolab/drawing.dimensions -/
def e46_1 : LC :=
  .seq (.region [ ⟨some 52, none, .mov (.t 6)⟩, ⟨some 53, none, .fieldA 3 (.t 4)⟩, ⟨some 54, none, .fieldA 0 (.t 53)⟩, ⟨some 55, none, .load none (.t 54)⟩, ⟨some 56, none, .bin .lss (.t 52) (.t 55)⟩, ⟨some 57, none, .mov (.t 56)⟩, ⟨some 58, some (57, false), .mov (.t 6)⟩, ⟨some 59, some (57, false), .fieldA 3 (.t 4)⟩, ⟨some 60, some (57, false), .fieldA 1 (.t 59)⟩, ⟨some 61, some (57, false), .load none (.t 60)⟩, ⟨some 62, some (57, false), .bin .gtr (.t 58) (.t 61)⟩, ⟨some 63, none, .pick (.t 57) (.b true) (.t 62)⟩]) (.cond (.t 63) (.seq (.region [ ⟨some 2, none, .mov (.i 16)⟩]) .ret) .skip)
def q46_1 : LC := e46_1
theorem u46_1 : Unf q46_1 e46_1 := fun _ _ _ _ _ => (rfl)
def e46_2 : LC :=
  .seq (.region [ ⟨some 39, none, .load (some 3) (.t 1)⟩, ⟨some 40, none, .fieldA 0 (.t 4)⟩, ⟨some 41, none, .load none (.t 40)⟩, ⟨some 42, none, .fieldA 1 (.t 4)⟩, ⟨some 43, none, .load none (.t 42)⟩, ⟨some 44, none, .fieldA 2 (.t 4)⟩, ⟨some 45, none, .load none (.t 44)⟩, ⟨some 46, none, .call 75 [.t 39, .t 41, .t 43, .t 45]⟩, ⟨some 38, none, .mov (.t 46)⟩, ⟨some 47, none, .ext (.t 38) 0⟩, ⟨some 48, none, .ext (.t 38) 1⟩, ⟨some 6, none, .mov (.t 47)⟩, ⟨some 7, none, .mov (.t 48)⟩]) (.seq (.seq (.region [ ⟨some 49, none, .mov (.t 7)⟩, ⟨some 50, none, .bin .neq (.t 49) (.i 0)⟩]) (.cond (.t 50) (.seq (.region [ ⟨some 51, none, .mov (.t 7)⟩, ⟨some 2, none, .mov (.t 51)⟩]) .ret) .skip)) q46_1)
def q46_2 : LC := e46_2
theorem u46_2 : Unf q46_2 e46_2 := fun _ _ _ _ _ => (rfl)
def e46_3 : LC :=
  .seq (.seq (.draw [0, 1, 3, 7, 15, 7, 39, 127, 255, 7, 1023, 2047, 4095] [ ⟨some 25, none, .mov (.t 3)⟩, ⟨some 26, none, .bin .gtr (.t 25) (.i 0)⟩, ⟨some 27, none, .mov (.t 26)⟩, ⟨some 28, some (27, true), .fieldA 2 (.t 1)⟩, ⟨some 29, some (27, true), .load none (.t 28)⟩, ⟨some 30, some (27, true), .mov (.t 3)⟩, ⟨some 31, some (27, true), .bin .sub (.t 30) (.i 1)⟩, ⟨some 32, some (27, true), .idxA 5 (.t 29) (.t 31)⟩, ⟨some 33, some (27, true), .load (some 5) (.t 32)⟩, ⟨some 34, some (27, true), .load (some 5) (.t 4)⟩, ⟨some 35, some (27, true), .call 96 [.t 33, .t 34]⟩, ⟨some 36, some (27, true), .bin .geq (.t 35) (.i 0)⟩, ⟨some 37, none, .pick (.t 27) (.t 36) (.b false)⟩]) (.cond (.t 37) (.seq (.region [ ⟨some 2, none, .mov (.i 9)⟩]) .ret) .skip)) q46_2
def q46_3 : LC := e46_3
theorem u46_3 : Unf q46_3 e46_3 := fun _ _ _ _ _ => (rfl)
def e46_4 : LC :=
  .seq (.seq (.region [ ⟨some 20, none, .load (some 5) (.t 4)⟩, ⟨some 21, none, .call 95 [.t 20]⟩, ⟨some 5, none, .mov (.t 21)⟩]) (.seq (.region [ ⟨some 22, none, .mov (.t 5)⟩, ⟨some 23, none, .bin .neq (.t 22) (.i 0)⟩]) (.cond (.t 23) (.seq (.region [ ⟨some 24, none, .mov (.t 5)⟩, ⟨some 2, none, .mov (.t 24)⟩]) .ret) .skip))) q46_3
def q46_4 : LC := e46_4
theorem u46_4 : Unf q46_4 e46_4 := fun _ _ _ _ _ => (rfl)
def e46_5 : LC :=
  .keep [1, 13, 14, 15] [1] (.seq (.block 1 (.seq (.region [ ⟨some 17, none, .mov (.t 15)⟩, ⟨some 18, none, .idxA 5 (.t 13) (.t 15)⟩, ⟨some 19, none, .load (some 5) (.t 18)⟩, ⟨some 4, none, .alloc 4 [.d (.str []), .d (.str []), .d (.int .i64 0), .d (.int .i64 0), .d (.int .i64 0)]⟩, ⟨some 3, none, .mov (.t 17)⟩, ⟨none, none, .store 5 (.t 4) (.t 19)⟩]) q46_4)) (.keep [1, 13, 14, 15] [1] (.tail [1, 13, 14, 15] [1] (.region [ ⟨some 64, none, .bin .add (.t 15) (.i 1)⟩, ⟨some 15, none, .mov (.t 64)⟩]))))
def q46_5 : LC := e46_5
theorem u46_5 : Unf q46_5 e46_5 := fun _ _ _ _ _ => (rfl)
def e46_6 : LC :=
  .seq (.seq (.region [ ⟨some 12, none, .fieldA 2 (.t 1)⟩, ⟨some 13, none, .load none (.t 12)⟩, ⟨some 14, none, .lenL (.t 13)⟩, ⟨some 15, none, .mov (.i 0)⟩]) (.block 0 (.keep [1, 13, 14, 15] [1] (.loop (.seq (.region [ ⟨some 16, none, .bin .lss (.t 15) (.t 14)⟩]) (.seq (.cond (.t 16) .skip (.exit 0)) q46_5)))))) (.seq (.region [ ⟨some 2, none, .mov (.i 0)⟩]) .ret)
def q46_6 : LC := e46_6
theorem u46_6 : Unf q46_6 e46_6 := fun _ _ _ _ _ => (rfl)
def d_drawing_dimensions : LC :=
  .seq (.region [ ⟨some 1, none, .box 1 (.t 0)⟩, ⟨some 2, none, .mov (.i 0)⟩]) (.seq (.seq (.region [ ⟨some 8, none, .fieldA 2 (.t 1)⟩, ⟨some 9, none, .load none (.t 8)⟩, ⟨some 10, none, .lenL (.t 9)⟩, ⟨some 11, none, .bin .gtr (.t 10) (.i 256)⟩]) (.cond (.t 11) (.seq (.region [ ⟨some 2, none, .mov (.i 5)⟩]) .ret) .skip)) q46_6)
def c_drawing_dimensions : LC := d_drawing_dimensions
theorem w_drawing_dimensions : Unf c_drawing_dimensions d_drawing_dimensions := fun _ _ _ _ _ => (rfl)
attribute [simp] e46_1 u46_1 e46_2 u46_2 e46_3 u46_3 e46_4 u46_4 e46_5 u46_5 e46_6 u46_6 d_drawing_dimensions w_drawing_dimensions
theorem k_drawing_dimensions : chkF Tryz.prog Tryz.f46 1 [(2, none)] c_drawing_dimensions = true := by kernel_rfl
/-- metrolab/metrolabref20.features -/
def e48_1 : LC :=
  .seq (.draw [0, 1, 3, 7, 15, 7, 63, 127, 255, 7, 519, 7, 2055, 7687, 15879, 32263, 65535, 131071] [ ⟨some 25, none, .mov (.t 3)⟩, ⟨some 26, none, .bin .gtr (.t 25) (.i 0)⟩, ⟨some 27, none, .mov (.t 26)⟩, ⟨some 28, some (27, true), .fieldA 1 (.t 1)⟩, ⟨some 29, some (27, true), .load none (.t 28)⟩, ⟨some 30, some (27, true), .mov (.t 3)⟩, ⟨some 31, some (27, true), .idxA 9 (.t 29) (.t 30)⟩, ⟨some 32, some (27, true), .fieldA 0 (.t 31)⟩, ⟨some 33, some (27, true), .load none (.t 32)⟩, ⟨some 34, some (27, true), .fieldA 1 (.t 1)⟩, ⟨some 35, some (27, true), .load none (.t 34)⟩, ⟨some 36, some (27, true), .mov (.t 3)⟩, ⟨some 37, some (27, true), .bin .sub (.t 36) (.i 1)⟩, ⟨some 38, some (27, true), .idxA 9 (.t 35) (.t 37)⟩, ⟨some 39, some (27, true), .fieldA 0 (.t 38)⟩, ⟨some 40, some (27, true), .load none (.t 39)⟩, ⟨some 41, some (27, true), .bin .leq (.t 33) (.t 40)⟩, ⟨some 42, none, .pick (.t 27) (.t 41) (.b false)⟩]) (.cond (.t 42) (.seq (.region [ ⟨some 2, none, .mov (.i 9)⟩]) .ret) .skip)
def q48_1 : LC := e48_1
theorem u48_1 : Unf q48_1 e48_1 := fun _ _ _ _ _ => (rfl)
def e48_2 : LC :=
  .seq (.block 1 (.seq (.seq (.region [ ⟨some 16, none, .fieldA 1 (.t 1)⟩, ⟨some 17, none, .load none (.t 16)⟩, ⟨some 18, none, .mov (.t 3)⟩, ⟨some 19, none, .idxA 9 (.t 17) (.t 18)⟩, ⟨some 20, none, .load (some 9) (.t 19)⟩, ⟨some 21, none, .call 98 [.t 20]⟩, ⟨some 4, none, .mov (.t 21)⟩]) (.seq (.region [ ⟨some 22, none, .mov (.t 4)⟩, ⟨some 23, none, .bin .neq (.t 22) (.i 0)⟩]) (.cond (.t 23) (.seq (.region [ ⟨some 24, none, .mov (.t 4)⟩, ⟨some 2, none, .mov (.t 24)⟩]) .ret) .skip))) q48_1)) (.keep [1, 3] [1] (.tail [1, 3] [1] (.region [ ⟨some 14, none, .mov (.t 3)⟩, ⟨some 15, none, .bin .add (.t 14) (.i 1)⟩, ⟨some 3, none, .mov (.t 15)⟩])))
def q48_2 : LC := e48_2
theorem u48_2 : Unf q48_2 e48_2 := fun _ _ _ _ _ => (rfl)
def e48_3 : LC :=
  .block 0 (.keep [1, 3] [1] (.loop (.seq (.seq (.region [ ⟨some 9, none, .mov (.t 3)⟩, ⟨some 10, none, .fieldA 1 (.t 1)⟩, ⟨some 11, none, .load none (.t 10)⟩, ⟨some 12, none, .lenL (.t 11)⟩, ⟨some 13, none, .bin .lss (.t 9) (.t 12)⟩]) (.cond (.t 13) .skip (.exit 0))) q48_2)))
def q48_3 : LC := e48_3
theorem u48_3 : Unf q48_3 e48_3 := fun _ _ _ _ _ => (rfl)
def e48_4 : LC :=
  .seq (.seq (.region [ ⟨some 5, none, .fieldA 1 (.t 1)⟩, ⟨some 6, none, .load none (.t 5)⟩, ⟨some 7, none, .lenL (.t 6)⟩, ⟨some 8, none, .bin .gtr (.t 7) (.i 32)⟩]) (.cond (.t 8) (.seq (.region [ ⟨some 2, none, .mov (.i 5)⟩]) .ret) .skip)) (.seq (.seq (.region [ ⟨some 3, none, .mov (.i 0)⟩]) q48_3) (.seq (.region [ ⟨some 2, none, .mov (.i 0)⟩]) .ret))
def q48_4 : LC := e48_4
theorem u48_4 : Unf q48_4 e48_4 := fun _ _ _ _ _ => (rfl)
def d_metrolabref20_features : LC :=
  .seq (.region [ ⟨some 1, none, .box 1 (.t 0)⟩, ⟨some 2, none, .mov (.i 0)⟩]) q48_4
def c_metrolabref20_features : LC := d_metrolabref20_features
theorem w_metrolabref20_features : Unf c_metrolabref20_features d_metrolabref20_features := fun _ _ _ _ _ => (rfl)
attribute [simp] e48_1 u48_1 e48_2 u48_2 e48_3 u48_3 e48_4 u48_4 d_metrolabref20_features w_metrolabref20_features
theorem k_metrolabref20_features : chkF Tryz.prog Tryz.f48 1 [(2, none)] c_metrolabref20_features = true := by kernel_rfl
/-- metrolab/metrolabref20.datums -/
def e49_1 : LC :=
  .seq (.region [ ⟨some 52, none, .fieldA 1 (.t 7)⟩, ⟨some 53, none, .load none (.t 52)⟩, ⟨some 54, none, .bin .neq (.t 53) (.i 0)⟩, ⟨some 55, none, .mov (.t 54)⟩, ⟨some 56, some (55, true), .fieldA 1 (.t 1)⟩, ⟨some 57, some (55, true), .load none (.t 56)⟩, ⟨some 58, some (55, true), .mov (.t 8)⟩, ⟨some 59, some (55, true), .idxA 9 (.t 57) (.t 58)⟩, ⟨some 60, some (55, true), .fieldA 1 (.t 59)⟩, ⟨some 61, some (55, true), .load none (.t 60)⟩, ⟨some 62, some (55, true), .bin .eql (.t 61) (.i 0)⟩, ⟨some 63, none, .pick (.t 55) (.t 62) (.b false)⟩]) (.cond (.t 63) (.seq (.region [ ⟨some 2, none, .mov (.i 3)⟩]) .ret) .skip)
def q49_1 : LC := e49_1
theorem u49_1 : Unf q49_1 e49_1 := fun _ _ _ _ _ => (rfl)
def e49_2 : LC :=
  .seq (.seq (.region [ ⟨some 50, none, .mov (.t 8)⟩, ⟨some 51, none, .bin .lss (.t 50) (.i 0)⟩]) (.cond (.t 51) (.seq (.region [ ⟨some 2, none, .mov (.i 6)⟩]) .ret) .skip)) q49_1
def q49_2 : LC := e49_2
theorem u49_2 : Unf q49_2 e49_2 := fun _ _ _ _ _ => (rfl)
def e49_3 : LC :=
  .seq (.region [ ⟨some 46, none, .load (some 3) (.t 1)⟩, ⟨some 47, none, .fieldA 0 (.t 7)⟩, ⟨some 48, none, .load none (.t 47)⟩, ⟨some 49, none, .call 74 [.t 46, .t 48]⟩, ⟨some 8, none, .mov (.t 49)⟩]) q49_2
def q49_3 : LC := e49_3
theorem u49_3 : Unf q49_3 e49_3 := fun _ _ _ _ _ => (rfl)
def e49_4 : LC :=
  .seq (.block 5 (.seq (.region [ ⟨some 38, none, .mov (.t 4)⟩, ⟨some 39, none, .mov (.t 5)⟩, ⟨some 40, none, .idxA 5 (.t 38) (.t 39)⟩, ⟨some 41, none, .fieldA 4 (.t 40)⟩, ⟨some 42, none, .load none (.t 41)⟩, ⟨some 43, none, .mov (.t 6)⟩, ⟨some 44, none, .idxA 2 (.t 42) (.t 43)⟩, ⟨some 45, none, .load (some 2) (.t 44)⟩, ⟨some 7, none, .alloc 7 [.d (.str []), .d (.int .i64 0)]⟩, ⟨none, none, .store 2 (.t 7) (.t 45)⟩]) q49_3)) (.keep [1, 3, 4, 5, 6] [1] (.tail [1, 3, 4, 5, 6] [1] (.region [ ⟨some 36, none, .mov (.t 6)⟩, ⟨some 37, none, .bin .add (.t 36) (.i 1)⟩, ⟨some 6, none, .mov (.t 37)⟩])))
def q49_4 : LC := e49_4
theorem u49_4 : Unf q49_4 e49_4 := fun _ _ _ _ _ => (rfl)
def e49_5 : LC :=
  .seq (.seq (.region [ ⟨some 28, none, .mov (.t 6)⟩, ⟨some 29, none, .mov (.t 4)⟩, ⟨some 30, none, .mov (.t 5)⟩, ⟨some 31, none, .idxA 5 (.t 29) (.t 30)⟩, ⟨some 32, none, .fieldA 4 (.t 31)⟩, ⟨some 33, none, .load none (.t 32)⟩, ⟨some 34, none, .lenL (.t 33)⟩, ⟨some 35, none, .bin .lss (.t 28) (.t 34)⟩]) (.cond (.t 35) .skip (.exit 4))) q49_4
def q49_5 : LC := e49_5
theorem u49_5 : Unf q49_5 e49_5 := fun _ _ _ _ _ => (rfl)
def e49_6 : LC :=
  .seq (.block 3 (.seq (.region [ ⟨some 6, none, .mov (.i 0)⟩]) (.block 4 (.keep [1, 3, 4, 5, 6] [1] (.loop q49_5))))) (.keep [1, 3, 4, 5] [1] (.tail [1, 3, 4, 5] [1] (.region [ ⟨some 26, none, .mov (.t 5)⟩, ⟨some 27, none, .bin .add (.t 26) (.i 1)⟩, ⟨some 5, none, .mov (.t 27)⟩])))
def q49_6 : LC := e49_6
theorem u49_6 : Unf q49_6 e49_6 := fun _ _ _ _ _ => (rfl)
def e49_7 : LC :=
  .block 2 (.keep [1, 3, 4, 5] [1] (.loop (.seq (.seq (.region [ ⟨some 22, none, .mov (.t 5)⟩, ⟨some 23, none, .mov (.t 4)⟩, ⟨some 24, none, .lenL (.t 23)⟩, ⟨some 25, none, .bin .lss (.t 22) (.t 24)⟩]) (.cond (.t 25) .skip (.exit 2))) q49_6)))
def q49_7 : LC := e49_7
theorem u49_7 : Unf q49_7 e49_7 := fun _ _ _ _ _ => (rfl)
def e49_8 : LC :=
  .seq (.block 1 (.seq (.region [ ⟨some 16, none, .fieldA 1 (.t 1)⟩, ⟨some 17, none, .load none (.t 16)⟩, ⟨some 18, none, .mov (.t 3)⟩, ⟨some 19, none, .idxA 9 (.t 17) (.t 18)⟩, ⟨some 20, none, .fieldA 8 (.t 19)⟩, ⟨some 21, none, .load none (.t 20)⟩, ⟨some 4, none, .mov (.t 21)⟩]) (.seq (.region [ ⟨some 5, none, .mov (.i 0)⟩]) q49_7))) (.keep [1, 3] [1] (.tail [1, 3] [1] (.region [ ⟨some 14, none, .mov (.t 3)⟩, ⟨some 15, none, .bin .add (.t 14) (.i 1)⟩, ⟨some 3, none, .mov (.t 15)⟩])))
def q49_8 : LC := e49_8
theorem u49_8 : Unf q49_8 e49_8 := fun _ _ _ _ _ => (rfl)
def e49_9 : LC :=
  .block 0 (.keep [1, 3] [1] (.loop (.seq (.seq (.region [ ⟨some 9, none, .mov (.t 3)⟩, ⟨some 10, none, .fieldA 1 (.t 1)⟩, ⟨some 11, none, .load none (.t 10)⟩, ⟨some 12, none, .lenL (.t 11)⟩, ⟨some 13, none, .bin .lss (.t 9) (.t 12)⟩]) (.cond (.t 13) .skip (.exit 0))) q49_8)))
def q49_9 : LC := e49_9
theorem u49_9 : Unf q49_9 e49_9 := fun _ _ _ _ _ => (rfl)
def d_metrolabref20_datums : LC :=
  .seq (.region [ ⟨some 1, none, .box 1 (.t 0)⟩, ⟨some 2, none, .mov (.i 0)⟩]) (.seq (.seq (.region [ ⟨some 3, none, .mov (.i 0)⟩]) q49_9) (.seq (.region [ ⟨some 2, none, .mov (.i 0)⟩]) .ret))
def c_metrolabref20_datums : LC := d_metrolabref20_datums
theorem w_metrolabref20_datums : Unf c_metrolabref20_datums d_metrolabref20_datums := fun _ _ _ _ _ => (rfl)
attribute [simp] e49_1 u49_1 e49_2 u49_2 e49_3 u49_3 e49_4 u49_4 e49_5 u49_5 e49_6 u49_6 e49_7 u49_7 e49_8 u49_8 e49_9 u49_9 d_metrolabref20_datums w_metrolabref20_datums
theorem k_metrolabref20_datums : chkF Tryz.prog Tryz.f49 1 [(2, none)] c_metrolabref20_datums = true := by kernel_rfl
/-- metrolab/metrolabref20.Has -/
def e50_1 : LC :=
  .seq (.block 1 (.seq (.region [ ⟨some 12, none, .mov (.t 0)⟩, ⟨some 13, none, .mov (.t 5)⟩, ⟨some 14, none, .idxA 1 (.t 12) (.t 13)⟩, ⟨some 15, none, .load none (.t 14)⟩, ⟨some 16, none, .mov (.t 1)⟩, ⟨some 17, none, .bin .eql (.t 15) (.t 16)⟩]) (.cond (.t 17) (.seq (.region [ ⟨some 4, none, .mov (.b true)⟩]) .ret) .skip))) (.keep [0, 1, 5] [] (.tail [0, 1, 5] [] (.region [ ⟨some 10, none, .mov (.t 5)⟩, ⟨some 11, none, .bin .add (.t 10) (.i 1)⟩, ⟨some 5, none, .mov (.t 11)⟩])))
def q50_1 : LC := e50_1
theorem u50_1 : Unf q50_1 e50_1 := fun _ _ _ _ _ => (rfl)
def e50_2 : LC :=
  .seq (.seq (.region [ ⟨some 5, none, .mov (.i 0)⟩]) (.block 0 (.keep [0, 1, 5] [] (.loop (.seq (.seq (.region [ ⟨some 6, none, .mov (.t 5)⟩, ⟨some 7, none, .mov (.t 0)⟩, ⟨some 8, none, .lenL (.t 7)⟩, ⟨some 9, none, .bin .lss (.t 6) (.t 8)⟩]) (.cond (.t 9) .skip (.exit 0))) q50_1))))) (.seq (.region [ ⟨some 4, none, .mov (.b false)⟩]) .ret)
def q50_2 : LC := e50_2
theorem u50_2 : Unf q50_2 e50_2 := fun _ _ _ _ _ => (rfl)
def d_metrolabref20_Has : LC :=
  .seq (.region [ ⟨some 4, none, .mov (.b false)⟩]) q50_2
def c_metrolabref20_Has : LC := d_metrolabref20_Has
theorem w_metrolabref20_Has : Unf c_metrolabref20_Has d_metrolabref20_Has := fun _ _ _ _ _ => (rfl)
attribute [simp] e50_1 u50_1 e50_2 u50_2 d_metrolabref20_Has w_metrolabref20_Has
theorem k_metrolabref20_Has : chkF Tryz.prog Tryz.f50 2 [(4, none)] c_metrolabref20_Has = true := by kernel_rfl
/-- metrolab/metrolabref20.Needs -/
def e51_1 : LC :=
  .seq (.block 5 (.region [ ⟨some 50, none, .mov (.t 5)⟩, ⟨some 51, none, .mov (.t 9)⟩, ⟨some 52, none, .mov (.t 10)⟩, ⟨some 53, none, .idxA 1 (.t 51) (.t 52)⟩, ⟨some 54, none, .load none (.t 53)⟩, ⟨some 55, none, .call 90 [.t 50, .t 54]⟩, ⟨some 5, none, .mov (.t 55)⟩])) (.keep [2, 5, 6, 7, 8, 9, 10] [2] (.tail [2, 5, 6, 7, 8, 9, 10] [2] (.region [ ⟨some 48, none, .mov (.t 10)⟩, ⟨some 49, none, .bin .add (.t 48) (.i 1)⟩, ⟨some 10, none, .mov (.t 49)⟩])))
def q51_1 : LC := e51_1
theorem u51_1 : Unf q51_1 e51_1 := fun _ _ _ _ _ => (rfl)
def e51_2 : LC :=
  .seq (.seq (.region [ ⟨some 44, none, .mov (.t 10)⟩, ⟨some 45, none, .mov (.t 9)⟩, ⟨some 46, none, .lenL (.t 45)⟩, ⟨some 47, none, .bin .lss (.t 44) (.t 46)⟩]) (.cond (.t 47) .skip (.exit 4))) q51_1
def q51_2 : LC := e51_2
theorem u51_2 : Unf q51_2 e51_2 := fun _ _ _ _ _ => (rfl)
def e51_3 : LC :=
  .seq (.block 3 (.seq (.draw [0, 1, 0, 0, 0, 24, 56, 124, 255, 511, 1023, 2047] [ ⟨some 33, none, .fieldA 1 (.t 2)⟩, ⟨some 34, none, .load none (.t 33)⟩, ⟨some 35, none, .load (some 3) (.t 2)⟩, ⟨some 36, none, .mov (.t 7)⟩, ⟨some 37, none, .mov (.t 8)⟩, ⟨some 38, none, .idxA 1 (.t 36) (.t 37)⟩, ⟨some 39, none, .load none (.t 38)⟩, ⟨some 40, none, .call 74 [.t 35, .t 39]⟩, ⟨some 41, none, .idxA 9 (.t 34) (.t 40)⟩, ⟨some 42, none, .load (some 9) (.t 41)⟩, ⟨some 43, none, .call 89 [.t 42]⟩, ⟨some 9, none, .mov (.t 43)⟩]) (.seq (.region [ ⟨some 10, none, .mov (.i 0)⟩]) (.block 4 (.keep [2, 5, 6, 7, 8, 9, 10] [2] (.loop q51_2)))))) (.keep [2, 5, 6, 7, 8] [2] (.tail [2, 5, 6, 7, 8] [2] (.region [ ⟨some 31, none, .mov (.t 8)⟩, ⟨some 32, none, .bin .add (.t 31) (.i 1)⟩, ⟨some 8, none, .mov (.t 32)⟩])))
def q51_3 : LC := e51_3
theorem u51_3 : Unf q51_3 e51_3 := fun _ _ _ _ _ => (rfl)
def e51_4 : LC :=
  .block 2 (.keep [2, 5, 6, 7, 8] [2] (.loop (.seq (.seq (.region [ ⟨some 27, none, .mov (.t 8)⟩, ⟨some 28, none, .mov (.t 7)⟩, ⟨some 29, none, .lenL (.t 28)⟩, ⟨some 30, none, .bin .lss (.t 27) (.t 29)⟩]) (.cond (.t 30) .skip (.exit 2))) q51_3)))
def q51_4 : LC := e51_4
theorem u51_4 : Unf q51_4 e51_4 := fun _ _ _ _ _ => (rfl)
def e51_5 : LC :=
  .seq (.block 1 (.seq (.region [ ⟨some 26, none, .mov (.t 5)⟩, ⟨some 7, none, .mov (.t 26)⟩]) (.seq (.region [ ⟨some 8, none, .mov (.i 0)⟩]) q51_4))) (.keep [2, 5, 6] [2] (.tail [2, 5, 6] [2] (.region [ ⟨some 24, none, .mov (.t 6)⟩, ⟨some 25, none, .bin .add (.t 24) (.i 1)⟩, ⟨some 6, none, .mov (.t 25)⟩])))
def q51_5 : LC := e51_5
theorem u51_5 : Unf q51_5 e51_5 := fun _ _ _ _ _ => (rfl)
def e51_6 : LC :=
  .block 0 (.keep [2, 5, 6] [2] (.loop (.seq (.seq (.region [ ⟨some 19, none, .mov (.t 6)⟩, ⟨some 20, none, .fieldA 1 (.t 2)⟩, ⟨some 21, none, .load none (.t 20)⟩, ⟨some 22, none, .lenL (.t 21)⟩, ⟨some 23, none, .bin .lss (.t 19) (.t 22)⟩]) (.cond (.t 23) .skip (.exit 0))) q51_5)))
def q51_6 : LC := e51_6
theorem u51_6 : Unf q51_6 e51_6 := fun _ _ _ _ _ => (rfl)
def e51_7 : LC :=
  .lift 4 (.seq (.draw [0, 1, 0, 0, 12, 31, 63, 127, 255] [ ⟨some 11, none, .fieldA 1 (.t 2)⟩, ⟨some 12, none, .load none (.t 11)⟩, ⟨some 13, none, .load (some 3) (.t 2)⟩, ⟨some 14, none, .mov (.t 1)⟩, ⟨some 15, none, .call 74 [.t 13, .t 14]⟩, ⟨some 16, none, .idxA 9 (.t 12) (.t 15)⟩, ⟨some 17, none, .load (some 9) (.t 16)⟩, ⟨some 18, none, .call 89 [.t 17]⟩, ⟨some 5, none, .mov (.t 18)⟩]) (.seq (.seq (.region [ ⟨some 6, none, .mov (.i 0)⟩]) q51_6) (.seq (.region [ ⟨some 56, none, .mov (.t 5)⟩, ⟨some 4, none, .mov (.t 56)⟩]) (.lift 4 .ret))))
def q51_7 : LC := e51_7
theorem u51_7 : Unf q51_7 e51_7 := fun _ _ _ _ _ => (rfl)
def d_metrolabref20_Needs : LC :=
  .seq (.region [ ⟨some 2, none, .box 2 (.t 0)⟩, ⟨some 4, none, .mov (.c (.at (.nils)))⟩]) q51_7
def c_metrolabref20_Needs : LC := d_metrolabref20_Needs
theorem w_metrolabref20_Needs : Unf c_metrolabref20_Needs d_metrolabref20_Needs := fun _ _ _ _ _ => (rfl)
attribute [simp] e51_1 u51_1 e51_2 u51_2 e51_3 u51_3 e51_4 u51_4 e51_5 u51_5 e51_6 u51_6 e51_7 u51_7 d_metrolabref20_Needs w_metrolabref20_Needs
theorem k_metrolabref20_Needs : chkF Tryz.prog Tryz.f51 2 [(4, none)] c_metrolabref20_Needs = true := by kernel_rfl
/-- metrolab/metrolabref20.dimensions -/
def e52_1 : LC :=
  .seq (.region [ ⟨some 56, none, .fieldA 3 (.t 4)⟩, ⟨some 57, none, .load (some 2) (.t 56)⟩, ⟨some 58, none, .mov (.t 6)⟩, ⟨some 59, none, .call 101 [.t 57, .t 58]⟩, ⟨some 60, none, .not (.t 59)⟩]) (.cond (.t 60) (.seq (.region [ ⟨some 2, none, .mov (.i 16)⟩]) .ret) .skip)
def q52_1 : LC := e52_1
theorem u52_1 : Unf q52_1 e52_1 := fun _ _ _ _ _ => (rfl)
def e52_2 : LC :=
  .seq (.region [ ⟨some 43, none, .load (some 3) (.t 1)⟩, ⟨some 44, none, .fieldA 0 (.t 4)⟩, ⟨some 45, none, .load none (.t 44)⟩, ⟨some 46, none, .fieldA 1 (.t 4)⟩, ⟨some 47, none, .load none (.t 46)⟩, ⟨some 48, none, .fieldA 2 (.t 4)⟩, ⟨some 49, none, .load none (.t 48)⟩, ⟨some 50, none, .call 77 [.t 43, .t 45, .t 47, .t 49]⟩, ⟨some 42, none, .mov (.t 50)⟩, ⟨some 51, none, .ext (.t 42) 0⟩, ⟨some 52, none, .ext (.t 42) 1⟩, ⟨some 6, none, .mov (.t 51)⟩, ⟨some 7, none, .mov (.t 52)⟩]) (.seq (.seq (.region [ ⟨some 53, none, .mov (.t 7)⟩, ⟨some 54, none, .bin .neq (.t 53) (.i 0)⟩]) (.cond (.t 54) (.seq (.region [ ⟨some 55, none, .mov (.t 7)⟩, ⟨some 2, none, .mov (.t 55)⟩]) .ret) .skip)) q52_1)
def q52_2 : LC := e52_2
theorem u52_2 : Unf q52_2 e52_2 := fun _ _ _ _ _ => (rfl)
def e52_3 : LC :=
  .seq (.seq (.draw [0, 1, 3, 7, 15, 7, 39, 127, 255, 7, 1023, 2047, 4095] [ ⟨some 29, none, .mov (.t 3)⟩, ⟨some 30, none, .bin .gtr (.t 29) (.i 0)⟩, ⟨some 31, none, .mov (.t 30)⟩, ⟨some 32, some (31, true), .fieldA 2 (.t 1)⟩, ⟨some 33, some (31, true), .load none (.t 32)⟩, ⟨some 34, some (31, true), .mov (.t 3)⟩, ⟨some 35, some (31, true), .bin .sub (.t 34) (.i 1)⟩, ⟨some 36, some (31, true), .idxA 5 (.t 33) (.t 35)⟩, ⟨some 37, some (31, true), .load (some 5) (.t 36)⟩, ⟨some 38, some (31, true), .load (some 5) (.t 4)⟩, ⟨some 39, some (31, true), .call 100 [.t 37, .t 38]⟩, ⟨some 40, some (31, true), .not (.t 39)⟩, ⟨some 41, none, .pick (.t 31) (.t 40) (.b false)⟩]) (.cond (.t 41) (.seq (.region [ ⟨some 2, none, .mov (.i 9)⟩]) .ret) .skip)) q52_2
def q52_3 : LC := e52_3
theorem u52_3 : Unf q52_3 e52_3 := fun _ _ _ _ _ => (rfl)
def e52_4 : LC :=
  .seq (.seq (.region [ ⟨some 24, none, .load (some 5) (.t 4)⟩, ⟨some 25, none, .call 99 [.t 24]⟩, ⟨some 5, none, .mov (.t 25)⟩]) (.seq (.region [ ⟨some 26, none, .mov (.t 5)⟩, ⟨some 27, none, .bin .neq (.t 26) (.i 0)⟩]) (.cond (.t 27) (.seq (.region [ ⟨some 28, none, .mov (.t 5)⟩, ⟨some 2, none, .mov (.t 28)⟩]) .ret) .skip))) q52_3
def q52_4 : LC := e52_4
theorem u52_4 : Unf q52_4 e52_4 := fun _ _ _ _ _ => (rfl)
def e52_5 : LC :=
  .seq (.block 1 (.seq (.region [ ⟨some 19, none, .fieldA 2 (.t 1)⟩, ⟨some 20, none, .load none (.t 19)⟩, ⟨some 21, none, .mov (.t 3)⟩, ⟨some 22, none, .idxA 5 (.t 20) (.t 21)⟩, ⟨some 23, none, .load (some 5) (.t 22)⟩, ⟨some 4, none, .alloc 4 [.d (.str []), .d (.str []), .d (.int .i64 0), .d (.int .i64 0), .d (.int .i64 0)]⟩, ⟨none, none, .store 5 (.t 4) (.t 23)⟩]) q52_4)) (.keep [1, 3] [1] (.tail [1, 3] [1] (.region [ ⟨some 17, none, .mov (.t 3)⟩, ⟨some 18, none, .bin .add (.t 17) (.i 1)⟩, ⟨some 3, none, .mov (.t 18)⟩])))
def q52_5 : LC := e52_5
theorem u52_5 : Unf q52_5 e52_5 := fun _ _ _ _ _ => (rfl)
def e52_6 : LC :=
  .block 0 (.keep [1, 3] [1] (.loop (.seq (.seq (.region [ ⟨some 12, none, .mov (.t 3)⟩, ⟨some 13, none, .fieldA 2 (.t 1)⟩, ⟨some 14, none, .load none (.t 13)⟩, ⟨some 15, none, .lenL (.t 14)⟩, ⟨some 16, none, .bin .lss (.t 12) (.t 15)⟩]) (.cond (.t 16) .skip (.exit 0))) q52_5)))
def q52_6 : LC := e52_6
theorem u52_6 : Unf q52_6 e52_6 := fun _ _ _ _ _ => (rfl)
def e52_7 : LC :=
  .seq (.seq (.region [ ⟨some 8, none, .fieldA 2 (.t 1)⟩, ⟨some 9, none, .load none (.t 8)⟩, ⟨some 10, none, .lenL (.t 9)⟩, ⟨some 11, none, .bin .gtr (.t 10) (.i 256)⟩]) (.cond (.t 11) (.seq (.region [ ⟨some 2, none, .mov (.i 5)⟩]) .ret) .skip)) (.seq (.seq (.region [ ⟨some 3, none, .mov (.i 0)⟩]) q52_6) (.seq (.region [ ⟨some 2, none, .mov (.i 0)⟩]) .ret))
def q52_7 : LC := e52_7
theorem u52_7 : Unf q52_7 e52_7 := fun _ _ _ _ _ => (rfl)
def d_metrolabref20_dimensions : LC :=
  .seq (.region [ ⟨some 1, none, .box 1 (.t 0)⟩, ⟨some 2, none, .mov (.i 0)⟩]) q52_7
def c_metrolabref20_dimensions : LC := d_metrolabref20_dimensions
theorem w_metrolabref20_dimensions : Unf c_metrolabref20_dimensions d_metrolabref20_dimensions := fun _ _ _ _ _ => (rfl)
attribute [simp] e52_1 u52_1 e52_2 u52_2 e52_3 u52_3 e52_4 u52_4 e52_5 u52_5 e52_6 u52_6 e52_7 u52_7 d_metrolabref20_dimensions w_metrolabref20_dimensions
theorem k_metrolabref20_dimensions : chkF Tryz.prog Tryz.f52 1 [(2, none)] c_metrolabref20_dimensions = true := by kernel_rfl
/-- (*metrolab/drawing.reader).title -/
def e53_1 : LC :=
  .seq (.region [ ⟨some 16, none, .mov (.t 0)⟩, ⟨some 17, none, .mov (.t 1)⟩, ⟨some 18, none, .idxA 1 (.t 17) (.i 1)⟩, ⟨some 19, none, .load none (.t 18)⟩, ⟨some 20, none, .nilck (.t 16)⟩, ⟨some 21, none, .fieldA 0 (.t 20)⟩, ⟨some 22, none, .fieldA 0 (.t 21)⟩, ⟨none, none, .store 1 (.t 22) (.t 19)⟩]) (.seq (.region [ ⟨some 4, none, .mov (.i 0)⟩]) .ret)
def q53_1 : LC := e53_1
theorem u53_1 : Unf q53_1 e53_1 := fun _ _ _ _ _ => (rfl)
def e53_2 : LC :=
  .seq (.seq (.region [ ⟨some 9, none, .mov (.t 1)⟩, ⟨some 10, none, .idxA 1 (.t 9) (.i 1)⟩, ⟨some 11, none, .load none (.t 10)⟩, ⟨some 12, none, .call 43 [.t 11]⟩, ⟨some 5, none, .mov (.t 12)⟩]) (.seq (.region [ ⟨some 13, none, .mov (.t 5)⟩, ⟨some 14, none, .bin .neq (.t 13) (.i 0)⟩]) (.cond (.t 14) (.seq (.region [ ⟨some 15, none, .mov (.t 5)⟩, ⟨some 4, none, .mov (.t 15)⟩]) .ret) .skip))) q53_1
def q53_2 : LC := e53_2
theorem u53_2 : Unf q53_2 e53_2 := fun _ _ _ _ _ => (rfl)
def d_drawing_reader_title : LC :=
  .seq (.region [ ⟨some 4, none, .mov (.i 0)⟩]) (.seq (.seq (.region [ ⟨some 6, none, .mov (.t 1)⟩, ⟨some 7, none, .lenL (.t 6)⟩, ⟨some 8, none, .bin .neq (.t 7) (.i 2)⟩]) (.cond (.t 8) (.seq (.region [ ⟨some 4, none, .mov (.i 4)⟩]) .ret) .skip)) q53_2)
def c_drawing_reader_title : LC := d_drawing_reader_title
theorem w_drawing_reader_title : Unf c_drawing_reader_title d_drawing_reader_title := fun _ _ _ _ _ => (rfl)
attribute [simp] e53_1 u53_1 e53_2 u53_2 d_drawing_reader_title w_drawing_reader_title
theorem k_drawing_reader_title : chkF Tryz.prog Tryz.f53 2 [(4, none)] c_drawing_reader_title = true := by kernel_rfl
/-- (*metrolab/drawing.reader).feature -/
def e54_1 : LC :=
  .draw [0, 1, 3, 0, 8, 24, 63, 127, 255] [ ⟨some 92, none, .mov (.t 8)⟩, ⟨some 93, none, .idxA 1 (.t 92) (.i 3)⟩, ⟨some 94, none, .load none (.t 93)⟩, ⟨some 95, none, .mov (.t 8)⟩, ⟨some 96, none, .idxA 1 (.t 95) (.i 4)⟩, ⟨some 97, none, .load none (.t 96)⟩, ⟨some 98, none, .build [.d (.int .i64 0), .d (.int .i64 0)] [(0, 1, .t 94), (1, 1, .t 97)]⟩, ⟨some 99, none, .fieldA 6 (.t 5)⟩, ⟨none, none, .store 2 (.t 99) (.t 98)⟩]
def q54_1 : LC := e54_1
theorem u54_1 : Unf q54_1 e54_1 := fun _ _ _ _ _ => (rfl)
def e54_2 : LC :=
  .seq (.draw [0, 0, 2, 6, 14, 0, 62, 127, 255, 511] [ ⟨some 113, none, .mov (.t 0)⟩, ⟨some 114, none, .mov (.t 0)⟩, ⟨some 115, none, .nilck (.t 114)⟩, ⟨some 116, none, .fieldA 0 (.t 115)⟩, ⟨some 117, none, .load (some 3) (.t 116)⟩, ⟨some 118, none, .load (some 9) (.t 5)⟩, ⟨some 119, none, .callD 80 [.t 117, .t 118]⟩, ⟨some 120, none, .nilck (.t 113)⟩, ⟨some 121, none, .fieldA 0 (.t 120)⟩, ⟨none, none, .store 3 (.t 121) (.t 119)⟩]) (.seq (.region [ ⟨some 4, none, .mov (.i 0)⟩]) .ret)
def q54_2 : LC := e54_2
theorem u54_2 : Unf q54_2 e54_2 := fun _ _ _ _ _ => (rfl)
def e54_3 : LC :=
  .seq (.seq (.draw [0, 1, 3, 7, 0, 16, 63, 127] [ ⟨some 105, none, .mov (.t 0)⟩, ⟨some 106, none, .nilck (.t 105)⟩, ⟨some 107, none, .fieldA 0 (.t 106)⟩, ⟨some 108, none, .load (some 3) (.t 107)⟩, ⟨some 109, none, .fieldA 0 (.t 5)⟩, ⟨some 110, none, .load none (.t 109)⟩, ⟨some 111, none, .callF 62 [.t 108, .t 110]⟩, ⟨some 112, none, .bin .geq (.t 111) (.i 0)⟩]) (.cond (.t 112) (.seq (.region [ ⟨some 4, none, .mov (.i 7)⟩]) .ret) .skip)) q54_2
def q54_3 : LC := e54_3
theorem u54_3 : Unf q54_3 e54_3 := fun _ _ _ _ _ => (rfl)
def e54_4 : LC :=
  .seq (.seq (.region [ ⟨some 100, none, .load (some 9) (.t 5)⟩, ⟨some 101, none, .call 105 [.t 100]⟩, ⟨some 10, none, .mov (.t 101)⟩]) (.seq (.region [ ⟨some 102, none, .mov (.t 10)⟩, ⟨some 103, none, .bin .neq (.t 102) (.i 0)⟩]) (.cond (.t 103) (.seq (.region [ ⟨some 104, none, .mov (.t 10)⟩, ⟨some 4, none, .mov (.t 104)⟩]) .ret) .skip))) q54_3
def q54_4 : LC := e54_4
theorem u54_4 : Unf q54_4 e54_4 := fun _ _ _ _ _ => (rfl)
def e54_5 : LC :=
  .seq (.draw [0, 1, 3, 0, 8, 24, 0, 64, 192, 511, 1023, 2047] [ ⟨some 80, none, .mov (.t 8)⟩, ⟨some 81, none, .idxA 1 (.t 80) (.i 0)⟩, ⟨some 82, none, .load none (.t 81)⟩, ⟨some 83, none, .mov (.t 8)⟩, ⟨some 84, none, .idxA 1 (.t 83) (.i 1)⟩, ⟨some 85, none, .load none (.t 84)⟩, ⟨some 86, none, .mov (.t 8)⟩, ⟨some 87, none, .idxA 1 (.t 86) (.i 2)⟩, ⟨some 88, none, .load none (.t 87)⟩, ⟨some 89, none, .build [.d (.int .i64 0), .d (.int .i64 0), .d (.int .i64 0)] [(0, 1, .t 82), (1, 1, .t 85), (2, 1, .t 88)]⟩, ⟨some 90, none, .fieldA 3 (.t 5)⟩, ⟨none, none, .store 3 (.t 90) (.t 89)⟩]) (.seq (.seq (.region [ ⟨some 91, none, .mov (.t 6)⟩]) (.cond (.t 91) q54_1 .skip)) q54_4)
def q54_5 : LC := e54_5
theorem u54_5 : Unf q54_5 e54_5 := fun _ _ _ _ _ => (rfl)
def e54_6 : LC :=
  .seq (.region [ ⟨some 73, none, .mov (.t 7)⟩, ⟨some 74, none, .call 104 [.t 73]⟩, ⟨some 72, none, .mov (.t 74)⟩, ⟨some 75, none, .ext (.t 72) 0⟩, ⟨some 76, none, .ext (.t 72) 1⟩, ⟨some 8, none, .mov (.t 75)⟩, ⟨some 9, none, .mov (.t 76)⟩]) (.seq (.seq (.region [ ⟨some 77, none, .mov (.t 9)⟩, ⟨some 78, none, .bin .neq (.t 77) (.i 0)⟩]) (.cond (.t 78) (.seq (.region [ ⟨some 79, none, .mov (.t 9)⟩, ⟨some 4, none, .mov (.t 79)⟩]) .ret) .skip)) q54_5)
def q54_6 : LC := e54_6
theorem u54_6 : Unf q54_6 e54_6 := fun _ _ _ _ _ => (rfl)
def e54_7 : LC :=
  .seq (.region [ ⟨some 64, none, .mov (.t 1)⟩, ⟨some 65, none, .slcL 1 (.t 64) (some (.i 5)) (some (.i 8))⟩, ⟨some 66, none, .cloneR 26 66 9 1 (.t 65)⟩, ⟨some 7, none, .mov (.t 66)⟩]) (.seq (.seq (.region [ ⟨some 67, none, .mov (.t 6)⟩]) (.cond (.t 67) (.region [ ⟨some 68, none, .mov (.t 7)⟩, ⟨some 69, none, .mov (.t 1)⟩, ⟨some 70, none, .slcL 1 (.t 69) (some (.i 9)) none⟩, ⟨some 71, none, .append 9 1 (.t 68) (.t 70)⟩, ⟨some 7, none, .mov (.t 71)⟩]) .skip)) q54_6)
def q54_7 : LC := e54_7
theorem u54_7 : Unf q54_7 e54_7 := fun _ _ _ _ _ => (rfl)
def e54_8 : LC :=
  .seq (.seq (.region [ ⟨some 34, none, .fieldA 1 (.t 5)⟩, ⟨some 35, none, .load none (.t 34)⟩, ⟨some 36, none, .bin .lss (.t 35) (.i 0)⟩, ⟨some 37, none, .mov (.t 36)⟩, ⟨some 38, some (37, false), .fieldA 2 (.t 5)⟩, ⟨some 39, some (37, false), .load none (.t 38)⟩, ⟨some 40, some (37, false), .bin .lss (.t 39) (.i 0)⟩, ⟨some 41, none, .pick (.t 37) (.b true) (.t 40)⟩, ⟨some 42, none, .mov (.t 41)⟩, ⟨some 43, some (42, false), .mov (.t 1)⟩, ⟨some 44, some (42, false), .idxA 1 (.t 43) (.i 4)⟩, ⟨some 45, some (42, false), .load none (.t 44)⟩, ⟨some 46, some (42, false), .bin .neq (.t 45) (.s [97, 116])⟩, ⟨some 47, none, .pick (.t 42) (.b true) (.t 46)⟩, ⟨some 48, none, .mov (.t 47)⟩, ⟨some 49, some (48, false), .mov (.t 6)⟩, ⟨some 50, some (48, false), .fieldA 1 (.t 5)⟩, ⟨some 51, some (48, false), .load none (.t 50)⟩, ⟨some 52, some (48, false), .bin .eql (.t 51) (.i 0)⟩, ⟨some 53, some (48, false), .beq false (.t 49) (.t 52)⟩, ⟨some 54, none, .pick (.t 48) (.b true) (.t 53)⟩, ⟨some 55, none, .mov (.t 54)⟩, ⟨some 56, some (55, false), .mov (.t 6)⟩, ⟨some 57, some (55, false), .mov (.t 56)⟩, ⟨some 58, some (57, true), .mov (.t 1)⟩, ⟨some 59, some (57, true), .idxA 1 (.t 58) (.i 8)⟩, ⟨some 60, some (57, true), .load none (.t 59)⟩, ⟨some 61, some (57, true), .bin .neq (.t 60) (.s [115, 105, 122, 101])⟩, ⟨some 62, some (55, false), .pick (.t 57) (.t 61) (.b false)⟩, ⟨some 63, none, .pick (.t 55) (.b true) (.t 62)⟩]) (.cond (.t 63) (.seq (.region [ ⟨some 4, none, .mov (.i 4)⟩]) .ret) .skip)) q54_7
def q54_8 : LC := e54_8
theorem u54_8 : Unf q54_8 e54_8 := fun _ _ _ _ _ => (rfl)
def e54_9 : LC :=
  .seq (.draw [0, 1, 3, 0, 8, 24, 56, 0, 128, 384, 1016, 2047, 0, 8191] [ ⟨some 19, none, .mov (.t 1)⟩, ⟨some 20, none, .idxA 1 (.t 19) (.i 1)⟩, ⟨some 21, none, .load none (.t 20)⟩, ⟨some 22, none, .mov (.t 1)⟩, ⟨some 23, none, .idxA 1 (.t 22) (.i 2)⟩, ⟨some 24, none, .load none (.t 23)⟩, ⟨some 25, none, .call 102 [.t 24]⟩, ⟨some 26, none, .mov (.t 1)⟩, ⟨some 27, none, .idxA 1 (.t 26) (.i 3)⟩, ⟨some 28, none, .load none (.t 27)⟩, ⟨some 29, none, .call 103 [.t 28]⟩, ⟨some 30, none, .build [.d (.str []), .d (.int .i64 0), .d (.int .i64 0), .d (.int .i64 0), .d (.int .i64 0), .d (.int .i64 0), .d (.int .i64 0), .d (.int .i64 0), .nils] [(0, 1, .t 21), (1, 1, .t 25), (2, 1, .t 29)]⟩, ⟨some 5, none, .alloc 5 [.d (.str []), .d (.int .i64 0), .d (.int .i64 0), .d (.int .i64 0), .d (.int .i64 0), .d (.int .i64 0), .d (.int .i64 0), .d (.int .i64 0), .nils]⟩, ⟨none, none, .store 9 (.t 5) (.t 30)⟩]) (.seq (.region [ ⟨some 31, none, .mov (.t 1)⟩, ⟨some 32, none, .lenL (.t 31)⟩, ⟨some 33, none, .bin .eql (.t 32) (.i 11)⟩, ⟨some 6, none, .mov (.t 33)⟩]) q54_8)
def q54_9 : LC := e54_9
theorem u54_9 : Unf q54_9 e54_9 := fun _ _ _ _ _ => (rfl)
def e54_10 : LC :=
  .seq (.seq (.region [ ⟨some 11, none, .mov (.t 1)⟩, ⟨some 12, none, .lenL (.t 11)⟩, ⟨some 13, none, .bin .neq (.t 12) (.i 8)⟩, ⟨some 14, none, .mov (.t 13)⟩, ⟨some 15, some (14, true), .mov (.t 1)⟩, ⟨some 16, some (14, true), .lenL (.t 15)⟩, ⟨some 17, some (14, true), .bin .neq (.t 16) (.i 11)⟩, ⟨some 18, none, .pick (.t 14) (.t 17) (.b false)⟩]) (.cond (.t 18) (.seq (.region [ ⟨some 4, none, .mov (.i 4)⟩]) .ret) .skip)) q54_9
def q54_10 : LC := e54_10
theorem u54_10 : Unf q54_10 e54_10 := fun _ _ _ _ _ => (rfl)
def d_drawing_reader_feature : LC :=
  .seq (.region [ ⟨some 4, none, .mov (.i 0)⟩]) q54_10
def c_drawing_reader_feature : LC := d_drawing_reader_feature
theorem w_drawing_reader_feature : Unf c_drawing_reader_feature d_drawing_reader_feature := fun _ _ _ _ _ => (rfl)
attribute [simp] e54_1 u54_1 e54_2 u54_2 e54_3 u54_3 e54_4 u54_4 e54_5 u54_5 e54_6 u54_6 e54_7 u54_7 e54_8 u54_8 e54_9 u54_9 e54_10 u54_10 d_drawing_reader_feature w_drawing_reader_feature
theorem k_drawing_reader_feature : chkF Tryz.prog Tryz.f54 2 [(4, none)] c_drawing_reader_feature = true := by kernel_rfl
/-- (*metrolab/drawing.reader).frame -/
def e55_1 : LC :=
  .seq (.region [ ⟨some 55, none, .mov (.t 8)⟩, ⟨some 56, none, .nilck (.t 55)⟩, ⟨some 57, none, .fieldA 8 (.t 56)⟩, ⟨some 58, none, .load none (.t 57)⟩, ⟨some 59, none, .fn 109 [.t 5]⟩, ⟨some 60, none, .call 108 [.t 58, .t 59]⟩, ⟨some 54, none, .mov (.t 60)⟩]) (.cond (.t 54) (.seq (.region [ ⟨some 4, none, .mov (.i 7)⟩]) .ret) .skip)
def q55_1 : LC := e55_1
theorem u55_1 : Unf q55_1 e55_1 := fun _ _ _ _ _ => (rfl)
def e55_2 : LC :=
  .seq (.draw [0, 0, 2, 6, 14, 0, 32, 126, 255, 511, 1023] [ ⟨some 61, none, .mov (.t 8)⟩, ⟨some 62, none, .mov (.t 8)⟩, ⟨some 63, none, .nilck (.t 62)⟩, ⟨some 64, none, .fieldA 8 (.t 63)⟩, ⟨some 65, none, .load none (.t 64)⟩, ⟨some 66, none, .load (some 5) (.t 5)⟩, ⟨some 67, none, .buildS 67 115 5 1 [(0, 5, .t 66)]⟩, ⟨some 68, none, .appN 1068 115 5 (.t 65) (.t 67)⟩, ⟨some 69, none, .nilck (.t 61)⟩, ⟨some 70, none, .fieldA 8 (.t 69)⟩, ⟨none, none, .store 1 (.t 70) (.t 68)⟩]) (.seq (.region [ ⟨some 4, none, .mov (.i 0)⟩]) .ret)
def q55_2 : LC := e55_2
theorem u55_2 : Unf q55_2 e55_2 := fun _ _ _ _ _ => (rfl)
def e55_3 : LC :=
  .seq (.block 0 (.seq (.region [ ⟨some 48, none, .mov (.t 8)⟩, ⟨some 49, none, .nilck (.t 48)⟩, ⟨some 50, none, .fieldA 8 (.t 49)⟩, ⟨some 51, none, .load none (.t 50)⟩, ⟨some 52, none, .lenL (.t 51)⟩, ⟨some 53, none, .bin .geq (.t 52) (.i 8)⟩, ⟨some 47, none, .mov (.t 53)⟩]) (.cond (.t 47) (.seq (.region [ ⟨some 4, none, .mov (.i 5)⟩]) .ret) q55_1))) q55_2
def q55_3 : LC := e55_3
theorem u55_3 : Unf q55_3 e55_3 := fun _ _ _ _ _ => (rfl)
def e55_4 : LC :=
  .seq (.seq (.draw [0, 1, 3, 0, 15, 31] [ ⟨some 39, none, .mov (.t 8)⟩, ⟨some 40, none, .nilck (.t 39)⟩, ⟨some 41, none, .load (some 9) (.t 40)⟩, ⟨some 42, none, .load (some 5) (.t 5)⟩, ⟨some 43, none, .call 107 [.t 41, .t 42]⟩, ⟨some 9, none, .mov (.t 43)⟩]) (.seq (.region [ ⟨some 44, none, .mov (.t 9)⟩, ⟨some 45, none, .bin .neq (.t 44) (.i 0)⟩]) (.cond (.t 45) (.seq (.region [ ⟨some 46, none, .mov (.t 9)⟩, ⟨some 4, none, .mov (.t 46)⟩]) .ret) .skip))) q55_3
def q55_4 : LC := e55_4
theorem u55_4 : Unf q55_4 e55_4 := fun _ _ _ _ _ => (rfl)
def e55_5 : LC :=
  .seq (.seq (.region [ ⟨some 30, none, .mov (.t 7)⟩, ⟨some 31, none, .bin .lss (.t 30) (.i 0)⟩]) (.cond (.t 31) (.seq (.region [ ⟨some 4, none, .mov (.i 6)⟩]) .ret) .skip)) (.seq (.region [ ⟨some 32, none, .mov (.t 0)⟩, ⟨some 33, none, .nilck (.t 32)⟩, ⟨some 34, none, .fieldA 0 (.t 33)⟩, ⟨some 35, none, .fieldA 1 (.t 34)⟩, ⟨some 36, none, .load none (.t 35)⟩, ⟨some 37, none, .mov (.t 7)⟩, ⟨some 38, none, .idxA 9 (.t 36) (.t 37)⟩, ⟨some 8, none, .mov (.t 38)⟩]) q55_4)
def q55_5 : LC := e55_5
theorem u55_5 : Unf q55_5 e55_5 := fun _ _ _ _ _ => (rfl)
def e55_6 : LC :=
  .seq (.draw [0, 1, 3, 7, 0, 16, 48, 127, 255] [ ⟨some 22, none, .mov (.t 0)⟩, ⟨some 23, none, .nilck (.t 22)⟩, ⟨some 24, none, .fieldA 0 (.t 23)⟩, ⟨some 25, none, .load (some 3) (.t 24)⟩, ⟨some 26, none, .mov (.t 1)⟩, ⟨some 27, none, .idxA 1 (.t 26) (.i 1)⟩, ⟨some 28, none, .load none (.t 27)⟩, ⟨some 29, none, .callF 62 [.t 25, .t 28]⟩, ⟨some 7, none, .mov (.t 29)⟩]) q55_5
def q55_6 : LC := e55_6
theorem u55_6 : Unf q55_6 e55_6 := fun _ _ _ _ _ => (rfl)
def e55_7 : LC :=
  .seq (.region [ ⟨some 14, none, .mov (.t 1)⟩, ⟨some 15, none, .slcL 1 (.t 14) (some (.i 2)) none⟩, ⟨some 16, none, .call 28 [.t 15, .s [32]]⟩, ⟨some 17, none, .call 106 [.t 16]⟩, ⟨some 13, none, .mov (.t 17)⟩, ⟨some 18, none, .ext (.t 13) 0⟩, ⟨some 19, none, .ext (.t 13) 1⟩, ⟨some 5, none, .alloc 5 [.d (.int .i64 0), .d (.bool false), .d (.int .i64 0), .d (.int .i64 0), .nils]⟩, ⟨none, none, .store 5 (.t 5) (.t 18)⟩, ⟨some 6, none, .mov (.t 19)⟩]) (.seq (.seq (.region [ ⟨some 20, none, .mov (.t 6)⟩, ⟨some 21, none, .bin .neq (.t 20) (.i 0)⟩]) (.cond (.t 21) (.seq (.region [ ⟨some 4, none, .mov (.i 4)⟩]) .ret) .skip)) q55_6)
def q55_7 : LC := e55_7
theorem u55_7 : Unf q55_7 e55_7 := fun _ _ _ _ _ => (rfl)
def d_drawing_reader_frame : LC :=
  .seq (.region [ ⟨some 4, none, .mov (.i 0)⟩]) (.seq (.seq (.region [ ⟨some 10, none, .mov (.t 1)⟩, ⟨some 11, none, .lenL (.t 10)⟩, ⟨some 12, none, .bin .lss (.t 11) (.i 2)⟩]) (.cond (.t 12) (.seq (.region [ ⟨some 4, none, .mov (.i 4)⟩]) .ret) .skip)) q55_7)
def c_drawing_reader_frame : LC := d_drawing_reader_frame
theorem w_drawing_reader_frame : Unf c_drawing_reader_frame d_drawing_reader_frame := fun _ _ _ _ _ => (rfl)
attribute [simp] e55_1 u55_1 e55_2 u55_2 e55_3 u55_3 e55_4 u55_4 e55_5 u55_5 e55_6 u55_6 e55_7 u55_7 d_drawing_reader_frame w_drawing_reader_frame
theorem k_drawing_reader_frame : chkF Tryz.prog Tryz.f55 2 [(4, none)] c_drawing_reader_frame = true := by kernel_rfl
/-- (*metrolab/drawing.reader).dimension -/
def e56_1 : LC :=
  .seq (.draw [0, 0, 2, 6, 14, 30, 0, 0, 128, 510, 1023, 2047, 4095, 8191] [ ⟨some 64, none, .mov (.t 0)⟩, ⟨some 65, none, .mov (.t 0)⟩, ⟨some 66, none, .nilck (.t 65)⟩, ⟨some 67, none, .fieldA 0 (.t 66)⟩, ⟨some 68, none, .fieldA 2 (.t 67)⟩, ⟨some 69, none, .load none (.t 68)⟩, ⟨some 70, none, .mov (.t 9)⟩, ⟨some 71, none, .load (some 5) (.t 7)⟩, ⟨some 72, none, .buildS 72 94 5 1 [(0, 5, .t 71)]⟩, ⟨some 73, none, .insR 111 94 5 (.t 69) (.t 70) (.t 72)⟩, ⟨some 74, none, .nilck (.t 64)⟩, ⟨some 75, none, .fieldA 0 (.t 74)⟩, ⟨some 76, none, .fieldA 2 (.t 75)⟩, ⟨none, none, .store 1 (.t 76) (.t 73)⟩]) (.seq (.region [ ⟨some 4, none, .mov (.i 0)⟩]) .ret)
def q56_1 : LC := e56_1
theorem u56_1 : Unf q56_1 e56_1 := fun _ _ _ _ _ => (rfl)
def e56_2 : LC :=
  .seq (.draw [0, 1, 3, 7, 15, 0, 63, 127, 255, 255, 511, 2047] [ ⟨some 54, none, .mov (.t 0)⟩, ⟨some 55, none, .nilck (.t 54)⟩, ⟨some 56, none, .fieldA 0 (.t 55)⟩, ⟨some 57, none, .fieldA 2 (.t 56)⟩, ⟨some 58, none, .load none (.t 57)⟩, ⟨some 59, none, .load (some 5) (.t 7)⟩, ⟨some 60, none, .call 110 [.t 58, .t 59, .c (.at (.d (.fn 96 [])))]⟩, ⟨some 53, none, .mov (.t 60)⟩, ⟨some 61, none, .ext (.t 53) 0⟩, ⟨some 62, none, .ext (.t 53) 1⟩, ⟨some 9, none, .mov (.t 61)⟩, ⟨some 10, none, .mov (.t 62)⟩]) (.seq (.seq (.region [ ⟨some 63, none, .mov (.t 10)⟩]) (.cond (.t 63) (.seq (.region [ ⟨some 4, none, .mov (.i 7)⟩]) .ret) .skip)) q56_1)
def q56_2 : LC := e56_2
theorem u56_2 : Unf q56_2 e56_2 := fun _ _ _ _ _ => (rfl)
def e56_3 : LC :=
  .seq (.seq (.region [ ⟨some 48, none, .load (some 5) (.t 7)⟩, ⟨some 49, none, .call 95 [.t 48]⟩, ⟨some 8, none, .mov (.t 49)⟩]) (.seq (.region [ ⟨some 50, none, .mov (.t 8)⟩, ⟨some 51, none, .bin .neq (.t 50) (.i 0)⟩]) (.cond (.t 51) (.seq (.region [ ⟨some 52, none, .mov (.t 8)⟩, ⟨some 4, none, .mov (.t 52)⟩]) .ret) .skip))) q56_2
def q56_3 : LC := e56_3
theorem u56_3 : Unf q56_3 e56_3 := fun _ _ _ _ _ => (rfl)
def e56_4 : LC :=
  .seq (.draw [0, 1, 3, 0, 8, 24, 0, 64, 192, 448, 0, 1024, 3072, 0, 8192, 24576, 64512, 131071, 0, 524287] [ ⟨some 30, none, .mov (.t 1)⟩, ⟨some 31, none, .idxA 1 (.t 30) (.i 1)⟩, ⟨some 32, none, .load none (.t 31)⟩, ⟨some 33, none, .mov (.t 1)⟩, ⟨some 34, none, .idxA 1 (.t 33) (.i 2)⟩, ⟨some 35, none, .load none (.t 34)⟩, ⟨some 36, none, .mov (.t 1)⟩, ⟨some 37, none, .idxA 1 (.t 36) (.i 3)⟩, ⟨some 38, none, .load none (.t 37)⟩, ⟨some 39, none, .call 103 [.t 38]⟩, ⟨some 40, none, .mov (.t 5)⟩, ⟨some 41, none, .idxA 1 (.t 40) (.i 0)⟩, ⟨some 42, none, .load none (.t 41)⟩, ⟨some 43, none, .mov (.t 5)⟩, ⟨some 44, none, .idxA 1 (.t 43) (.i 1)⟩, ⟨some 45, none, .load none (.t 44)⟩, ⟨some 46, none, .build [.d (.int .i64 0), .d (.int .i64 0)] [(0, 1, .t 42), (1, 1, .t 45)]⟩, ⟨some 47, none, .build [.d (.str []), .d (.str []), .d (.int .i64 0), .d (.int .i64 0), .d (.int .i64 0)] [(0, 1, .t 32), (1, 1, .t 35), (2, 1, .t 39), (3, 2, .t 46)]⟩, ⟨some 7, none, .alloc 7 [.d (.str []), .d (.str []), .d (.int .i64 0), .d (.int .i64 0), .d (.int .i64 0)]⟩, ⟨none, none, .store 5 (.t 7) (.t 47)⟩]) q56_3
def q56_4 : LC := e56_4
theorem u56_4 : Unf q56_4 e56_4 := fun _ _ _ _ _ => (rfl)
def e56_5 : LC :=
  .seq (.region [ ⟨some 22, none, .mov (.t 1)⟩, ⟨some 23, none, .slcL 1 (.t 22) (some (.i 4)) none⟩, ⟨some 24, none, .call 104 [.t 23]⟩, ⟨some 21, none, .mov (.t 24)⟩, ⟨some 25, none, .ext (.t 21) 0⟩, ⟨some 26, none, .ext (.t 21) 1⟩, ⟨some 5, none, .mov (.t 25)⟩, ⟨some 6, none, .mov (.t 26)⟩]) (.seq (.seq (.region [ ⟨some 27, none, .mov (.t 6)⟩, ⟨some 28, none, .bin .neq (.t 27) (.i 0)⟩]) (.cond (.t 28) (.seq (.region [ ⟨some 29, none, .mov (.t 6)⟩, ⟨some 4, none, .mov (.t 29)⟩]) .ret) .skip)) q56_4)
def q56_5 : LC := e56_5
theorem u56_5 : Unf q56_5 e56_5 := fun _ _ _ _ _ => (rfl)
def e56_6 : LC :=
  .seq (.seq (.region [ ⟨some 11, none, .mov (.t 1)⟩, ⟨some 12, none, .lenL (.t 11)⟩, ⟨some 13, none, .bin .neq (.t 12) (.i 6)⟩, ⟨some 14, none, .mov (.t 13)⟩, ⟨some 15, some (14, false), .mov (.t 1)⟩, ⟨some 16, some (14, false), .idxA 1 (.t 15) (.i 3)⟩, ⟨some 17, some (14, false), .load none (.t 16)⟩, ⟨some 18, some (14, false), .call 103 [.t 17]⟩, ⟨some 19, some (14, false), .bin .lss (.t 18) (.i 0)⟩, ⟨some 20, none, .pick (.t 14) (.b true) (.t 19)⟩]) (.cond (.t 20) (.seq (.region [ ⟨some 4, none, .mov (.i 4)⟩]) .ret) .skip)) q56_5
def q56_6 : LC := e56_6
theorem u56_6 : Unf q56_6 e56_6 := fun _ _ _ _ _ => (rfl)
def d_drawing_reader_dimension : LC :=
  .seq (.region [ ⟨some 4, none, .mov (.i 0)⟩]) q56_6
def c_drawing_reader_dimension : LC := d_drawing_reader_dimension
theorem w_drawing_reader_dimension : Unf c_drawing_reader_dimension d_drawing_reader_dimension := fun _ _ _ _ _ => (rfl)
attribute [simp] e56_1 u56_1 e56_2 u56_2 e56_3 u56_3 e56_4 u56_4 e56_5 u56_5 e56_6 u56_6 d_drawing_reader_dimension w_drawing_reader_dimension
theorem k_drawing_reader_dimension : chkF Tryz.prog Tryz.f56 2 [(4, none)] c_drawing_reader_dimension = true := by kernel_rfl
/-- metrolab/drawing.Parse.1 -/
def d_drawing_Parse_1 : LC :=
  .seq (.region [ ⟨some 2, none, .mov (.b false)⟩]) (.seq (.region [ ⟨some 3, none, .mov (.t 0)⟩, ⟨some 4, none, .bin .eql (.t 3) (.s [])⟩, ⟨some 2, none, .mov (.t 4)⟩]) .ret)
def c_drawing_Parse_1 : LC := d_drawing_Parse_1
theorem w_drawing_Parse_1 : Unf c_drawing_Parse_1 d_drawing_Parse_1 := fun _ _ _ _ _ => (rfl)
attribute [simp] d_drawing_Parse_1 w_drawing_Parse_1
theorem k_drawing_Parse_1 : chkF Tryz.prog Tryz.f58 1 [(2, none)] c_drawing_Parse_1 = true := by kernel_rfl
end Go.Proofs.YtpfhfokfambdaaaGreatDoor
