import Derived.Test.YtnbiiphkefhkcaaGreatGxW
import Derived.Test.YtnbiiphkefhkcaaGreatChecked
set_option linter.unusedVariables false
set_option maxRecDepth 100000
namespace Gx
open Go

def tyI1 : TI := ⟨1, 8, false, false, [S.v V.nilFn], TD.other⟩
theorem tyI1_ok : tiOf Go.Proofs.Tryz.prog 1 = some tyI1 := by kernel_rfl
def tyI2 : TI := ⟨1, 8, false, false, [S.v (V.int IntKind.i64 (0))], TD.int IntKind.i64⟩
theorem tyI2_ok : tiOf Go.Proofs.Tryz.prog 2 = some tyI2 := by kernel_rfl
def tyI3 : TI := ⟨1, 8, false, false, [S.v (V.int IntKind.i64 (0))], TD.int IntKind.i64⟩
theorem tyI3_ok : tiOf Go.Proofs.Tryz.prog 3 = some tyI3 := by kernel_rfl
def tyI4 : TI := ⟨1, 1, false, false, [S.v (V.bool false)], TD.bool⟩
theorem tyI4_ok : tiOf Go.Proofs.Tryz.prog 4 = some tyI4 := by kernel_rfl
def tyI5 : TI := ⟨1, 1, false, false, [S.v (V.int IntKind.u8 (0))], TD.int IntKind.u8⟩
theorem tyI5_ok : tiOf Go.Proofs.Tryz.prog 5 = some tyI5 := by kernel_rfl
def tyI6 : TI := ⟨1, 1, false, false, [S.v (V.int IntKind.u8 (0))], TD.int IntKind.u8⟩
theorem tyI6_ok : tiOf Go.Proofs.Tryz.prog 6 = some tyI6 := by kernel_rfl
def tyI8 : TI := ⟨4, 24, true, true, [S.v (V.int IntKind.i64 (0)), S.v (V.int IntKind.i64 (0)), S.v (V.bool false), S.v (V.int IntKind.u8 (0))], TD.struct [(0, 1, false), (1, 1, false), (2, 1, false), (3, 1, false)]⟩
theorem tyI8_ok : tiOf Go.Proofs.Tryz.prog 8 = some tyI8 := by kernel_rfl
def tyI9 : TI := ⟨1, 16, false, false, [S.v V.str], TD.str⟩
theorem tyI9_ok : tiOf Go.Proofs.Tryz.prog 9 = some tyI9 := by kernel_rfl
def tyI16 : TI := ⟨1, 8, false, false, [S.v V.nilPtr], TD.other⟩
theorem tyI16_ok : tiOf Go.Proofs.Tryz.prog 16 = some tyI16 := by kernel_rfl
def tyI22 : TI := ⟨1, 24, false, false, [S.xrow [] 0], TD.slice 5⟩
theorem tyI22_ok : tiOf Go.Proofs.Tryz.prog 22 = some tyI22 := by kernel_rfl
def tyI23 : TI := ⟨1, 8, false, false, [S.v (V.int IntKind.u64 (0))], TD.int IntKind.u64⟩
theorem tyI23_ok : tiOf Go.Proofs.Tryz.prog 23 = some tyI23 := by kernel_rfl
def tyI25 : TI := ⟨1, 8, false, false, [S.v V.nilPtr], TD.other⟩
theorem tyI25_ok : tiOf Go.Proofs.Tryz.prog 25 = some tyI25 := by kernel_rfl
def tyI27 : TI := ⟨1, 24, false, false, [S.xrow [] 0], TD.slice 3⟩
theorem tyI27_ok : tiOf Go.Proofs.Tryz.prog 27 = some tyI27 := by kernel_rfl
def tyI28 : TI := ⟨1, 24, false, false, [S.xrow [] 0], TD.slice 23⟩
theorem tyI28_ok : tiOf Go.Proofs.Tryz.prog 28 = some tyI28 := by kernel_rfl
def tyI30 : TI := ⟨3, 56, true, false, [S.xrow [] 0, S.xrow [] 0, S.v (V.int IntKind.i64 (0))], TD.struct [(0, 1, false), (1, 1, false), (2, 1, false)]⟩
theorem tyI30_ok : tiOf Go.Proofs.Tryz.prog 30 = some tyI30 := by kernel_rfl
def tyI34 : TI := ⟨5, 40, true, true, [S.v (V.int IntKind.i64 (0)), S.v (V.int IntKind.i64 (0)), S.v (V.int IntKind.u64 (0)), S.v (V.bool false), S.v (V.int IntKind.i64 (0))], TD.struct [(0, 1, false), (1, 1, false), (2, 1, false), (3, 1, false), (4, 1, false)]⟩
theorem tyI34_ok : tiOf Go.Proofs.Tryz.prog 34 = some tyI34 := by kernel_rfl
def tyI36 : TI := ⟨1, 8, false, false, [S.v V.nilFn], TD.other⟩
theorem tyI36_ok : tiOf Go.Proofs.Tryz.prog 36 = some tyI36 := by kernel_rfl
def tyI37 : TI := ⟨1, 24, false, false, [S.xrow [] 0], TD.slice 39⟩
theorem tyI37_ok : tiOf Go.Proofs.Tryz.prog 37 = some tyI37 := by kernel_rfl
def tyI39 : TI := ⟨5, 88, true, false, [S.v (V.int IntKind.i64 (0)), S.v (V.int IntKind.i64 (0)), S.xrow [] 0, S.xrow [] 0, S.xrow [] 0], TD.struct [(0, 1, false), (1, 1, false), (2, 1, false), (3, 1, false), (4, 1, false)]⟩
theorem tyI39_ok : tiOf Go.Proofs.Tryz.prog 39 = some tyI39 := by kernel_rfl
def tyI40 : TI := ⟨1, 8, false, false, [S.v V.nilFn], TD.other⟩
theorem tyI40_ok : tiOf Go.Proofs.Tryz.prog 40 = some tyI40 := by kernel_rfl
def tyI41 : TI := ⟨1, 24, false, false, [S.xrow [] 0], TD.slice 82⟩
theorem tyI41_ok : tiOf Go.Proofs.Tryz.prog 41 = some tyI41 := by kernel_rfl
def tyI43 : TI := ⟨7, 88, true, false, [S.v (V.int IntKind.i64 (0)), S.v (V.int IntKind.i64 (0)), S.v (V.int IntKind.i64 (0)), S.v (V.int IntKind.u64 (0)), S.v (V.int IntKind.i64 (0)), S.xrow [] 0, S.xrow [] 0], TD.struct [(0, 1, false), (1, 1, false), (2, 1, false), (3, 1, false), (4, 1, false), (5, 1, false), (6, 1, false)]⟩
theorem tyI43_ok : tiOf Go.Proofs.Tryz.prog 43 = some tyI43 := by kernel_rfl
def tyI45 : TI := ⟨5, 40, true, true, [S.v (V.int IntKind.i64 (0)), S.v (V.int IntKind.i64 (0)), S.v (V.int IntKind.u64 (0)), S.v (V.int IntKind.u64 (0)), S.v (V.int IntKind.i64 (0))], TD.struct [(0, 1, false), (1, 1, false), (2, 1, false), (3, 1, false), (4, 1, false)]⟩
theorem tyI45_ok : tiOf Go.Proofs.Tryz.prog 45 = some tyI45 := by kernel_rfl
def tyI46 : TI := ⟨1, 8, false, false, [S.v V.nilFn], TD.other⟩
theorem tyI46_ok : tiOf Go.Proofs.Tryz.prog 46 = some tyI46 := by kernel_rfl
def tyI47 : TI := ⟨1, 24, false, false, [S.xrow [] 0], TD.slice 43⟩
theorem tyI47_ok : tiOf Go.Proofs.Tryz.prog 47 = some tyI47 := by kernel_rfl
def tyI49 : TI := ⟨1, 24, false, false, [S.xrow [] 0], TD.slice 58⟩
theorem tyI49_ok : tiOf Go.Proofs.Tryz.prog 49 = some tyI49 := by kernel_rfl
def tyI52 : TI := ⟨2, 16, true, true, [S.v (V.int IntKind.i64 (0)), S.v (V.int IntKind.u64 (0))], TD.struct [(0, 1, false), (1, 1, false)]⟩
theorem tyI52_ok : tiOf Go.Proofs.Tryz.prog 52 = some tyI52 := by kernel_rfl
def tyI54 : TI := ⟨14, 144, true, false, [S.v (V.int IntKind.i64 (0)), S.v (V.int IntKind.i64 (0)), S.xrow [] 0, S.xrow [] 0, S.v (V.int IntKind.i64 (0)), S.v (V.int IntKind.i64 (0)), S.v (V.int IntKind.i64 (0)), S.v (V.int IntKind.i64 (0)), S.v (V.int IntKind.i64 (0)), S.v (V.int IntKind.u64 (0)), S.v (V.int IntKind.u64 (0)), S.v (V.int IntKind.u64 (0)), S.v (V.int IntKind.i64 (0)), S.v (V.int IntKind.u64 (0))], TD.struct [(0, 1, false), (1, 1, false), (2, 3, true), (5, 1, false), (6, 1, false), (7, 1, false), (8, 1, false), (9, 1, false), (10, 1, false), (11, 1, false), (12, 2, true)]⟩
theorem tyI54_ok : tiOf Go.Proofs.Tryz.prog 54 = some tyI54 := by kernel_rfl
def tyI58 : TI := ⟨4, 40, true, false, [S.v (V.int IntKind.u64 (0)), S.v (V.bool false), S.v (V.bool false), S.xrow [] 0], TD.struct [(0, 1, false), (1, 1, false), (2, 1, false), (3, 1, false)]⟩
theorem tyI58_ok : tiOf Go.Proofs.Tryz.prog 58 = some tyI58 := by kernel_rfl
def tyI61 : TI := ⟨1, 8, false, false, [S.v V.nilFn], TD.other⟩
theorem tyI61_ok : tiOf Go.Proofs.Tryz.prog 61 = some tyI61 := by kernel_rfl
def tyI63 : TI := ⟨1, 24, false, false, [S.xrow [] 0], TD.slice 70⟩
theorem tyI63_ok : tiOf Go.Proofs.Tryz.prog 63 = some tyI63 := by kernel_rfl
def tyI64 : TI := ⟨1, 24, false, false, [S.xrow [] 0], TD.slice 27⟩
theorem tyI64_ok : tiOf Go.Proofs.Tryz.prog 64 = some tyI64 := by kernel_rfl
def tyI66 : TI := ⟨3, 56, true, false, [S.xrow [] 0, S.xrow [] 0, S.v (V.int IntKind.i64 (0))], TD.struct [(0, 1, false), (1, 1, false), (2, 1, false)]⟩
theorem tyI66_ok : tiOf Go.Proofs.Tryz.prog 66 = some tyI66 := by kernel_rfl
def tyI70 : TI := ⟨8, 64, true, true, [S.v (V.int IntKind.i64 (0)), S.v (V.int IntKind.i64 (0)), S.v (V.int IntKind.i64 (0)), S.v (V.int IntKind.u64 (0)), S.v (V.int IntKind.u64 (0)), S.v (V.int IntKind.i64 (0)), S.v (V.int IntKind.u64 (0)), S.v (V.bool false)], TD.struct [(0, 1, false), (1, 5, true), (6, 1, false), (7, 1, false)]⟩
theorem tyI70_ok : tiOf Go.Proofs.Tryz.prog 70 = some tyI70 := by kernel_rfl
def tyI75 : TI := ⟨1, 8, false, false, [S.v (V.int IntKind.i64 (0))], TD.int IntKind.i64⟩
theorem tyI75_ok : tiOf Go.Proofs.Tryz.prog 75 = some tyI75 := by kernel_rfl
def tyI82 : TI := ⟨3, 24, true, true, [S.v (V.bool false), S.v (V.int IntKind.i64 (0)), S.v (V.int IntKind.u64 (0))], TD.struct [(0, 1, false), (1, 1, false), (2, 1, false)]⟩
theorem tyI82_ok : tiOf Go.Proofs.Tryz.prog 82 = some tyI82 := by kernel_rfl
def tyI85 : TI := ⟨3, 24, true, false, [S.v (V.int IntKind.i64 (0)), S.v (V.int IntKind.i64 (0)), S.v (V.int IntKind.i64 (0))], TD.arr 3 3⟩
theorem tyI85_ok : tiOf Go.Proofs.Tryz.prog 85 = some tyI85 := by kernel_rfl
def tyI91 : TI := ⟨1, 24, false, false, [S.xrow [] 0], TD.slice 92⟩
theorem tyI91_ok : tiOf Go.Proofs.Tryz.prog 91 = some tyI91 := by kernel_rfl
def tyI92 : TI := ⟨1, 24, false, false, [S.xrow [] 0], TD.slice 4⟩
theorem tyI92_ok : tiOf Go.Proofs.Tryz.prog 92 = some tyI92 := by kernel_rfl
def tyI96 : TI := ⟨1, 24, false, false, [S.xrow [] 0], TD.slice 47⟩
theorem tyI96_ok : tiOf Go.Proofs.Tryz.prog 96 = some tyI96 := by kernel_rfl
def tyI98 : TI := ⟨5, 104, true, false, [S.xrow [] 0, S.xrow [] 0, S.v (V.int IntKind.i64 (0)), S.xrow [] 0, S.xrow [] 0], TD.struct [(0, 3, true), (3, 1, false), (4, 1, false)]⟩
theorem tyI98_ok : tiOf Go.Proofs.Tryz.prog 98 = some tyI98 := by kernel_rfl
def tyI102 : TI := ⟨1, 24, false, false, [S.xrow [] 0], TD.slice 98⟩
theorem tyI102_ok : tiOf Go.Proofs.Tryz.prog 102 = some tyI102 := by kernel_rfl
def tyI103 : TI := ⟨1, 24, false, false, [S.xrow [] 0], TD.slice 114⟩
theorem tyI103_ok : tiOf Go.Proofs.Tryz.prog 103 = some tyI103 := by kernel_rfl
def tyI104 : TI := ⟨1, 24, false, false, [S.xrow [] 0], TD.slice 190⟩
theorem tyI104_ok : tiOf Go.Proofs.Tryz.prog 104 = some tyI104 := by kernel_rfl
def tyI106 : TI := ⟨9, 184, true, false, [S.xrow [] 0, S.xrow [] 0, S.v (V.int IntKind.i64 (0)), S.xrow [] 0, S.xrow [] 0, S.v (V.int IntKind.i64 (0)), S.xrow [] 0, S.xrow [] 0, S.xrow [] 0], TD.struct [(0, 3, true), (3, 3, true), (6, 1, false), (7, 1, false), (8, 1, false)]⟩
theorem tyI106_ok : tiOf Go.Proofs.Tryz.prog 106 = some tyI106 := by kernel_rfl
def tyI114 : TI := ⟨8, 128, true, false, [S.xrow [] 0, S.v (V.int IntKind.i64 (0)), S.v (V.bool false), S.v (V.int IntKind.i64 (0)), S.v (V.int IntKind.i64 (0)), S.xrow [] 0, S.xrow [] 0, S.xrow [] 0], TD.struct [(0, 1, false), (1, 1, false), (2, 1, false), (3, 5, true)]⟩
theorem tyI114_ok : tiOf Go.Proofs.Tryz.prog 114 = some tyI114 := by kernel_rfl
def tyI117 : TI := ⟨3, 40, true, false, [S.xrow [] 0, S.v (V.int IntKind.i64 (0)), S.v (V.int IntKind.u64 (0))], TD.struct [(0, 1, false), (1, 1, false), (2, 1, false)]⟩
theorem tyI117_ok : tiOf Go.Proofs.Tryz.prog 117 = some tyI117 := by kernel_rfl
def tyI118 : TI := ⟨1, 8, false, false, [S.v (V.int IntKind.u64 (0))], TD.int IntKind.u64⟩
theorem tyI118_ok : tiOf Go.Proofs.Tryz.prog 118 = some tyI118 := by kernel_rfl
def tyI139 : TI := ⟨1, 8, false, false, [S.v V.nilFn], TD.other⟩
theorem tyI139_ok : tiOf Go.Proofs.Tryz.prog 139 = some tyI139 := by kernel_rfl
def tyI145 : TI := ⟨35, 440, true, false, [S.xrow [] 0, S.xrow [] 0, S.v (V.int IntKind.i64 (0)), S.v (V.int IntKind.i64 (0)), S.v (V.int IntKind.i64 (0)), S.v (V.int IntKind.i64 (0)), S.v (V.int IntKind.i64 (0)), S.v (V.int IntKind.u64 (0)), S.v (V.int IntKind.i64 (0)), S.xrow [] 0, S.xrow [] 0, S.v (V.int IntKind.i64 (0)), S.v (V.int IntKind.i64 (0)), S.v (V.int IntKind.i64 (0)), S.xrow [] 0, S.xrow [] 0, S.xrow [] 0, S.v (V.int IntKind.i64 (0)), S.v (V.int IntKind.i64 (0)), S.v (V.int IntKind.i64 (0)), S.v (V.int IntKind.i64 (0)), S.v (V.int IntKind.i64 (0)), S.v (V.int IntKind.i64 (0)), S.v (V.int IntKind.i64 (0)), S.v (V.int IntKind.i64 (0)), S.xrow [] 0, S.xrow [] 0, S.xrow [] 0, S.v (V.int IntKind.i64 (0)), S.v (V.int IntKind.i64 (0)), S.v (V.int IntKind.i64 (0)), S.v (V.int IntKind.u64 (0)), S.v (V.bool false), S.v (V.int IntKind.i64 (0)), S.v (V.int IntKind.u64 (0))], TD.struct [(0, 3, true), (3, 1, false), (4, 7, true), (11, 1, false), (12, 5, true), (17, 1, false), (18, 1, false), (19, 1, false), (20, 1, false), (21, 1, false), (22, 1, false), (23, 1, false), (24, 1, false), (25, 1, false), (26, 1, false), (27, 1, false), (28, 1, false), (29, 5, true), (34, 1, false)]⟩
theorem tyI145_ok : tiOf Go.Proofs.Tryz.prog 145 = some tyI145 := by kernel_rfl
def tyI146 : TI := ⟨1, 8, false, false, [S.v V.nilPtr], TD.other⟩
theorem tyI146_ok : tiOf Go.Proofs.Tryz.prog 146 = some tyI146 := by kernel_rfl
def tyI158 : TI := ⟨5, 48, true, false, [S.v (V.int IntKind.i64 (0)), S.v (V.int IntKind.u64 (0)), S.v (V.bool false), S.v (V.bool false), S.xrow [] 0], TD.struct [(0, 2, true), (2, 1, false), (3, 1, false), (4, 1, false)]⟩
theorem tyI158_ok : tiOf Go.Proofs.Tryz.prog 158 = some tyI158 := by kernel_rfl
def tyI168 : TI := ⟨1, 8, false, false, [S.v V.nilPtr], TD.other⟩
theorem tyI168_ok : tiOf Go.Proofs.Tryz.prog 168 = some tyI168 := by kernel_rfl
def tyI172 : TI := ⟨4, 32, true, false, [S.v V.nilFn, S.v V.nilFn, S.v V.nilFn, S.v V.nilFn], TD.struct [(0, 1, false), (1, 1, false), (2, 1, false), (3, 1, false)]⟩
theorem tyI172_ok : tiOf Go.Proofs.Tryz.prog 172 = some tyI172 := by kernel_rfl
def tyI179 : TI := ⟨1, 8, false, false, [S.v V.nilFn], TD.other⟩
theorem tyI179_ok : tiOf Go.Proofs.Tryz.prog 179 = some tyI179 := by kernel_rfl
def tyI183 : TI := ⟨1, 8, false, false, [S.v V.nilFn], TD.other⟩
theorem tyI183_ok : tiOf Go.Proofs.Tryz.prog 183 = some tyI183 := by kernel_rfl
def tyI185 : TI := ⟨3, 24, true, false, [S.v V.nilFn, S.v V.nilFn, S.v V.nilFn], TD.struct [(0, 1, false), (1, 1, false), (2, 1, false)]⟩
theorem tyI185_ok : tiOf Go.Proofs.Tryz.prog 185 = some tyI185 := by kernel_rfl
def tyI190 : TI := ⟨8, 64, true, true, [S.v (V.int IntKind.i64 (0)), S.v (V.int IntKind.i64 (0)), S.v (V.bool false), S.v (V.int IntKind.i64 (0)), S.v (V.int IntKind.i64 (0)), S.v (V.int IntKind.u64 (0)), S.v (V.bool false), S.v (V.int IntKind.i64 (0))], TD.struct [(0, 1, false), (1, 1, false), (2, 1, false), (3, 5, true)]⟩
theorem tyI190_ok : tiOf Go.Proofs.Tryz.prog 190 = some tyI190 := by kernel_rfl
def tyI196 : TI := ⟨1, 8, false, false, [S.v V.nilFn], TD.other⟩
theorem tyI196_ok : tiOf Go.Proofs.Tryz.prog 196 = some tyI196 := by kernel_rfl
def tyI198 : TI := ⟨1, 8, false, false, [S.v V.nilFn], TD.other⟩
theorem tyI198_ok : tiOf Go.Proofs.Tryz.prog 198 = some tyI198 := by kernel_rfl
def tyI225 : TI := ⟨5, 88, true, false, [S.v (V.int IntKind.i64 (0)), S.v (V.int IntKind.i64 (0)), S.xrow [] 0, S.xrow [] 0, S.xrow [] 0], TD.struct [(0, 1, false), (1, 1, false), (2, 1, false), (3, 1, false), (4, 1, false)]⟩
theorem tyI225_ok : tiOf Go.Proofs.Tryz.prog 225 = some tyI225 := by kernel_rfl
def tyI227 : TI := ⟨1, 24, false, false, [S.xrow [] 0], TD.slice 229⟩
theorem tyI227_ok : tiOf Go.Proofs.Tryz.prog 227 = some tyI227 := by kernel_rfl
def tyI229 : TI := ⟨2, 16, true, false, [S.v (V.int IntKind.i64 (0)), S.v (V.int IntKind.i64 (0))], TD.arr 2 3⟩
theorem tyI229_ok : tiOf Go.Proofs.Tryz.prog 229 = some tyI229 := by kernel_rfl
def tyI240 : TI := ⟨1, 8, false, false, [S.v (V.int IntKind.i64 (0))], TD.int IntKind.i64⟩
theorem tyI240_ok : tiOf Go.Proofs.Tryz.prog 240 = some tyI240 := by kernel_rfl
def tyI249 : TI := ⟨1, 4, false, false, [S.v (V.int IntKind.u32 (0))], TD.int IntKind.u32⟩
theorem tyI249_ok : tiOf Go.Proofs.Tryz.prog 249 = some tyI249 := by kernel_rfl
def tyI251 : TI := ⟨1, 8, false, false, [S.v (V.int IntKind.u64 (0))], TD.int IntKind.u64⟩
theorem tyI251_ok : tiOf Go.Proofs.Tryz.prog 251 = some tyI251 := by kernel_rfl
def tyI254 : TI := ⟨1, 8, false, false, [S.v V.nilPtr], TD.other⟩
theorem tyI254_ok : tiOf Go.Proofs.Tryz.prog 254 = some tyI254 := by kernel_rfl
def tiT (t : TypeId) : Option TI := match Nat.ble t 66 with | true => (match Nat.ble t 34 with | true => (match Nat.ble t 9 with | true => (match Nat.ble t 4 with | true => (match Nat.ble t 2 with | true => (match Nat.ble t 1 with | true => (match Nat.beq t 1 with | true => some tyI1 | false => none) | false => (match Nat.beq t 2 with | true => some tyI2 | false => none)) | false => (match Nat.ble t 3 with | true => (match Nat.beq t 3 with | true => some tyI3 | false => none) | false => (match Nat.beq t 4 with | true => some tyI4 | false => none))) | false => (match Nat.ble t 6 with | true => (match Nat.ble t 5 with | true => (match Nat.beq t 5 with | true => some tyI5 | false => none) | false => (match Nat.beq t 6 with | true => some tyI6 | false => none)) | false => (match Nat.ble t 8 with | true => (match Nat.beq t 8 with | true => some tyI8 | false => none) | false => (match Nat.beq t 9 with | true => some tyI9 | false => none)))) | false => (match Nat.ble t 25 with | true => (match Nat.ble t 22 with | true => (match Nat.ble t 16 with | true => (match Nat.beq t 16 with | true => some tyI16 | false => none) | false => (match Nat.beq t 22 with | true => some tyI22 | false => none)) | false => (match Nat.ble t 23 with | true => (match Nat.beq t 23 with | true => some tyI23 | false => none) | false => (match Nat.beq t 25 with | true => some tyI25 | false => none))) | false => (match Nat.ble t 28 with | true => (match Nat.ble t 27 with | true => (match Nat.beq t 27 with | true => some tyI27 | false => none) | false => (match Nat.beq t 28 with | true => some tyI28 | false => none)) | false => (match Nat.ble t 30 with | true => (match Nat.beq t 30 with | true => some tyI30 | false => none) | false => (match Nat.beq t 34 with | true => some tyI34 | false => none))))) | false => (match Nat.ble t 46 with | true => (match Nat.ble t 40 with | true => (match Nat.ble t 37 with | true => (match Nat.ble t 36 with | true => (match Nat.beq t 36 with | true => some tyI36 | false => none) | false => (match Nat.beq t 37 with | true => some tyI37 | false => none)) | false => (match Nat.ble t 39 with | true => (match Nat.beq t 39 with | true => some tyI39 | false => none) | false => (match Nat.beq t 40 with | true => some tyI40 | false => none))) | false => (match Nat.ble t 43 with | true => (match Nat.ble t 41 with | true => (match Nat.beq t 41 with | true => some tyI41 | false => none) | false => (match Nat.beq t 43 with | true => some tyI43 | false => none)) | false => (match Nat.ble t 45 with | true => (match Nat.beq t 45 with | true => some tyI45 | false => none) | false => (match Nat.beq t 46 with | true => some tyI46 | false => none)))) | false => (match Nat.ble t 54 with | true => (match Nat.ble t 49 with | true => (match Nat.ble t 47 with | true => (match Nat.beq t 47 with | true => some tyI47 | false => none) | false => (match Nat.beq t 49 with | true => some tyI49 | false => none)) | false => (match Nat.ble t 52 with | true => (match Nat.beq t 52 with | true => some tyI52 | false => none) | false => (match Nat.beq t 54 with | true => some tyI54 | false => none))) | false => (match Nat.ble t 61 with | true => (match Nat.ble t 58 with | true => (match Nat.beq t 58 with | true => some tyI58 | false => none) | false => (match Nat.beq t 61 with | true => some tyI61 | false => none)) | false => (match Nat.ble t 63 with | true => (match Nat.beq t 63 with | true => some tyI63 | false => none) | false => (match Nat.ble t 64 with | true => (match Nat.beq t 64 with | true => some tyI64 | false => none) | false => (match Nat.beq t 66 with | true => some tyI66 | false => none))))))) | false => (match Nat.ble t 145 with | true => (match Nat.ble t 98 with | true => (match Nat.ble t 85 with | true => (match Nat.ble t 75 with | true => (match Nat.ble t 70 with | true => (match Nat.beq t 70 with | true => some tyI70 | false => none) | false => (match Nat.beq t 75 with | true => some tyI75 | false => none)) | false => (match Nat.ble t 82 with | true => (match Nat.beq t 82 with | true => some tyI82 | false => none) | false => (match Nat.beq t 85 with | true => some tyI85 | false => none))) | false => (match Nat.ble t 92 with | true => (match Nat.ble t 91 with | true => (match Nat.beq t 91 with | true => some tyI91 | false => none) | false => (match Nat.beq t 92 with | true => some tyI92 | false => none)) | false => (match Nat.ble t 96 with | true => (match Nat.beq t 96 with | true => some tyI96 | false => none) | false => (match Nat.beq t 98 with | true => some tyI98 | false => none)))) | false => (match Nat.ble t 106 with | true => (match Nat.ble t 103 with | true => (match Nat.ble t 102 with | true => (match Nat.beq t 102 with | true => some tyI102 | false => none) | false => (match Nat.beq t 103 with | true => some tyI103 | false => none)) | false => (match Nat.ble t 104 with | true => (match Nat.beq t 104 with | true => some tyI104 | false => none) | false => (match Nat.beq t 106 with | true => some tyI106 | false => none))) | false => (match Nat.ble t 117 with | true => (match Nat.ble t 114 with | true => (match Nat.beq t 114 with | true => some tyI114 | false => none) | false => (match Nat.beq t 117 with | true => some tyI117 | false => none)) | false => (match Nat.ble t 118 with | true => (match Nat.beq t 118 with | true => some tyI118 | false => none) | false => (match Nat.ble t 139 with | true => (match Nat.beq t 139 with | true => some tyI139 | false => none) | false => (match Nat.beq t 145 with | true => some tyI145 | false => none)))))) | false => (match Nat.ble t 190 with | true => (match Nat.ble t 172 with | true => (match Nat.ble t 158 with | true => (match Nat.ble t 146 with | true => (match Nat.beq t 146 with | true => some tyI146 | false => none) | false => (match Nat.beq t 158 with | true => some tyI158 | false => none)) | false => (match Nat.ble t 168 with | true => (match Nat.beq t 168 with | true => some tyI168 | false => none) | false => (match Nat.beq t 172 with | true => some tyI172 | false => none))) | false => (match Nat.ble t 183 with | true => (match Nat.ble t 179 with | true => (match Nat.beq t 179 with | true => some tyI179 | false => none) | false => (match Nat.beq t 183 with | true => some tyI183 | false => none)) | false => (match Nat.ble t 185 with | true => (match Nat.beq t 185 with | true => some tyI185 | false => none) | false => (match Nat.beq t 190 with | true => some tyI190 | false => none)))) | false => (match Nat.ble t 227 with | true => (match Nat.ble t 198 with | true => (match Nat.ble t 196 with | true => (match Nat.beq t 196 with | true => some tyI196 | false => none) | false => (match Nat.beq t 198 with | true => some tyI198 | false => none)) | false => (match Nat.ble t 225 with | true => (match Nat.beq t 225 with | true => some tyI225 | false => none) | false => (match Nat.beq t 227 with | true => some tyI227 | false => none))) | false => (match Nat.ble t 240 with | true => (match Nat.ble t 229 with | true => (match Nat.beq t 229 with | true => some tyI229 | false => none) | false => (match Nat.beq t 240 with | true => some tyI240 | false => none)) | false => (match Nat.ble t 249 with | true => (match Nat.beq t 249 with | true => some tyI249 | false => none) | false => (match Nat.ble t 251 with | true => (match Nat.beq t 251 with | true => some tyI251 | false => none) | false => (match Nat.beq t 254 with | true => some tyI254 | false => none)))))))
theorem tiT_ok : ∀ t x, tiT t = some x → TIok Go.Proofs.Tryz.prog t x := by
  intro t x h
  unfold tiT at h
  split at h
  · split at h
    · split at h
      · split at h
        · split at h
          · split at h
            · split at h
              · rename_i e; injection h with h; subst h; rw [Nat.eq_of_beq_eq_true e]; exact tiOf_ok tyI1_ok
              · cases h
            · split at h
              · rename_i e; injection h with h; subst h; rw [Nat.eq_of_beq_eq_true e]; exact tiOf_ok tyI2_ok
              · cases h
          · split at h
            · split at h
              · rename_i e; injection h with h; subst h; rw [Nat.eq_of_beq_eq_true e]; exact tiOf_ok tyI3_ok
              · cases h
            · split at h
              · rename_i e; injection h with h; subst h; rw [Nat.eq_of_beq_eq_true e]; exact tiOf_ok tyI4_ok
              · cases h
        · split at h
          · split at h
            · split at h
              · rename_i e; injection h with h; subst h; rw [Nat.eq_of_beq_eq_true e]; exact tiOf_ok tyI5_ok
              · cases h
            · split at h
              · rename_i e; injection h with h; subst h; rw [Nat.eq_of_beq_eq_true e]; exact tiOf_ok tyI6_ok
              · cases h
          · split at h
            · split at h
              · rename_i e; injection h with h; subst h; rw [Nat.eq_of_beq_eq_true e]; exact tiOf_ok tyI8_ok
              · cases h
            · split at h
              · rename_i e; injection h with h; subst h; rw [Nat.eq_of_beq_eq_true e]; exact tiOf_ok tyI9_ok
              · cases h
      · split at h
        · split at h
          · split at h
            · split at h
              · rename_i e; injection h with h; subst h; rw [Nat.eq_of_beq_eq_true e]; exact tiOf_ok tyI16_ok
              · cases h
            · split at h
              · rename_i e; injection h with h; subst h; rw [Nat.eq_of_beq_eq_true e]; exact tiOf_ok tyI22_ok
              · cases h
          · split at h
            · split at h
              · rename_i e; injection h with h; subst h; rw [Nat.eq_of_beq_eq_true e]; exact tiOf_ok tyI23_ok
              · cases h
            · split at h
              · rename_i e; injection h with h; subst h; rw [Nat.eq_of_beq_eq_true e]; exact tiOf_ok tyI25_ok
              · cases h
        · split at h
          · split at h
            · split at h
              · rename_i e; injection h with h; subst h; rw [Nat.eq_of_beq_eq_true e]; exact tiOf_ok tyI27_ok
              · cases h
            · split at h
              · rename_i e; injection h with h; subst h; rw [Nat.eq_of_beq_eq_true e]; exact tiOf_ok tyI28_ok
              · cases h
          · split at h
            · split at h
              · rename_i e; injection h with h; subst h; rw [Nat.eq_of_beq_eq_true e]; exact tiOf_ok tyI30_ok
              · cases h
            · split at h
              · rename_i e; injection h with h; subst h; rw [Nat.eq_of_beq_eq_true e]; exact tiOf_ok tyI34_ok
              · cases h
    · split at h
      · split at h
        · split at h
          · split at h
            · split at h
              · rename_i e; injection h with h; subst h; rw [Nat.eq_of_beq_eq_true e]; exact tiOf_ok tyI36_ok
              · cases h
            · split at h
              · rename_i e; injection h with h; subst h; rw [Nat.eq_of_beq_eq_true e]; exact tiOf_ok tyI37_ok
              · cases h
          · split at h
            · split at h
              · rename_i e; injection h with h; subst h; rw [Nat.eq_of_beq_eq_true e]; exact tiOf_ok tyI39_ok
              · cases h
            · split at h
              · rename_i e; injection h with h; subst h; rw [Nat.eq_of_beq_eq_true e]; exact tiOf_ok tyI40_ok
              · cases h
        · split at h
          · split at h
            · split at h
              · rename_i e; injection h with h; subst h; rw [Nat.eq_of_beq_eq_true e]; exact tiOf_ok tyI41_ok
              · cases h
            · split at h
              · rename_i e; injection h with h; subst h; rw [Nat.eq_of_beq_eq_true e]; exact tiOf_ok tyI43_ok
              · cases h
          · split at h
            · split at h
              · rename_i e; injection h with h; subst h; rw [Nat.eq_of_beq_eq_true e]; exact tiOf_ok tyI45_ok
              · cases h
            · split at h
              · rename_i e; injection h with h; subst h; rw [Nat.eq_of_beq_eq_true e]; exact tiOf_ok tyI46_ok
              · cases h
      · split at h
        · split at h
          · split at h
            · split at h
              · rename_i e; injection h with h; subst h; rw [Nat.eq_of_beq_eq_true e]; exact tiOf_ok tyI47_ok
              · cases h
            · split at h
              · rename_i e; injection h with h; subst h; rw [Nat.eq_of_beq_eq_true e]; exact tiOf_ok tyI49_ok
              · cases h
          · split at h
            · split at h
              · rename_i e; injection h with h; subst h; rw [Nat.eq_of_beq_eq_true e]; exact tiOf_ok tyI52_ok
              · cases h
            · split at h
              · rename_i e; injection h with h; subst h; rw [Nat.eq_of_beq_eq_true e]; exact tiOf_ok tyI54_ok
              · cases h
        · split at h
          · split at h
            · split at h
              · rename_i e; injection h with h; subst h; rw [Nat.eq_of_beq_eq_true e]; exact tiOf_ok tyI58_ok
              · cases h
            · split at h
              · rename_i e; injection h with h; subst h; rw [Nat.eq_of_beq_eq_true e]; exact tiOf_ok tyI61_ok
              · cases h
          · split at h
            · split at h
              · rename_i e; injection h with h; subst h; rw [Nat.eq_of_beq_eq_true e]; exact tiOf_ok tyI63_ok
              · cases h
            · split at h
              · split at h
                · rename_i e; injection h with h; subst h; rw [Nat.eq_of_beq_eq_true e]; exact tiOf_ok tyI64_ok
                · cases h
              · split at h
                · rename_i e; injection h with h; subst h; rw [Nat.eq_of_beq_eq_true e]; exact tiOf_ok tyI66_ok
                · cases h
  · split at h
    · split at h
      · split at h
        · split at h
          · split at h
            · split at h
              · rename_i e; injection h with h; subst h; rw [Nat.eq_of_beq_eq_true e]; exact tiOf_ok tyI70_ok
              · cases h
            · split at h
              · rename_i e; injection h with h; subst h; rw [Nat.eq_of_beq_eq_true e]; exact tiOf_ok tyI75_ok
              · cases h
          · split at h
            · split at h
              · rename_i e; injection h with h; subst h; rw [Nat.eq_of_beq_eq_true e]; exact tiOf_ok tyI82_ok
              · cases h
            · split at h
              · rename_i e; injection h with h; subst h; rw [Nat.eq_of_beq_eq_true e]; exact tiOf_ok tyI85_ok
              · cases h
        · split at h
          · split at h
            · split at h
              · rename_i e; injection h with h; subst h; rw [Nat.eq_of_beq_eq_true e]; exact tiOf_ok tyI91_ok
              · cases h
            · split at h
              · rename_i e; injection h with h; subst h; rw [Nat.eq_of_beq_eq_true e]; exact tiOf_ok tyI92_ok
              · cases h
          · split at h
            · split at h
              · rename_i e; injection h with h; subst h; rw [Nat.eq_of_beq_eq_true e]; exact tiOf_ok tyI96_ok
              · cases h
            · split at h
              · rename_i e; injection h with h; subst h; rw [Nat.eq_of_beq_eq_true e]; exact tiOf_ok tyI98_ok
              · cases h
      · split at h
        · split at h
          · split at h
            · split at h
              · rename_i e; injection h with h; subst h; rw [Nat.eq_of_beq_eq_true e]; exact tiOf_ok tyI102_ok
              · cases h
            · split at h
              · rename_i e; injection h with h; subst h; rw [Nat.eq_of_beq_eq_true e]; exact tiOf_ok tyI103_ok
              · cases h
          · split at h
            · split at h
              · rename_i e; injection h with h; subst h; rw [Nat.eq_of_beq_eq_true e]; exact tiOf_ok tyI104_ok
              · cases h
            · split at h
              · rename_i e; injection h with h; subst h; rw [Nat.eq_of_beq_eq_true e]; exact tiOf_ok tyI106_ok
              · cases h
        · split at h
          · split at h
            · split at h
              · rename_i e; injection h with h; subst h; rw [Nat.eq_of_beq_eq_true e]; exact tiOf_ok tyI114_ok
              · cases h
            · split at h
              · rename_i e; injection h with h; subst h; rw [Nat.eq_of_beq_eq_true e]; exact tiOf_ok tyI117_ok
              · cases h
          · split at h
            · split at h
              · rename_i e; injection h with h; subst h; rw [Nat.eq_of_beq_eq_true e]; exact tiOf_ok tyI118_ok
              · cases h
            · split at h
              · split at h
                · rename_i e; injection h with h; subst h; rw [Nat.eq_of_beq_eq_true e]; exact tiOf_ok tyI139_ok
                · cases h
              · split at h
                · rename_i e; injection h with h; subst h; rw [Nat.eq_of_beq_eq_true e]; exact tiOf_ok tyI145_ok
                · cases h
    · split at h
      · split at h
        · split at h
          · split at h
            · split at h
              · rename_i e; injection h with h; subst h; rw [Nat.eq_of_beq_eq_true e]; exact tiOf_ok tyI146_ok
              · cases h
            · split at h
              · rename_i e; injection h with h; subst h; rw [Nat.eq_of_beq_eq_true e]; exact tiOf_ok tyI158_ok
              · cases h
          · split at h
            · split at h
              · rename_i e; injection h with h; subst h; rw [Nat.eq_of_beq_eq_true e]; exact tiOf_ok tyI168_ok
              · cases h
            · split at h
              · rename_i e; injection h with h; subst h; rw [Nat.eq_of_beq_eq_true e]; exact tiOf_ok tyI172_ok
              · cases h
        · split at h
          · split at h
            · split at h
              · rename_i e; injection h with h; subst h; rw [Nat.eq_of_beq_eq_true e]; exact tiOf_ok tyI179_ok
              · cases h
            · split at h
              · rename_i e; injection h with h; subst h; rw [Nat.eq_of_beq_eq_true e]; exact tiOf_ok tyI183_ok
              · cases h
          · split at h
            · split at h
              · rename_i e; injection h with h; subst h; rw [Nat.eq_of_beq_eq_true e]; exact tiOf_ok tyI185_ok
              · cases h
            · split at h
              · rename_i e; injection h with h; subst h; rw [Nat.eq_of_beq_eq_true e]; exact tiOf_ok tyI190_ok
              · cases h
      · split at h
        · split at h
          · split at h
            · split at h
              · rename_i e; injection h with h; subst h; rw [Nat.eq_of_beq_eq_true e]; exact tiOf_ok tyI196_ok
              · cases h
            · split at h
              · rename_i e; injection h with h; subst h; rw [Nat.eq_of_beq_eq_true e]; exact tiOf_ok tyI198_ok
              · cases h
          · split at h
            · split at h
              · rename_i e; injection h with h; subst h; rw [Nat.eq_of_beq_eq_true e]; exact tiOf_ok tyI225_ok
              · cases h
            · split at h
              · rename_i e; injection h with h; subst h; rw [Nat.eq_of_beq_eq_true e]; exact tiOf_ok tyI227_ok
              · cases h
        · split at h
          · split at h
            · split at h
              · rename_i e; injection h with h; subst h; rw [Nat.eq_of_beq_eq_true e]; exact tiOf_ok tyI229_ok
              · cases h
            · split at h
              · rename_i e; injection h with h; subst h; rw [Nat.eq_of_beq_eq_true e]; exact tiOf_ok tyI240_ok
              · cases h
          · split at h
            · split at h
              · rename_i e; injection h with h; subst h; rw [Nat.eq_of_beq_eq_true e]; exact tiOf_ok tyI249_ok
              · cases h
            · split at h
              · split at h
                · rename_i e; injection h with h; subst h; rw [Nat.eq_of_beq_eq_true e]; exact tiOf_ok tyI251_ok
                · cases h
              · split at h
                · rename_i e; injection h with h; subst h; rw [Nat.eq_of_beq_eq_true e]; exact tiOf_ok tyI254_ok
                · cases h
theorem pk : PK Go.Proofs.Tryz.prog tiT := ⟨tiT_ok, by kernel_rfl⟩
end Gx
