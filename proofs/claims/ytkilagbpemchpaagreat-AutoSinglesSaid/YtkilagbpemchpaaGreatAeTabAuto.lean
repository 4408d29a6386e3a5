/-
  The tables of this seat, and that they are the program's.
-/
import Derived.Test.YtkilagbpemchpaaGreatAeEq
import Derived.Test.YtkilagbpemchpaaGreatAePrim
import Derived.Test.YtkilagbpemchpaaGreatProg
import Derived.KernelRfl
namespace Go.Proofs.YtkilagbpemchpaaGreat.Ae
open Go Go.Ae Go.RowKit Go.Proofs

def mask : Nat := 187072031172393974251455701913063539774309367021566
def eqs : List (Nat × Nat) := [(46, 4), (48, 4), (50, 3), (68, 3), (69, 4)]
def sks : List (Nat × Nat) := [(68, 3)]
noncomputable def T : Tabs := mkTabs Tryz.prog mask sks eqs
theorem mixed : Tryz.prog.follows .mixedOrders = true := by kernel_rfl

theorem eq46 : EqOk Tryz.prog 46 4 := eqOk_struct Tryz.underlying46 (by kernel_rfl) (by kernel_rfl) (by kernel_rfl) rfl
theorem eq48 : EqOk Tryz.prog 48 4 := eqOk_struct Tryz.underlying48 (by kernel_rfl) (by kernel_rfl) (by kernel_rfl) rfl
theorem eq50 : EqOk Tryz.prog 50 3 := eqOk_struct Tryz.underlying50 (by kernel_rfl) (by kernel_rfl) (by kernel_rfl) rfl
theorem eq68 : EqOk Tryz.prog 68 3 := eqOk_struct Tryz.underlying68 (by kernel_rfl) (by kernel_rfl) (by kernel_rfl) rfl
theorem eq69 : EqOk Tryz.prog 69 4 := eqOk_array Tryz.underlying69 (by kernel_rfl) Tryz.underlying3 (by kernel_rfl) (by kernel_rfl)
theorem sk68 : KeyOk Tryz.prog 68 3 := keyOk_struct Tryz.underlying68 (by kernel_rfl) rfl eq68
theorem T_ok : TabsOk Tryz.prog T := mkTabs_ok (n := 168) (by kernel_rfl) (by kernel_rfl)
  (fun x hx => by
  simp only [eqs, List.mem_cons, List.not_mem_nil, or_false] at hx
  rcases hx with rfl | rfl | rfl | rfl | rfl
  · exact eq46
  · exact eq48
  · exact eq50
  · exact eq68
  · exact eq69)
  (fun x hx => by
  simp only [sks, List.mem_cons, List.not_mem_nil, or_false] at hx
  rcases hx with rfl
  · exact sk68)
def ri2 : List (Nat × RI) := []
noncomputable def fi2 : FI := fiOf Tryz.f2 ri2
theorem ok2 : FIok Tryz.prog T 2 fi2 := fiOf_ok Tryz.func2 (by kernel_rfl) (by kernel_rfl) (by kernel_rfl)
def ri3 : List (Nat × RI) := [(7, ⟨[0, 1, 3, 4, 2, 5, 6, 7, 8, 9, 11, 12, 10, 13, 14, 15, 16, 17, 18, 20, 21, 19, 22, 23, 24, 25, 26, 27, 29, 30, 28, 31, 32, 33, 34, 35, 36, 37, 38, 39, 40, 41, 42, 43, 44, 45, 46, 47, 48, 50, 49, 51, 52, 53], [0, 0, 3, 0, 0, 31, 63, 127, 255, 255, 1023, 255, 255, 8191, 16383, 32767, 65535, 131071, 131071, 524287, 131071, 131071, 4194303, 8388607, 16777215, 33554431, 67108863, 67108863, 268435455, 67108863, 67108863, 2147483647, 4294967295, 8589934591, 17179869183, 34359738367, 34359738367, 34359738367, 240518168575, 549755813887, 1099511627775, 2199023255551, 4398046511103, 4398046511103, 17592186044415, 35184372088831, 70368744177663, 140737488355327, 281474976710655, 562949953421311, 281474976710655, 2251799813685247, 4503599627370495, 9007199254740991], [(1, []), (3, [4]), (9, []), (11, [12]), (18, []), (20, [21]), (27, []), (29, [30]), (35, [38]), (37, []), (43, []), (48, []), (49, [50])]⟩)]
noncomputable def fi3 : FI := fiOf Tryz.f3 ri3
theorem ok3 : FIok Tryz.prog T 3 fi3 := fiOf_ok Tryz.func3 (by kernel_rfl) (by kernel_rfl) (by kernel_rfl)
def ri4 : List (Nat × RI) := [(12, ⟨[0, 1, 2, 3, 4, 6, 7, 8, 9, 10, 5, 11, 12], [0, 0, 0, 0, 12, 31, 0, 0, 0, 0, 768, 2047, 4095], [(1, []), (6, [10])]⟩),
  (14, ⟨[0, 1, 3, 2, 4, 5, 6, 7, 8, 9, 10, 11, 12, 13, 14, 15, 16, 17, 18, 19], [0, 0, 3, 0, 15, 31, 63, 127, 63, 319, 1023, 2047, 4095, 8191, 16383, 8191, 40959, 131071, 262143, 524287], [(1, []), (2, [3]), (7, []), (9, []), (14, []), (16, [])]⟩)]
noncomputable def fi4 : FI := fiOf Tryz.f4 ri4
theorem ok4 : FIok Tryz.prog T 4 fi4 := fiOf_ok Tryz.func4 (by kernel_rfl) (by kernel_rfl) (by kernel_rfl)
def ri5 : List (Nat × RI) := []
noncomputable def fi5 : FI := fiOf Tryz.f5 ri5
theorem ok5 : FIok Tryz.prog T 5 fi5 := fiOf_ok Tryz.func5 (by kernel_rfl) (by kernel_rfl) (by kernel_rfl)
def ri6 : List (Nat × RI) := [(7, ⟨[0, 1, 2, 3, 4, 6, 7, 8, 9, 5, 10, 11], [0, 0, 0, 6, 14, 31, 0, 0, 192, 448, 1023, 2047], [(4, []), (8, [9])]⟩)]
noncomputable def fi6 : FI := fiOf Tryz.f6 ri6
theorem ok6 : FIok Tryz.prog T 6 fi6 := fiOf_ok Tryz.func6 (by kernel_rfl) (by kernel_rfl) (by kernel_rfl)
def ri7 : List (Nat × RI) := [(21, ⟨[0, 1, 2, 3, 4, 5, 6, 7, 8, 9, 10, 12, 11, 13, 14, 15, 16], [0, 0, 3, 7, 15, 15, 63, 127, 255, 511, 1023, 2047, 1023, 8191, 16383, 32767, 65535], [(1, []), (5, []), (10, []), (11, [12])]⟩)]
noncomputable def fi7 : FI := fiOf Tryz.f7 ri7
theorem ok7 : FIok Tryz.prog T 7 fi7 := fiOf_ok Tryz.func7 (by kernel_rfl) (by kernel_rfl) (by kernel_rfl)
def ri8 : List (Nat × RI) := []
noncomputable def fi8 : FI := fiOf Tryz.f8 ri8
theorem ok8 : FIok Tryz.prog T 8 fi8 := fiOf_ok Tryz.func8 (by kernel_rfl) (by kernel_rfl) (by kernel_rfl)
def ri9 : List (Nat × RI) := [(7, ⟨[0, 1, 2, 3, 4, 5, 6, 7, 8], [0, 1, 3, 0, 8, 24, 56, 7, 255], [(1, []), (2, []), (4, []), (6, [])]⟩),
  (15, ⟨[0, 1, 2, 3, 4, 5, 6, 7, 8, 9, 10, 11, 12, 13, 14, 15, 16, 17], [0, 0, 2, 0, 14, 30, 62, 0, 0, 256, 0, 1792, 3840, 7936, 16255, 32639, 65535, 131071], [(2, []), (6, []), (9, []), (13, [])]⟩)]
noncomputable def fi9 : FI := fiOf Tryz.f9 ri9
theorem ok9 : FIok Tryz.prog T 9 fi9 := fiOf_ok Tryz.func9 (by kernel_rfl) (by kernel_rfl) (by kernel_rfl)
def ri10 : List (Nat × RI) := [(5, ⟨[0, 2, 3, 5, 6, 1, 4, 7, 8], [0, 1, 0, 0, 15, 0, 0, 127, 255], [(0, []), (2, [5]), (3, [5, 6]), (4, [5, 6])]⟩),
  (23, ⟨[0, 1, 2, 3, 4, 6, 5, 7, 8, 9, 10, 11, 12, 14, 15, 13, 16, 17, 18, 19, 20, 21, 22, 24, 25, 26, 23, 27, 28, 29, 30], [0, 0, 3, 7, 15, 31, 15, 127, 255, 511, 1023, 2047, 2047, 8191, 2047, 2047, 65535, 131071, 262143, 524287, 1048575, 1048575, 1048575, 8388607, 1048575, 1048575, 1048575, 134217727, 268435455, 536870911, 1073741823], [(0, []), (1, []), (4, []), (5, [6]), (12, []), (14, [15]), (21, []), (24, [26])]⟩)]
noncomputable def fi10 : FI := fiOf Tryz.f10 ri10
theorem ok10 : FIok Tryz.prog T 10 fi10 := fiOf_ok Tryz.func10 (by kernel_rfl) (by kernel_rfl) (by kernel_rfl)
def ri11 : List (Nat × RI) := [(4, ⟨[0, 1, 2, 3, 4, 5, 6, 7, 8, 9, 10, 11, 12, 13, 14, 15, 16, 17, 18, 19, 20, 21, 22, 23, 24, 25, 26, 27, 28, 29, 30, 31, 32, 33, 34, 36, 35, 37, 38, 39, 40, 41, 42, 43, 44, 45, 46], [0, 0, 3, 7, 15, 31, 63, 63, 255, 511, 1023, 2047, 4095, 4095, 16383, 32767, 65535, 131071, 131071, 524287, 1048575, 2097151, 4194303, 8388607, 16777215, 33554431, 67108863, 134217727, 268435455, 536870911, 1073741823, 2147483647, 4294967295, 8589934591, 17179869183, 34359738367, 17179869183, 137438953471, 274877906943, 549755813887, 1099511627775, 1099511627775, 3298534883327, 8796093022207, 17592186044415, 35184372088831, 70368744177663], [(7, []), (13, []), (18, []), (24, []), (29, []), (34, []), (35, [36]), (41, [])]⟩)]
noncomputable def fi11 : FI := fiOf Tryz.f11 ri11
theorem ok11 : FIok Tryz.prog T 11 fi11 := fiOf_ok Tryz.func11 (by kernel_rfl) (by kernel_rfl) (by kernel_rfl)
def ri12 : List (Nat × RI) := [(4, ⟨[0, 1, 2, 3, 4, 5, 6, 7, 8, 9, 10], [0, 1, 3, 0, 8, 24, 0, 64, 192, 511, 1023], [(2, []), (5, []), (8, []), (9, [])]⟩)]
noncomputable def fi12 : FI := fiOf Tryz.f12 ri12
theorem ok12 : FIok Tryz.prog T 12 fi12 := fiOf_ok Tryz.func12 (by kernel_rfl) (by kernel_rfl) (by kernel_rfl)
def ri13 : List (Nat × RI) := [(6, ⟨[0, 1, 2, 3, 4, 5, 6, 7, 8, 9, 10, 11], [0, 1, 0, 4, 15, 0, 32, 0, 128, 480, 31, 2047], [(3, []), (8, [])]⟩),
  (19, ⟨[0, 1, 2, 3, 4, 5, 6, 7, 8, 9, 10, 11, 12, 13, 14, 15], [0, 1, 0, 0, 0, 0, 32, 0, 128, 480, 992, 2044, 4092, 8191, 16383, 32767], [(1, []), (8, []), (12, [])]⟩),
  (24, ⟨[0, 1, 2, 3, 4, 5, 6, 7, 8, 9, 10, 11, 12, 13, 14, 15], [0, 1, 0, 0, 0, 16, 0, 64, 192, 496, 0, 2044, 4092, 8191, 16383, 32767], [(1, []), (7, []), (12, [])]⟩)]
noncomputable def fi13 : FI := fiOf Tryz.f13 ri13
theorem ok13 : FIok Tryz.prog T 13 fi13 := fiOf_ok Tryz.func13 (by kernel_rfl) (by kernel_rfl) (by kernel_rfl)
def ri14 : List (Nat × RI) := [(3, ⟨[0, 1, 2, 3, 4, 5, 6, 7, 8, 9], [0, 1, 3, 0, 8, 24, 56, 127, 255, 511], [(1, []), (2, []), (4, []), (6, []), (8, [])]⟩),
  (18, ⟨[0, 1, 2, 3, 4, 5, 6, 7, 8, 9], [0, 1, 0, 0, 12, 28, 60, 127, 255, 511], [(1, []), (5, []), (6, [])]⟩),
  (24, ⟨[0, 1, 2, 3, 4, 5, 6, 7, 8, 9], [0, 1, 0, 0, 12, 28, 60, 127, 255, 511], [(1, []), (5, []), (6, [])]⟩),
  (29, ⟨[0, 1, 2, 3, 4, 5, 6, 7], [0, 1, 3, 7, 0, 16, 63, 127], [(3, []), (5, []), (7, [])]⟩),
  (30, ⟨[0, 1, 2, 3, 4, 5, 6, 7, 8, 9, 10, 11, 12, 13, 14, 15, 16, 17, 18, 19, 20, 21, 22, 23], [0, 1, 0, 0, 8, 28, 60, 0, 128, 0, 0, 1024, 3584, 7680, 0, 0, 32768, 114688, 245760, 524284, 1048572, 2097151, 4194303, 8388607], [(1, []), (4, []), (6, []), (8, []), (11, []), (13, []), (16, []), (18, []), (20, [])]⟩),
  (35, ⟨[0, 1, 2, 3, 4, 5, 6, 7, 8, 9, 10, 11, 12, 13, 14, 15, 16, 17, 18, 19, 20, 21, 22], [0, 1, 3, 7, 0, 16, 63, 127, 255, 511, 1023, 2047, 4095, 8191, 16383, 32767, 65535, 8191, 139263, 524287, 1048575, 2097151, 4194303], [(3, []), (5, []), (7, []), (10, []), (16, []), (18, []), (20, [])]⟩),
  (36, ⟨[0, 1, 2, 3, 4, 5, 6, 7, 8, 9, 10, 11, 12, 13, 14, 15, 16, 17, 18, 19, 20, 21, 22, 23], [0, 1, 0, 0, 8, 28, 60, 0, 128, 0, 0, 1024, 3584, 7680, 0, 0, 32768, 114688, 245760, 524284, 1048572, 2097151, 4194303, 8388607], [(1, []), (4, []), (6, []), (8, []), (11, []), (13, []), (16, []), (18, []), (20, [])]⟩),
  (41, ⟨[0, 1, 2, 3, 4, 5, 6, 7], [0, 1, 3, 7, 0, 16, 63, 127], [(3, []), (5, []), (7, [])]⟩),
  (42, ⟨[0, 1, 2, 3, 4, 5, 6, 7, 8, 9, 10, 11, 12, 13, 14, 15, 16, 17, 18], [0, 1, 0, 0, 8, 28, 60, 0, 128, 0, 0, 1024, 3584, 7680, 16380, 32764, 65535, 131071, 262143], [(1, []), (4, []), (6, []), (8, []), (11, []), (13, []), (15, [])]⟩)]
noncomputable def fi14 : FI := fiOf Tryz.f14 ri14
theorem ok14 : FIok Tryz.prog T 14 fi14 := fiOf_ok Tryz.func14 (by kernel_rfl) (by kernel_rfl) (by kernel_rfl)
def ri15 : List (Nat × RI) := [(8, ⟨[0, 1, 2, 3, 4, 5, 6], [0, 0, 3, 7, 3, 19, 63], [(1, []), (2, [4])]⟩)]
noncomputable def fi15 : FI := fiOf Tryz.f15 ri15
theorem ok15 : FIok Tryz.prog T 15 fi15 := fiOf_ok Tryz.func15 (by kernel_rfl) (by kernel_rfl) (by kernel_rfl)
def ri16 : List (Nat × RI) := [(7, ⟨[0, 1, 2, 3, 4, 5, 6, 7, 8, 9, 10, 11, 12, 13, 14], [0, 1, 0, 4, 15, 31, 0, 64, 0, 448, 960, 0, 0, 6207, 16383], [(1, []), (5, []), (7, [13]), (10, [13]), (11, []), (12, [])]⟩),
  (13, ⟨[0, 1, 2, 3, 4, 5, 6, 7, 8, 9, 10, 11, 12, 13, 14], [0, 1, 0, 4, 15, 31, 0, 64, 0, 448, 960, 0, 0, 6207, 16383], [(1, []), (5, []), (7, [13]), (10, [13]), (11, []), (12, [])]⟩),
  (19, ⟨[0, 1, 2, 3, 4, 5, 6, 7, 8, 9, 10, 11, 12, 13, 14], [0, 1, 0, 4, 15, 31, 0, 64, 0, 448, 960, 0, 0, 6207, 16383], [(1, []), (5, []), (7, [13]), (10, [13]), (11, []), (12, [])]⟩)]
noncomputable def fi16 : FI := fiOf Tryz.f16 ri16
theorem ok16 : FIok Tryz.prog T 16 fi16 := fiOf_ok Tryz.func16 (by kernel_rfl) (by kernel_rfl) (by kernel_rfl)
def ri17 : List (Nat × RI) := [(6, ⟨[0, 1, 2, 3, 4, 5, 6], [0, 0, 3, 7, 3, 19, 63], [(1, []), (2, [4])]⟩)]
noncomputable def fi17 : FI := fiOf Tryz.f17 ri17
theorem ok17 : FIok Tryz.prog T 17 fi17 := fiOf_ok Tryz.func17 (by kernel_rfl) (by kernel_rfl) (by kernel_rfl)
def ri18 : List (Nat × RI) := [(11, ⟨[0, 1, 2, 3, 4, 5, 6, 7, 8, 9, 10, 11, 12, 13, 14, 15, 16, 17, 18, 19, 20, 21, 22, 23, 24, 25, 26, 27, 28, 29, 30, 31, 32, 33], [0, 1, 3, 7, 15, 7, 39, 127, 255, 511, 7, 1031, 7, 7175, 15367, 31751, 65535, 131071, 262143, 524287, 1048575, 524287, 2621439, 8388607, 16777215, 33554431, 524287, 67633151, 524287, 470286335, 1007157247, 2080899071, 4294967295, 8589934591], [(4, []), (9, []), (11, []), (15, []), (20, []), (25, []), (27, []), (31, [])]⟩),
  (16, ⟨[0, 1, 2, 3, 4, 5, 6, 7, 8, 9, 10, 11, 12, 13, 14, 15, 16, 17, 18, 19, 20, 21, 22, 23, 24, 25, 26, 27, 28, 29, 30, 31, 32, 33, 34, 35, 36, 37, 38, 39, 40, 41, 42, 43, 44, 45, 46, 47, 48, 49], [0, 1, 3, 7, 15, 7, 39, 127, 255, 511, 7, 1031, 7, 7175, 15367, 31751, 65535, 131071, 262143, 524287, 1048575, 524287, 2621439, 8388607, 16777215, 33554431, 524287, 67633151, 524287, 470286335, 1007157247, 2080899071, 4294967295, 8589934591, 17179869183, 34359738367, 68719476735, 34359738367, 171798691839, 549755813887, 1099511627775, 2199023255551, 34359738367, 4432406249471, 34359738367, 30820685316095, 66005057404927, 136373801582591, 281474976710655, 562949953421311], [(4, []), (9, []), (11, []), (15, []), (20, []), (25, []), (27, []), (31, []), (36, []), (41, []), (43, []), (47, [])]⟩),
  (21, ⟨[0, 1, 2, 3, 4, 5, 6, 7, 8, 9, 10, 11, 12, 13, 14, 15, 16, 17, 18, 19, 20, 21, 22, 23, 24, 25, 26, 27, 28, 29, 30, 31, 32, 33], [0, 1, 3, 7, 15, 7, 39, 127, 255, 511, 7, 1031, 7, 7175, 15367, 31751, 65535, 131071, 262143, 524287, 1048575, 524287, 2621439, 8388607, 16777215, 33554431, 524287, 67633151, 524287, 470286335, 1007157247, 2080899071, 4294967295, 8589934591], [(4, []), (9, []), (11, []), (15, []), (20, []), (25, []), (27, []), (31, [])]⟩)]
noncomputable def fi18 : FI := fiOf Tryz.f18 ri18
theorem ok18 : FIok Tryz.prog T 18 fi18 := fiOf_ok Tryz.func18 (by kernel_rfl) (by kernel_rfl) (by kernel_rfl)
def ri19 : List (Nat × RI) := [(6, ⟨[0, 1, 2, 3, 4, 5, 6, 7, 8, 9, 10], [0, 1, 0, 7, 15, 0, 32, 0, 224, 480, 1023], [(1, []), (4, []), (6, []), (9, [])]⟩),
  (11, ⟨[0, 1, 2, 3, 4, 5, 6, 7, 8, 9, 10], [0, 1, 0, 7, 15, 0, 32, 0, 224, 480, 1023], [(1, []), (4, []), (6, []), (9, [])]⟩),
  (16, ⟨[0, 1, 2, 3, 4, 5, 6, 7, 8, 9, 10], [0, 1, 0, 7, 15, 0, 32, 0, 224, 480, 1023], [(1, []), (4, []), (6, []), (9, [])]⟩)]
noncomputable def fi19 : FI := fiOf Tryz.f19 ri19
theorem ok19 : FIok Tryz.prog T 19 fi19 := fiOf_ok Tryz.func19 (by kernel_rfl) (by kernel_rfl) (by kernel_rfl)
def ri20 : List (Nat × RI) := [(8, ⟨[0, 1, 2, 3, 4, 5, 6, 7, 8, 9, 10, 11, 12, 13], [0, 1, 0, 0, 8, 0, 56, 120, 252, 508, 1020, 2047, 4095, 8191], [(1, []), (4, []), (7, []), (9, []), (10, [])]⟩),
  (13, ⟨[0, 1, 2, 3, 4, 5, 6, 7, 8, 9, 10, 11, 12, 13], [0, 1, 0, 0, 8, 0, 56, 120, 252, 508, 1020, 2047, 4095, 8191], [(1, []), (4, []), (7, []), (9, []), (10, [])]⟩),
  (19, ⟨[0, 1, 2, 3, 4, 5, 6, 7, 8, 9, 10, 11, 12, 13, 14, 15, 16, 17, 18, 19, 20, 21, 22, 23], [0, 1, 0, 0, 8, 28, 60, 0, 128, 0, 0, 1024, 3584, 7680, 0, 0, 32768, 114688, 245760, 524284, 1048572, 2097151, 4194303, 8388607], [(1, []), (4, []), (6, []), (8, []), (11, []), (13, []), (16, []), (18, []), (20, [])]⟩),
  (25, ⟨[0, 1, 2, 3, 4, 5, 6, 7, 8, 9, 10, 11, 12, 13, 14, 15, 16, 17, 18, 19, 20, 21, 22, 23], [0, 1, 0, 0, 8, 28, 60, 0, 128, 0, 0, 1024, 3584, 7680, 0, 0, 32768, 114688, 245760, 524284, 1048572, 2097151, 4194303, 8388607], [(1, []), (4, []), (6, []), (8, []), (11, []), (13, []), (16, []), (18, []), (20, [])]⟩),
  (31, ⟨[0, 1, 2, 3, 4, 5, 6, 7, 8, 9, 10, 11, 12, 13, 14, 15, 16, 17, 18], [0, 1, 0, 0, 8, 28, 60, 0, 128, 0, 0, 1024, 3584, 7680, 16380, 32764, 65535, 131071, 262143], [(1, []), (4, []), (6, []), (8, []), (11, []), (13, []), (15, [])]⟩)]
noncomputable def fi20 : FI := fiOf Tryz.f20 ri20
theorem ok20 : FIok Tryz.prog T 20 fi20 := fiOf_ok Tryz.func20 (by kernel_rfl) (by kernel_rfl) (by kernel_rfl)
def ri21 : List (Nat × RI) := []
noncomputable def fi21 : FI := fiOf Tryz.f21 ri21
theorem ok21 : FIok Tryz.prog T 21 fi21 := fiOf_ok Tryz.func21 (by kernel_rfl) (by kernel_rfl) (by kernel_rfl)
def ri22 : List (Nat × RI) := [(1, ⟨[0, 1, 2, 3, 4, 5, 7, 8, 10, 11, 13, 14, 16, 17, 6, 9, 12, 15, 18, 19, 20], [0, 1, 0, 4, 0, 16, 48, 0, 128, 496, 0, 1024, 4080, 0, 8192, 32752, 0, 65536, 262128, 524287, 1048575], [(1, [14, 15, 16, 17, 18]), (3, [14, 15, 16, 17, 18]), (5, []), (7, [14]), (9, [14, 15]), (11, [14, 15, 16]), (13, [14, 15, 16, 17])]⟩)]
noncomputable def fi22 : FI := fiOf Tryz.f22 ri22
theorem ok22 : FIok Tryz.prog T 22 fi22 := fiOf_ok Tryz.func22 (by kernel_rfl) (by kernel_rfl) (by kernel_rfl)
def ri23 : List (Nat × RI) := [(3, ⟨[0, 1, 2, 4, 5, 3, 6, 7], [0, 0, 2, 7, 0, 16, 63, 127], [(0, []), (2, []), (4, [5])]⟩),
  (7, ⟨[0, 1, 2, 3, 4, 5, 6], [0, 0, 0, 6, 14, 31, 63], [(0, []), (4, [])]⟩)]
noncomputable def fi23 : FI := fiOf Tryz.f23 ri23
theorem ok23 : FIok Tryz.prog T 23 fi23 := fiOf_ok Tryz.func23 (by kernel_rfl) (by kernel_rfl) (by kernel_rfl)
def ri24 : List (Nat × RI) := []
noncomputable def fi24 : FI := fiOf Tryz.f24 ri24
theorem ok24 : FIok Tryz.prog T 24 fi24 := fiOf_ok Tryz.func24 (by kernel_rfl) (by kernel_rfl) (by kernel_rfl)
def ri25 : List (Nat × RI) := [(8, ⟨[0, 1, 2, 3, 4, 5, 6, 7, 8, 9, 10, 11, 12, 13, 14, 15, 16], [0, 1, 0, 4, 0, 28, 60, 0, 252, 0, 512, 0, 3584, 7680, 16380, 32767, 65535], [(1, []), (3, []), (6, []), (10, []), (13, [])]⟩),
  (15, ⟨[0, 1, 2, 3, 4, 5, 6, 7, 8], [0, 0, 3, 7, 0, 16, 63, 0, 255], [(3, []), (5, []), (7, [])]⟩),
  (32, ⟨[0, 1, 2, 3, 4, 5, 6, 7, 8, 9, 10, 11], [0, 0, 3, 7, 15, 31, 15, 15, 207, 463, 1023, 2047], [(5, []), (9, [])]⟩),
  (36, ⟨[0, 1, 2, 4, 5, 6, 7, 3, 8, 9, 10], [0, 0, 2, 7, 0, 0, 48, 112, 15, 511, 1023], [(1, []), (2, []), (6, [7])]⟩),
  (39, ⟨[0, 1, 2, 3, 4, 5, 6, 7, 8, 9, 10, 11, 12, 13], [0, 0, 0, 4, 12, 30, 62, 0, 0, 0, 768, 1792, 4095, 8191], [(0, []), (6, []), (7, []), (11, [])]⟩),
  (46, ⟨[0, 1, 2, 3, 4, 5, 6, 7, 8, 9, 10, 11, 12, 13, 14, 15, 16], [0, 0, 3, 7, 15, 31, 15, 15, 207, 463, 1023, 2047, 4095, 8191, 16383, 32767, 65535], [(5, []), (9, []), (14, [])]⟩),
  (22, ⟨[0, 1, 2, 3, 4, 5, 6, 7, 8, 9, 10, 11], [0, 0, 3, 7, 15, 31, 15, 15, 207, 463, 1023, 2047], [(5, []), (9, [])]⟩),
  (57, ⟨[0, 1, 2, 3, 4, 5, 6, 7, 8, 9, 10, 11, 12], [0, 1, 0, 0, 12, 0, 32, 0, 224, 480, 1020, 2047, 4095], [(1, []), (6, []), (9, []), (12, [])]⟩)]
noncomputable def fi25 : FI := fiOf Tryz.f25 ri25
theorem ok25 : FIok Tryz.prog T 25 fi25 := fiOf_ok Tryz.func25 (by kernel_rfl) (by kernel_rfl) (by kernel_rfl)
def ri26 : List (Nat × RI) := []
noncomputable def fi26 : FI := fiOf Tryz.f26 ri26
theorem ok26 : FIok Tryz.prog T 26 fi26 := fiOf_ok Tryz.func26 (by kernel_rfl) (by kernel_rfl) (by kernel_rfl)
def ri27 : List (Nat × RI) := [(1, ⟨[0, 1, 2, 3, 4, 5, 7, 8, 11, 6, 9, 10, 12], [0, 1, 0, 4, 0, 16, 48, 0, 128, 496, 1023, 0, 4095], [(1, [9, 10]), (3, [9, 10]), (5, []), (7, [9]), (8, [9, 10])]⟩),
  (22, ⟨[0, 1, 2, 3, 4, 5, 6, 7, 8, 9, 10, 11, 12, 13, 14, 15, 16, 17, 18, 19, 20, 21, 22, 23, 24, 25, 26], [0, 1, 0, 0, 12, 28, 60, 0, 0, 384, 896, 1920, 0, 0, 12288, 28672, 61440, 0, 0, 393216, 917504, 1966080, 4194300, 8388604, 16777215, 33554431, 67108863], [(1, []), (6, []), (11, []), (16, []), (21, []), (23, [])]⟩),
  (26, ⟨[0, 1, 2, 3, 4, 5, 6, 7, 8, 9, 10, 11, 12, 13, 14, 15, 16, 17, 18, 19, 20, 21, 22, 23, 24, 25, 26], [0, 1, 0, 0, 12, 28, 60, 0, 0, 384, 896, 1920, 0, 0, 12288, 28672, 61440, 0, 0, 393216, 917504, 1966080, 4194300, 8388604, 16777215, 33554431, 67108863], [(1, []), (6, []), (11, []), (16, []), (21, []), (23, [])]⟩),
  (30, ⟨[0, 1, 2, 3, 4, 5, 6, 7, 8, 9, 10, 11, 12, 13, 14, 15, 16, 17, 18, 19, 20, 21], [0, 1, 0, 0, 12, 28, 60, 0, 0, 384, 896, 1920, 0, 0, 12288, 28672, 61440, 131068, 262140, 524287, 1048575, 2097151], [(1, []), (6, []), (11, []), (16, []), (18, [])]⟩)]
noncomputable def fi27 : FI := fiOf Tryz.f27 ri27
theorem ok27 : FIok Tryz.prog T 27 fi27 := fiOf_ok Tryz.func27 (by kernel_rfl) (by kernel_rfl) (by kernel_rfl)
def ri28 : List (Nat × RI) := []
noncomputable def fi28 : FI := fiOf Tryz.f28 ri28
theorem ok28 : FIok Tryz.prog T 28 fi28 := fiOf_ok Tryz.func28 (by kernel_rfl) (by kernel_rfl) (by kernel_rfl)
def ri29 : List (Nat × RI) := []
noncomputable def fi29 : FI := fiOf Tryz.f29 ri29
theorem ok29 : FIok Tryz.prog T 29 fi29 := fiOf_ok Tryz.func29 (by kernel_rfl) (by kernel_rfl) (by kernel_rfl)
def ri30 : List (Nat × RI) := [(4, ⟨[0, 1, 2, 3, 4, 5, 6], [0, 1, 3, 7, 0, 16, 63], [(3, []), (5, [])]⟩),
  (5, ⟨[0, 1, 2, 3, 4, 5, 6, 7, 8, 9, 10, 11, 12, 13, 14, 15, 16], [0, 0, 2, 6, 14, 0, 32, 126, 254, 510, 1022, 2046, 4094, 8190, 16383, 32767, 65535], [(4, []), (6, []), (12, [])]⟩),
  (6, ⟨[0, 1, 2, 3, 4, 5, 6, 7, 8, 9, 10, 11, 12, 13, 14, 15, 16], [0, 0, 2, 6, 14, 0, 32, 126, 254, 510, 1022, 2046, 4094, 8190, 16383, 32767, 65535], [(4, []), (6, []), (12, [])]⟩),
  (11, ⟨[0, 1, 2, 3, 4, 5, 6, 7, 8, 9, 10, 11, 12, 13, 14, 15, 16, 17, 18, 19, 20], [0, 1, 3, 7, 0, 16, 63, 127, 255, 511, 1023, 2047, 4095, 8191, 16383, 32767, 4095, 69631, 262143, 524287, 1048575], [(3, []), (5, []), (9, []), (15, []), (17, [])]⟩),
  (12, ⟨[0, 1, 2, 3, 4, 5, 6, 7, 8, 9, 10, 11, 12, 13, 14, 15, 16], [0, 0, 2, 6, 14, 0, 32, 126, 254, 510, 1022, 2046, 4094, 8190, 16383, 32767, 65535], [(4, []), (6, []), (12, [])]⟩),
  (17, ⟨[0, 1, 2, 3, 4, 5, 6], [0, 1, 3, 7, 0, 16, 63], [(3, []), (5, [])]⟩),
  (18, ⟨[0, 1, 2, 3, 4, 5, 6, 7, 8, 9, 10, 11, 12, 13, 14, 15, 16], [0, 0, 2, 6, 14, 0, 32, 126, 254, 510, 1022, 2046, 4094, 8190, 16383, 32767, 65535], [(4, []), (6, []), (12, [])]⟩)]
noncomputable def fi30 : FI := fiOf Tryz.f30 ri30
theorem ok30 : FIok Tryz.prog T 30 fi30 := fiOf_ok Tryz.func30 (by kernel_rfl) (by kernel_rfl) (by kernel_rfl)
def ri31 : List (Nat × RI) := []
noncomputable def fi31 : FI := fiOf Tryz.f31 ri31
theorem ok31 : FIok Tryz.prog T 31 fi31 := fiOf_ok Tryz.func31 (by kernel_rfl) (by kernel_rfl) (by kernel_rfl)
def ri32 : List (Nat × RI) := []
noncomputable def fi32 : FI := fiOf Tryz.f32 ri32
theorem ok32 : FIok Tryz.prog T 32 fi32 := fiOf_ok Tryz.func32 (by kernel_rfl) (by kernel_rfl) (by kernel_rfl)
def ri33 : List (Nat × RI) := [(6, ⟨[0, 1, 2, 3, 4, 5, 6, 7, 8], [0, 0, 3, 7, 0, 0, 48, 112, 255], [(3, []), (7, [])]⟩)]
noncomputable def fi33 : FI := fiOf Tryz.f33 ri33
theorem ok33 : FIok Tryz.prog T 33 fi33 := fiOf_ok Tryz.func33 (by kernel_rfl) (by kernel_rfl) (by kernel_rfl)
def ri34 : List (Nat × RI) := [(1, ⟨[0, 1, 2, 3, 4, 5, 6, 7, 8], [0, 1, 3, 0, 8, 24, 56, 7, 255], [(1, []), (2, []), (4, []), (6, [])]⟩),
  (15, ⟨[0, 1, 2, 3, 4, 5, 6, 7, 8, 9, 10], [0, 0, 2, 0, 0, 16, 7, 71, 255, 511, 1023], [(2, []), (5, [7])]⟩)]
noncomputable def fi34 : FI := fiOf Tryz.f34 ri34
theorem ok34 : FIok Tryz.prog T 34 fi34 := fiOf_ok Tryz.func34 (by kernel_rfl) (by kernel_rfl) (by kernel_rfl)
def ri35 : List (Nat × RI) := []
noncomputable def fi35 : FI := fiOf Tryz.f35 ri35
theorem ok35 : FIok Tryz.prog T 35 fi35 := fiOf_ok Tryz.func35 (by kernel_rfl) (by kernel_rfl) (by kernel_rfl)
def ri36 : List (Nat × RI) := []
noncomputable def fi36 : FI := fiOf Tryz.f36 ri36
theorem ok36 : FIok Tryz.prog T 36 fi36 := fiOf_ok Tryz.func36 (by kernel_rfl) (by kernel_rfl) (by kernel_rfl)
def ri37 : List (Nat × RI) := []
noncomputable def fi37 : FI := fiOf Tryz.f37 ri37
theorem ok37 : FIok Tryz.prog T 37 fi37 := fiOf_ok Tryz.func37 (by kernel_rfl) (by kernel_rfl) (by kernel_rfl)
def ri38 : List (Nat × RI) := []
noncomputable def fi38 : FI := fiOf Tryz.f38 ri38
theorem ok38 : FIok Tryz.prog T 38 fi38 := fiOf_ok Tryz.func38 (by kernel_rfl) (by kernel_rfl) (by kernel_rfl)
def ri39 : List (Nat × RI) := []
noncomputable def fi39 : FI := fiOf Tryz.f39 ri39
theorem ok39 : FIok Tryz.prog T 39 fi39 := fiOf_ok Tryz.func39 (by kernel_rfl) (by kernel_rfl) (by kernel_rfl)
def ri40 : List (Nat × RI) := []
noncomputable def fi40 : FI := fiOf Tryz.f40 ri40
theorem ok40 : FIok Tryz.prog T 40 fi40 := fiOf_ok Tryz.func40 (by kernel_rfl) (by kernel_rfl) (by kernel_rfl)
def ri41 : List (Nat × RI) := [(1, ⟨[0, 1, 2, 3, 5, 6, 7, 8, 10, 11, 12, 13, 15, 16, 17, 18, 4, 9, 14, 19, 20, 21, 22], [0, 1, 0, 4, 15, 0, 32, 0, 128, 511, 0, 1024, 0, 4096, 16383, 0, 32768, 0, 131072, 524287, 1048575, 2097151, 4194303], [(1, []), (3, []), (5, [16]), (7, [16]), (9, [16, 17]), (11, [16, 17]), (13, [16, 17, 18]), (15, [16, 17, 18]), (20, [])]⟩)]
noncomputable def fi41 : FI := fiOf Tryz.f41 ri41
theorem ok41 : FIok Tryz.prog T 41 fi41 := fiOf_ok Tryz.func41 (by kernel_rfl) (by kernel_rfl) (by kernel_rfl)
def ri42 : List (Nat × RI) := []
noncomputable def fi42 : FI := fiOf Tryz.f42 ri42
theorem ok42 : FIok Tryz.prog T 42 fi42 := fiOf_ok Tryz.func42 (by kernel_rfl) (by kernel_rfl) (by kernel_rfl)
def ri43 : List (Nat × RI) := [(1, ⟨[0, 1, 2, 3, 5, 6, 7, 8, 10, 11, 12, 13, 15, 16, 17, 18, 4, 9, 14, 19, 20, 21, 22], [0, 1, 0, 4, 15, 0, 32, 0, 128, 511, 0, 1024, 0, 4096, 16383, 0, 32768, 0, 131072, 524287, 1048575, 2097151, 4194303], [(1, []), (3, []), (5, [16]), (7, [16]), (9, [16, 17]), (11, [16, 17]), (13, [16, 17, 18]), (15, [16, 17, 18]), (20, [])]⟩)]
noncomputable def fi43 : FI := fiOf Tryz.f43 ri43
theorem ok43 : FIok Tryz.prog T 43 fi43 := fiOf_ok Tryz.func43 (by kernel_rfl) (by kernel_rfl) (by kernel_rfl)
def ri44 : List (Nat × RI) := []
noncomputable def fi44 : FI := fiOf Tryz.f44 ri44
theorem ok44 : FIok Tryz.prog T 44 fi44 := fiOf_ok Tryz.func44 (by kernel_rfl) (by kernel_rfl) (by kernel_rfl)
def ri45 : List (Nat × RI) := [(1, ⟨[0, 1, 2, 3, 5, 6, 7, 8, 10, 11, 12, 13, 4, 9, 14, 15, 16, 17], [0, 1, 0, 4, 15, 0, 32, 0, 128, 511, 0, 1024, 0, 4096, 16383, 32767, 65535, 131071], [(1, []), (3, []), (5, [12]), (7, [12]), (9, [12, 13]), (11, [12, 13]), (15, [])]⟩)]
noncomputable def fi45 : FI := fiOf Tryz.f45 ri45
theorem ok45 : FIok Tryz.prog T 45 fi45 := fiOf_ok Tryz.func45 (by kernel_rfl) (by kernel_rfl) (by kernel_rfl)
def ri46 : List (Nat × RI) := []
noncomputable def fi46 : FI := fiOf Tryz.f46 ri46
theorem ok46 : FIok Tryz.prog T 46 fi46 := fiOf_ok Tryz.func46 (by kernel_rfl) (by kernel_rfl) (by kernel_rfl)
def ri47 : List (Nat × RI) := []
noncomputable def fi47 : FI := fiOf Tryz.f47 ri47
theorem ok47 : FIok Tryz.prog T 47 fi47 := fiOf_ok Tryz.func47 (by kernel_rfl) (by kernel_rfl) (by kernel_rfl)
def ri48 : List (Nat × RI) := [(1, ⟨[0, 1, 2, 4, 5, 3, 6, 7], [0, 0, 2, 7, 0, 16, 63, 127], [(0, []), (2, []), (4, [5])]⟩),
  (5, ⟨[0, 1, 2, 3, 4, 5, 6, 7, 8, 9, 10, 11, 12, 13, 14, 15], [0, 0, 2, 0, 14, 30, 62, 0, 128, 0, 896, 1920, 3968, 8190, 16383, 32767], [(2, []), (6, []), (8, []), (12, []), (13, [])]⟩),
  (9, ⟨[0, 1, 2, 3, 4, 5, 6, 7, 8, 9, 10, 11, 12, 13, 14, 15], [0, 0, 2, 0, 14, 30, 62, 0, 128, 0, 896, 1920, 3968, 8190, 16383, 32767], [(2, []), (6, []), (8, []), (12, []), (13, [])]⟩),
  (13, ⟨[0, 1, 2, 3, 4, 5, 6, 7, 8, 9, 10, 11, 12, 13, 14, 15], [0, 0, 2, 0, 14, 30, 62, 0, 128, 0, 896, 1920, 3968, 8190, 16383, 32767], [(2, []), (6, []), (8, []), (12, []), (13, [])]⟩),
  (17, ⟨[0, 1, 2, 3, 4, 5, 6, 7, 8, 9, 10, 11, 12, 13], [0, 0, 3, 7, 15, 31, 63, 63, 255, 511, 63, 1087, 4095, 8191], [(3, []), (9, []), (11, [])]⟩)]
noncomputable def fi48 : FI := fiOf Tryz.f48 ri48
theorem ok48 : FIok Tryz.prog T 48 fi48 := fiOf_ok Tryz.func48 (by kernel_rfl) (by kernel_rfl) (by kernel_rfl)
def ri49 : List (Nat × RI) := [(2, ⟨[0, 1, 2, 3, 4, 5, 6, 7, 8], [0, 0, 3, 7, 0, 16, 63, 0, 255], [(3, []), (5, []), (7, [])]⟩)]
noncomputable def fi49 : FI := fiOf Tryz.f49 ri49
theorem ok49 : FIok Tryz.prog T 49 fi49 := fiOf_ok Tryz.func49 (by kernel_rfl) (by kernel_rfl) (by kernel_rfl)
def ri50 : List (Nat × RI) := [(6, ⟨[0, 1, 2, 3, 4, 5, 6, 7, 8, 9, 10, 11, 12, 13], [0, 1, 3, 7, 7, 31, 63, 7, 7, 263, 903, 1927, 4095, 8191], [(6, []), (11, [])]⟩),
  (8, ⟨[0, 1, 2, 3, 4, 5, 6, 7, 8, 9, 10, 11, 12, 13], [0, 1, 3, 7, 7, 23, 63, 127, 7, 7, 775, 1799, 4095, 8191], [(7, []), (11, [])]⟩),
  (9, ⟨[0, 1, 2, 3, 5, 6, 7, 8, 9, 11, 12, 13, 4, 10, 14, 15], [0, 0, 0, 6, 15, 0, 0, 96, 224, 480, 1023, 0, 0, 6144, 16383, 32767], [(0, []), (7, [12]), (8, [12])]⟩)]
noncomputable def fi50 : FI := fiOf Tryz.f50 ri50
theorem ok50 : FIok Tryz.prog T 50 fi50 := fiOf_ok Tryz.func50 (by kernel_rfl) (by kernel_rfl) (by kernel_rfl)
def ri51 : List (Nat × RI) := [(3, ⟨[0, 1, 2, 3, 4, 6, 7, 8, 9, 10, 5, 11, 12, 13], [0, 0, 2, 6, 15, 31, 0, 0, 128, 384, 960, 2047, 4095, 8191], []⟩),
  (8, ⟨[0, 1, 2, 3, 4, 5, 6, 7, 8, 9, 10, 11, 12, 13, 14, 15, 16, 17, 18, 19, 20, 21], [0, 0, 2, 7, 15, 31, 31, 95, 255, 511, 1023, 1023, 4095, 8191, 1023, 1023, 50175, 115711, 262143, 524287, 1048575, 2097151], [(13, []), (17, [])]⟩),
  (14, ⟨[0, 1, 2, 3, 4, 5, 6, 7, 8, 9, 10], [0, 1, 3, 7, 7, 23, 63, 127, 7, 511, 1023], [(7, []), (8, [])]⟩)]
noncomputable def fi51 : FI := fiOf Tryz.f51 ri51
theorem ok51 : FIok Tryz.prog T 51 fi51 := fiOf_ok Tryz.func51 (by kernel_rfl) (by kernel_rfl) (by kernel_rfl)
def ri52 : List (Nat × RI) := []
noncomputable def fi52 : FI := fiOf Tryz.f52 ri52
theorem ok52 : FIok Tryz.prog T 52 fi52 := fiOf_ok Tryz.func52 (by kernel_rfl) (by kernel_rfl) (by kernel_rfl)
def ri53 : List (Nat × RI) := []
noncomputable def fi53 : FI := fiOf Tryz.f53 ri53
theorem ok53 : FIok Tryz.prog T 53 fi53 := fiOf_ok Tryz.func53 (by kernel_rfl) (by kernel_rfl) (by kernel_rfl)
def ri54 : List (Nat × RI) := []
noncomputable def fi54 : FI := fiOf Tryz.f54 ri54
theorem ok54 : FIok Tryz.prog T 54 fi54 := fiOf_ok Tryz.func54 (by kernel_rfl) (by kernel_rfl) (by kernel_rfl)
def ri55 : List (Nat × RI) := []
noncomputable def fi55 : FI := fiOf Tryz.f55 ri55
theorem ok55 : FIok Tryz.prog T 55 fi55 := fiOf_ok Tryz.func55 (by kernel_rfl) (by kernel_rfl) (by kernel_rfl)
def ri56 : List (Nat × RI) := []
noncomputable def fi56 : FI := fiOf Tryz.f56 ri56
theorem ok56 : FIok Tryz.prog T 56 fi56 := fiOf_ok Tryz.func56 (by kernel_rfl) (by kernel_rfl) (by kernel_rfl)
def ri57 : List (Nat × RI) := []
noncomputable def fi57 : FI := fiOf Tryz.f57 ri57
theorem ok57 : FIok Tryz.prog T 57 fi57 := fiOf_ok Tryz.func57 (by kernel_rfl) (by kernel_rfl) (by kernel_rfl)
def ri58 : List (Nat × RI) := [(6, ⟨[0, 1, 2, 3, 4, 5, 6, 7, 8, 9], [0, 0, 3, 7, 0, 0, 32, 112, 240, 511], [(3, []), (8, [])]⟩),
  (11, ⟨[0, 1, 2, 3, 4, 5, 6, 7, 8, 9], [0, 0, 3, 7, 0, 0, 32, 112, 240, 511], [(3, []), (8, [])]⟩)]
noncomputable def fi58 : FI := fiOf Tryz.f58 ri58
theorem ok58 : FIok Tryz.prog T 58 fi58 := fiOf_ok Tryz.func58 (by kernel_rfl) (by kernel_rfl) (by kernel_rfl)
def ri59 : List (Nat × RI) := []
noncomputable def fi59 : FI := fiOf Tryz.f59 ri59
theorem ok59 : FIok Tryz.prog T 59 fi59 := fiOf_ok Tryz.func59 (by kernel_rfl) (by kernel_rfl) (by kernel_rfl)
def ri60 : List (Nat × RI) := []
noncomputable def fi60 : FI := fiOf Tryz.f60 ri60
theorem ok60 : FIok Tryz.prog T 60 fi60 := fiOf_ok Tryz.func60 (by kernel_rfl) (by kernel_rfl) (by kernel_rfl)
def ri61 : List (Nat × RI) := []
noncomputable def fi61 : FI := fiOf Tryz.f61 ri61
theorem ok61 : FIok Tryz.prog T 61 fi61 := fiOf_ok Tryz.func61 (by kernel_rfl) (by kernel_rfl) (by kernel_rfl)
def ri62 : List (Nat × RI) := [(6, ⟨[0, 1, 2, 3, 4, 5, 6, 7, 8, 9], [0, 0, 3, 7, 0, 0, 32, 112, 240, 511], [(3, []), (8, [])]⟩),
  (11, ⟨[0, 1, 2, 3, 4, 5, 6, 7, 8, 9], [0, 0, 3, 7, 0, 0, 32, 112, 240, 511], [(3, []), (8, [])]⟩)]
noncomputable def fi62 : FI := fiOf Tryz.f62 ri62
theorem ok62 : FIok Tryz.prog T 62 fi62 := fiOf_ok Tryz.func62 (by kernel_rfl) (by kernel_rfl) (by kernel_rfl)
def ri63 : List (Nat × RI) := []
noncomputable def fi63 : FI := fiOf Tryz.f63 ri63
theorem ok63 : FIok Tryz.prog T 63 fi63 := fiOf_ok Tryz.func63 (by kernel_rfl) (by kernel_rfl) (by kernel_rfl)
def ri64 : List (Nat × RI) := []
noncomputable def fi64 : FI := fiOf Tryz.f64 ri64
theorem ok64 : FIok Tryz.prog T 64 fi64 := fiOf_ok Tryz.func64 (by kernel_rfl) (by kernel_rfl) (by kernel_rfl)
def ri65 : List (Nat × RI) := []
noncomputable def fi65 : FI := fiOf Tryz.f65 ri65
theorem ok65 : FIok Tryz.prog T 65 fi65 := fiOf_ok Tryz.func65 (by kernel_rfl) (by kernel_rfl) (by kernel_rfl)
def ri66 : List (Nat × RI) := []
noncomputable def fi66 : FI := fiOf Tryz.f66 ri66
theorem ok66 : FIok Tryz.prog T 66 fi66 := fiOf_ok Tryz.func66 (by kernel_rfl) (by kernel_rfl) (by kernel_rfl)
def ri67 : List (Nat × RI) := []
noncomputable def fi67 : FI := fiOf Tryz.f67 ri67
theorem ok67 : FIok Tryz.prog T 67 fi67 := fiOf_ok Tryz.func67 (by kernel_rfl) (by kernel_rfl) (by kernel_rfl)
def ri68 : List (Nat × RI) := [(6, ⟨[0, 1, 2, 3, 4, 5, 6, 7, 8, 9], [0, 0, 3, 7, 0, 0, 32, 112, 240, 511], [(3, []), (8, [])]⟩),
  (11, ⟨[0, 1, 2, 3, 4, 5, 6, 7, 8, 9], [0, 0, 3, 7, 0, 0, 32, 112, 240, 511], [(3, []), (8, [])]⟩)]
noncomputable def fi68 : FI := fiOf Tryz.f68 ri68
theorem ok68 : FIok Tryz.prog T 68 fi68 := fiOf_ok Tryz.func68 (by kernel_rfl) (by kernel_rfl) (by kernel_rfl)
def ri69 : List (Nat × RI) := []
noncomputable def fi69 : FI := fiOf Tryz.f69 ri69
theorem ok69 : FIok Tryz.prog T 69 fi69 := fiOf_ok Tryz.func69 (by kernel_rfl) (by kernel_rfl) (by kernel_rfl)
def ri70 : List (Nat × RI) := []
noncomputable def fi70 : FI := fiOf Tryz.f70 ri70
theorem ok70 : FIok Tryz.prog T 70 fi70 := fiOf_ok Tryz.func70 (by kernel_rfl) (by kernel_rfl) (by kernel_rfl)
def ri71 : List (Nat × RI) := []
noncomputable def fi71 : FI := fiOf Tryz.f71 ri71
theorem ok71 : FIok Tryz.prog T 71 fi71 := fiOf_ok Tryz.func71 (by kernel_rfl) (by kernel_rfl) (by kernel_rfl)
def ri72 : List (Nat × RI) := [(6, ⟨[0, 1, 2, 3, 4, 5, 6, 7, 8, 9], [0, 0, 3, 7, 0, 0, 32, 112, 240, 511], [(3, []), (8, [])]⟩),
  (11, ⟨[0, 1, 2, 3, 4, 5, 6, 7, 8, 9], [0, 0, 3, 7, 0, 0, 32, 112, 240, 511], [(3, []), (8, [])]⟩)]
noncomputable def fi72 : FI := fiOf Tryz.f72 ri72
theorem ok72 : FIok Tryz.prog T 72 fi72 := fiOf_ok Tryz.func72 (by kernel_rfl) (by kernel_rfl) (by kernel_rfl)
def ri73 : List (Nat × RI) := [(4, ⟨[0, 1, 2, 3, 4, 5, 6], [0, 1, 3, 0, 8, 24, 63], [(2, []), (5, [])]⟩),
  (5, ⟨[0, 1, 2, 3, 4, 5, 6, 7], [0, 1, 3, 0, 8, 24, 63, 127], [(2, []), (5, [])]⟩)]
noncomputable def fi73 : FI := fiOf Tryz.f73 ri73
theorem ok73 : FIok Tryz.prog T 73 fi73 := fiOf_ok Tryz.func73 (by kernel_rfl) (by kernel_rfl) (by kernel_rfl)
def ri74 : List (Nat × RI) := [(17, ⟨[0, 1, 2, 3, 4, 5, 6, 7, 8, 9, 10, 11, 12, 13, 14], [0, 1, 3, 7, 7, 23, 63, 127, 7, 7, 775, 1799, 4095, 8191, 16383], [(7, []), (11, [])]⟩)]
noncomputable def fi74 : FI := fiOf Tryz.f74 ri74
theorem ok74 : FIok Tryz.prog T 74 fi74 := fiOf_ok Tryz.func74 (by kernel_rfl) (by kernel_rfl) (by kernel_rfl)
def ri75 : List (Nat × RI) := []
noncomputable def fi75 : FI := fiOf Tryz.f75 ri75
theorem ok75 : FIok Tryz.prog T 75 fi75 := fiOf_ok Tryz.func75 (by kernel_rfl) (by kernel_rfl) (by kernel_rfl)
def ri76 : List (Nat × RI) := [(17, ⟨[0, 1, 2, 3, 4, 5, 6, 7, 8, 9, 10, 11, 12, 13, 14, 15, 16], [0, 1, 3, 7, 7, 7, 39, 119, 247, 7, 7, 1543, 3591, 8191, 16383, 32767, 65535], [(8, []), (12, [])]⟩)]
noncomputable def fi76 : FI := fiOf Tryz.f76 ri76
theorem ok76 : FIok Tryz.prog T 76 fi76 := fiOf_ok Tryz.func76 (by kernel_rfl) (by kernel_rfl) (by kernel_rfl)
def ri77 : List (Nat × RI) := []
noncomputable def fi77 : FI := fiOf Tryz.f77 ri77
theorem ok77 : FIok Tryz.prog T 77 fi77 := fiOf_ok Tryz.func77 (by kernel_rfl) (by kernel_rfl) (by kernel_rfl)
def ri78 : List (Nat × RI) := [(17, ⟨[0, 1, 2, 3, 4, 5, 6, 7, 8, 9, 10, 11, 12, 13, 14, 15, 16], [0, 1, 3, 7, 7, 7, 39, 119, 247, 7, 7, 1543, 3591, 8191, 16383, 32767, 65535], [(8, []), (12, [])]⟩)]
noncomputable def fi78 : FI := fiOf Tryz.f78 ri78
theorem ok78 : FIok Tryz.prog T 78 fi78 := fiOf_ok Tryz.func78 (by kernel_rfl) (by kernel_rfl) (by kernel_rfl)
def ri79 : List (Nat × RI) := [(17, ⟨[0, 1, 2, 3, 4, 5, 6, 7, 8, 9, 10, 11, 12, 13, 14, 15, 16], [0, 1, 3, 7, 7, 7, 39, 119, 247, 7, 7, 1543, 3591, 8191, 16383, 32767, 65535], [(8, []), (12, [])]⟩)]
noncomputable def fi79 : FI := fiOf Tryz.f79 ri79
theorem ok79 : FIok Tryz.prog T 79 fi79 := fiOf_ok Tryz.func79 (by kernel_rfl) (by kernel_rfl) (by kernel_rfl)
def ri80 : List (Nat × RI) := [(4, ⟨[0, 1, 2, 3, 4, 5, 6, 7, 8, 9, 10, 11, 12, 13, 14], [0, 0, 3, 7, 15, 15, 63, 127, 15, 15, 527, 1807, 3855, 8191, 16383], [(7, []), (12, [])]⟩),
  (6, ⟨[0, 1, 2, 3, 4, 5, 6, 7, 8, 9, 10, 11, 12, 13, 14, 15, 16, 17], [0, 0, 0, 0, 8, 0, 0, 64, 224, 480, 0, 0, 3072, 7168, 16355, 32739, 65535, 131071], [(9, []), (13, [])]⟩)]
noncomputable def fi80 : FI := fiOf Tryz.f80 ri80
theorem ok80 : FIok Tryz.prog T 80 fi80 := fiOf_ok Tryz.func80 (by kernel_rfl) (by kernel_rfl) (by kernel_rfl)
def ri81 : List (Nat × RI) := [(10, ⟨[0, 1, 2, 3, 4, 5, 6, 7, 8, 9, 10, 11, 12, 13, 14, 15, 16, 17, 18, 19], [0, 0, 0, 0, 0, 24, 0, 0, 0, 384, 960, 1984, 0, 0, 12288, 28672, 65475, 131011, 262143, 524287], [(11, []), (15, [])]⟩)]
noncomputable def fi81 : FI := fiOf Tryz.f81 ri81
theorem ok81 : FIok Tryz.prog T 81 fi81 := fiOf_ok Tryz.func81 (by kernel_rfl) (by kernel_rfl) (by kernel_rfl)
def ri82 : List (Nat × RI) := [(10, ⟨[0, 1, 2, 3, 4, 5, 6, 7, 8, 9, 10, 11, 12, 13, 14, 15, 16, 17, 18, 19], [0, 0, 0, 0, 0, 24, 0, 0, 0, 384, 960, 1984, 0, 0, 12288, 28672, 65475, 131011, 262143, 524287], [(11, []), (15, [])]⟩)]
noncomputable def fi82 : FI := fiOf Tryz.f82 ri82
theorem ok82 : FIok Tryz.prog T 82 fi82 := fiOf_ok Tryz.func82 (by kernel_rfl) (by kernel_rfl) (by kernel_rfl)
def ri83 : List (Nat × RI) := []
noncomputable def fi83 : FI := fiOf Tryz.f83 ri83
theorem ok83 : FIok Tryz.prog T 83 fi83 := fiOf_ok Tryz.func83 (by kernel_rfl) (by kernel_rfl) (by kernel_rfl)
def ri84 : List (Nat × RI) := [(3, ⟨[0, 1, 2, 3, 4, 5, 6, 7, 8, 9, 10, 11, 12, 13, 14, 15], [0, 0, 0, 0, 0, 0, 48, 112, 0, 0, 768, 1792, 4083, 8179, 16383, 32767], [(7, []), (11, [])]⟩)]
noncomputable def fi84 : FI := fiOf Tryz.f84 ri84
theorem ok84 : FIok Tryz.prog T 84 fi84 := fiOf_ok Tryz.func84 (by kernel_rfl) (by kernel_rfl) (by kernel_rfl)
def ri85 : List (Nat × RI) := [(5, ⟨[0, 1, 2, 3, 4, 5, 6, 7, 8, 9, 10, 11, 12, 13, 14, 15], [0, 0, 3, 7, 15, 15, 63, 127, 15, 15, 527, 1807, 3855, 8191, 16383, 32767], [(7, []), (12, [])]⟩),
  (11, ⟨[0, 1, 2, 3, 4, 5, 6, 7, 8, 9, 10, 11, 12, 13, 14, 15, 16, 17], [0, 0, 0, 0, 8, 0, 0, 64, 224, 480, 0, 0, 3072, 7168, 16355, 32739, 65535, 131071], [(9, []), (13, [])]⟩),
  (16, ⟨[0, 1, 2, 3, 4, 5, 6, 7, 8, 9, 10], [0, 0, 3, 7, 0, 0, 32, 112, 240, 511, 1023], [(3, []), (8, [])]⟩),
  (17, ⟨[0, 1, 2, 3, 4, 5, 6, 7, 8, 9, 10, 11, 12, 13, 14, 15, 16, 17], [0, 0, 0, 0, 8, 0, 0, 64, 224, 480, 0, 0, 3072, 7168, 16355, 32739, 65535, 131071], [(9, []), (13, [])]⟩),
  (22, ⟨[0, 1, 2, 3, 4, 5, 6, 7, 8, 9, 10], [0, 0, 3, 7, 0, 0, 32, 112, 240, 511, 1023], [(3, []), (8, [])]⟩),
  (23, ⟨[0, 1, 2, 3, 4, 5, 6, 7, 8, 9, 10, 11, 12, 13, 14, 15, 16, 17], [0, 0, 0, 0, 8, 0, 0, 64, 224, 480, 0, 0, 3072, 7168, 16355, 32739, 65535, 131071], [(9, []), (13, [])]⟩)]
noncomputable def fi85 : FI := fiOf Tryz.f85 ri85
theorem ok85 : FIok Tryz.prog T 85 fi85 := fiOf_ok Tryz.func85 (by kernel_rfl) (by kernel_rfl) (by kernel_rfl)
def ri86 : List (Nat × RI) := []
noncomputable def fi86 : FI := fiOf Tryz.f86 ri86
theorem ok86 : FIok Tryz.prog T 86 fi86 := fiOf_ok Tryz.func86 (by kernel_rfl) (by kernel_rfl) (by kernel_rfl)
def ri87 : List (Nat × RI) := [(1, ⟨[0, 1, 2, 3, 4, 5, 6, 7, 8, 9, 10, 11, 12, 13, 14, 15], [0, 0, 0, 0, 0, 0, 48, 112, 0, 0, 768, 1792, 4083, 8179, 16383, 32767], [(7, []), (11, [])]⟩),
  (3, ⟨[0, 1, 2, 3, 4, 5, 6, 7, 8, 9, 10, 11, 12, 13, 14], [0, 0, 3, 7, 15, 15, 63, 127, 15, 15, 783, 1807, 4095, 8191, 16383], [(7, []), (11, [])]⟩),
  (5, ⟨[0, 1, 2, 3, 4, 5, 6, 7, 8, 9, 10, 11, 12, 13], [0, 0, 3, 7, 15, 15, 63, 127, 15, 15, 783, 1807, 4095, 8191], [(7, []), (11, [])]⟩),
  (8, ⟨[0, 1, 2, 3, 4, 5, 6, 7, 8, 9, 10, 11, 12, 13, 14, 15], [0, 0, 0, 0, 0, 0, 48, 112, 0, 0, 768, 1792, 4083, 8179, 16383, 32767], [(7, []), (11, [])]⟩)]
noncomputable def fi87 : FI := fiOf Tryz.f87 ri87
theorem ok87 : FIok Tryz.prog T 87 fi87 := fiOf_ok Tryz.func87 (by kernel_rfl) (by kernel_rfl) (by kernel_rfl)
def ri88 : List (Nat × RI) := [(1, ⟨[0, 1, 2, 3, 4, 5, 6, 7, 8, 9, 10, 11, 12, 13, 14, 15], [0, 0, 0, 0, 0, 0, 48, 112, 0, 0, 768, 1792, 4083, 8179, 16383, 32767], [(7, []), (11, [])]⟩),
  (3, ⟨[0, 1, 2, 3, 4, 5, 6, 7, 8, 9, 10, 11, 12, 13], [0, 0, 3, 7, 15, 15, 63, 127, 15, 15, 783, 1807, 4095, 8191], [(7, []), (11, [])]⟩),
  (5, ⟨[0, 1, 2, 3, 4, 5, 6, 7, 8, 9, 10, 11, 12, 13, 14], [0, 0, 3, 7, 15, 15, 63, 127, 15, 15, 783, 1807, 4095, 8191, 16383], [(7, []), (11, [])]⟩),
  (8, ⟨[0, 1, 2, 3, 4, 5, 6, 7, 8, 9, 10, 11, 12, 13, 14, 15], [0, 0, 0, 0, 0, 0, 48, 112, 0, 0, 768, 1792, 4083, 8179, 16383, 32767], [(7, []), (11, [])]⟩),
  (10, ⟨[0, 1, 2, 3, 4, 5, 6, 7, 8, 9, 10, 11, 12, 13, 14, 15], [0, 0, 0, 0, 0, 0, 48, 112, 0, 0, 768, 1792, 4083, 8179, 16383, 32767], [(7, []), (11, [])]⟩),
  (13, ⟨[0, 1, 2, 3, 4, 5, 6, 7, 8, 9, 10, 11, 12, 13], [0, 0, 3, 7, 15, 15, 63, 127, 15, 15, 783, 1807, 4095, 8191], [(7, []), (11, [])]⟩),
  (15, ⟨[0, 1, 2, 3, 4, 5, 6, 7, 8, 9, 10, 11, 12, 13, 14], [0, 0, 3, 7, 15, 15, 63, 127, 15, 15, 783, 1807, 4095, 8191, 16383], [(7, []), (11, [])]⟩),
  (18, ⟨[0, 1, 2, 3, 4, 5, 6, 7, 8, 9, 10, 11, 12, 13, 14, 15], [0, 0, 0, 0, 0, 0, 48, 112, 0, 0, 768, 1792, 4083, 8179, 16383, 32767], [(7, []), (11, [])]⟩),
  (21, ⟨[0, 1, 2, 3, 4, 5, 6, 7, 8, 9, 10, 11, 12, 13, 14, 15], [0, 0, 0, 0, 0, 0, 48, 112, 0, 0, 768, 1792, 4083, 8179, 16383, 32767], [(7, []), (11, [])]⟩)]
noncomputable def fi88 : FI := fiOf Tryz.f88 ri88
theorem ok88 : FIok Tryz.prog T 88 fi88 := fiOf_ok Tryz.func88 (by kernel_rfl) (by kernel_rfl) (by kernel_rfl)
def ri89 : List (Nat × RI) := []
noncomputable def fi89 : FI := fiOf Tryz.f89 ri89
theorem ok89 : FIok Tryz.prog T 89 fi89 := fiOf_ok Tryz.func89 (by kernel_rfl) (by kernel_rfl) (by kernel_rfl)
def ri90 : List (Nat × RI) := []
noncomputable def fi90 : FI := fiOf Tryz.f90 ri90
theorem ok90 : FIok Tryz.prog T 90 fi90 := fiOf_ok Tryz.func90 (by kernel_rfl) (by kernel_rfl) (by kernel_rfl)
def ri91 : List (Nat × RI) := [(4, ⟨[0, 1, 2, 3, 4, 5, 6, 7, 8, 9, 10, 11, 12, 13, 14, 15, 16], [0, 0, 3, 7, 15, 15, 15, 111, 239, 15, 15, 1039, 3599, 7695, 16383, 32767, 65535], [(8, []), (13, [])]⟩),
  (6, ⟨[0, 1, 2, 3, 4, 5, 6, 7, 8, 9, 10, 11, 12, 13, 14, 15, 16, 17], [0, 0, 0, 0, 8, 0, 0, 64, 224, 480, 0, 0, 3072, 7168, 16355, 32739, 65535, 131071], [(9, []), (13, [])]⟩)]
noncomputable def fi91 : FI := fiOf Tryz.f91 ri91
theorem ok91 : FIok Tryz.prog T 91 fi91 := fiOf_ok Tryz.func91 (by kernel_rfl) (by kernel_rfl) (by kernel_rfl)
def ri92 : List (Nat × RI) := [(10, ⟨[0, 1, 2, 3, 4, 5, 6, 7, 8, 9, 10, 11, 12, 13, 14, 15, 16, 17, 18, 19], [0, 0, 0, 0, 0, 24, 0, 0, 0, 384, 960, 1984, 0, 0, 12288, 28672, 65475, 131011, 262143, 524287], [(11, []), (15, [])]⟩)]
noncomputable def fi92 : FI := fiOf Tryz.f92 ri92
theorem ok92 : FIok Tryz.prog T 92 fi92 := fiOf_ok Tryz.func92 (by kernel_rfl) (by kernel_rfl) (by kernel_rfl)
def ri93 : List (Nat × RI) := [(10, ⟨[0, 1, 2, 3, 4, 5, 6, 7, 8, 9, 10, 11, 12, 13, 14, 15, 16, 17, 18, 19], [0, 0, 0, 0, 0, 24, 0, 0, 0, 384, 960, 1984, 0, 0, 12288, 28672, 65475, 131011, 262143, 524287], [(11, []), (15, [])]⟩)]
noncomputable def fi93 : FI := fiOf Tryz.f93 ri93
theorem ok93 : FIok Tryz.prog T 93 fi93 := fiOf_ok Tryz.func93 (by kernel_rfl) (by kernel_rfl) (by kernel_rfl)
def ri94 : List (Nat × RI) := []
noncomputable def fi94 : FI := fiOf Tryz.f94 ri94
theorem ok94 : FIok Tryz.prog T 94 fi94 := fiOf_ok Tryz.func94 (by kernel_rfl) (by kernel_rfl) (by kernel_rfl)
def ri95 : List (Nat × RI) := [(3, ⟨[0, 1, 2, 3, 4, 5, 6, 7, 8, 9, 10, 11, 12, 13, 14, 15], [0, 0, 0, 0, 0, 0, 48, 112, 0, 0, 768, 1792, 4083, 8179, 16383, 32767], [(7, []), (11, [])]⟩)]
noncomputable def fi95 : FI := fiOf Tryz.f95 ri95
theorem ok95 : FIok Tryz.prog T 95 fi95 := fiOf_ok Tryz.func95 (by kernel_rfl) (by kernel_rfl) (by kernel_rfl)
def ri96 : List (Nat × RI) := [(5, ⟨[0, 1, 2, 3, 4, 5, 6, 7, 8, 9, 10, 11, 12, 13, 14, 15, 16, 17], [0, 0, 3, 7, 15, 15, 15, 111, 239, 15, 15, 1039, 3599, 7695, 16383, 32767, 65535, 131071], [(8, []), (13, [])]⟩),
  (11, ⟨[0, 1, 2, 3, 4, 5, 6, 7, 8, 9, 10, 11, 12, 13, 14, 15, 16, 17], [0, 0, 0, 0, 8, 0, 0, 64, 224, 480, 0, 0, 3072, 7168, 16355, 32739, 65535, 131071], [(9, []), (13, [])]⟩),
  (16, ⟨[0, 1, 2, 3, 4, 5, 6, 7, 8, 9, 10, 11, 12], [0, 0, 0, 6, 14, 0, 0, 64, 224, 480, 1023, 2047, 4095], [(4, []), (9, [])]⟩),
  (17, ⟨[0, 1, 2, 3, 4, 5, 6, 7, 8, 9, 10, 11, 12, 13, 14, 15, 16, 17], [0, 0, 0, 0, 8, 0, 0, 64, 224, 480, 0, 0, 3072, 7168, 16355, 32739, 65535, 131071], [(9, []), (13, [])]⟩),
  (22, ⟨[0, 1, 2, 3, 4, 5, 6, 7, 8, 9, 10, 11, 12], [0, 0, 0, 6, 14, 0, 0, 64, 224, 480, 1023, 2047, 4095], [(4, []), (9, [])]⟩),
  (23, ⟨[0, 1, 2, 3, 4, 5, 6, 7, 8, 9, 10, 11, 12, 13, 14, 15, 16, 17], [0, 0, 0, 0, 8, 0, 0, 64, 224, 480, 0, 0, 3072, 7168, 16355, 32739, 65535, 131071], [(9, []), (13, [])]⟩)]
noncomputable def fi96 : FI := fiOf Tryz.f96 ri96
theorem ok96 : FIok Tryz.prog T 96 fi96 := fiOf_ok Tryz.func96 (by kernel_rfl) (by kernel_rfl) (by kernel_rfl)
def ri97 : List (Nat × RI) := [(1, ⟨[0, 1, 2, 3, 4, 5, 6, 7, 8, 9, 10, 11, 12, 13, 14, 15], [0, 0, 0, 0, 0, 0, 48, 112, 0, 0, 768, 1792, 4083, 8179, 16383, 32767], [(7, []), (11, [])]⟩),
  (3, ⟨[0, 1, 2, 3, 4, 5, 6, 7, 8, 9, 10, 11, 12, 13, 14, 15, 16], [0, 0, 3, 7, 15, 15, 15, 111, 239, 15, 15, 1551, 3599, 8191, 16383, 32767, 65535], [(8, []), (12, [])]⟩),
  (5, ⟨[0, 1, 2, 3, 4, 5, 6, 7, 8, 9, 10, 11, 12, 13, 14, 15], [0, 0, 3, 7, 15, 15, 15, 111, 239, 15, 15, 1551, 3599, 8191, 16383, 32767], [(8, []), (12, [])]⟩),
  (8, ⟨[0, 1, 2, 3, 4, 5, 6, 7, 8, 9, 10, 11, 12, 13, 14, 15], [0, 0, 0, 0, 0, 0, 48, 112, 0, 0, 768, 1792, 4083, 8179, 16383, 32767], [(7, []), (11, [])]⟩)]
noncomputable def fi97 : FI := fiOf Tryz.f97 ri97
theorem ok97 : FIok Tryz.prog T 97 fi97 := fiOf_ok Tryz.func97 (by kernel_rfl) (by kernel_rfl) (by kernel_rfl)
def ri98 : List (Nat × RI) := [(1, ⟨[0, 1, 2, 3, 4, 5, 6, 7, 8, 9, 10, 11, 12, 13, 14, 15], [0, 0, 0, 0, 0, 0, 48, 112, 0, 0, 768, 1792, 4083, 8179, 16383, 32767], [(7, []), (11, [])]⟩),
  (3, ⟨[0, 1, 2, 3, 4, 5, 6, 7, 8, 9, 10, 11, 12, 13, 14, 15], [0, 0, 3, 7, 15, 15, 15, 111, 239, 15, 15, 1551, 3599, 8191, 16383, 32767], [(8, []), (12, [])]⟩),
  (5, ⟨[0, 1, 2, 3, 4, 5, 6, 7, 8, 9, 10, 11, 12, 13, 14, 15, 16], [0, 0, 3, 7, 15, 15, 15, 111, 239, 15, 15, 1551, 3599, 8191, 16383, 32767, 65535], [(8, []), (12, [])]⟩),
  (8, ⟨[0, 1, 2, 3, 4, 5, 6, 7, 8, 9, 10, 11, 12, 13, 14, 15], [0, 0, 0, 0, 0, 0, 48, 112, 0, 0, 768, 1792, 4083, 8179, 16383, 32767], [(7, []), (11, [])]⟩),
  (10, ⟨[0, 1, 2, 3, 4, 5, 6, 7, 8, 9, 10, 11, 12, 13, 14, 15], [0, 0, 0, 0, 0, 0, 48, 112, 0, 0, 768, 1792, 4083, 8179, 16383, 32767], [(7, []), (11, [])]⟩),
  (13, ⟨[0, 1, 2, 3, 4, 5, 6, 7, 8, 9, 10, 11, 12, 13, 14, 15], [0, 0, 3, 7, 15, 15, 15, 111, 239, 15, 15, 1551, 3599, 8191, 16383, 32767], [(8, []), (12, [])]⟩),
  (15, ⟨[0, 1, 2, 3, 4, 5, 6, 7, 8, 9, 10, 11, 12, 13, 14, 15, 16], [0, 0, 3, 7, 15, 15, 15, 111, 239, 15, 15, 1551, 3599, 8191, 16383, 32767, 65535], [(8, []), (12, [])]⟩),
  (18, ⟨[0, 1, 2, 3, 4, 5, 6, 7, 8, 9, 10, 11, 12, 13, 14, 15], [0, 0, 0, 0, 0, 0, 48, 112, 0, 0, 768, 1792, 4083, 8179, 16383, 32767], [(7, []), (11, [])]⟩),
  (21, ⟨[0, 1, 2, 3, 4, 5, 6, 7, 8, 9, 10, 11, 12, 13, 14, 15], [0, 0, 0, 0, 0, 0, 48, 112, 0, 0, 768, 1792, 4083, 8179, 16383, 32767], [(7, []), (11, [])]⟩)]
noncomputable def fi98 : FI := fiOf Tryz.f98 ri98
theorem ok98 : FIok Tryz.prog T 98 fi98 := fiOf_ok Tryz.func98 (by kernel_rfl) (by kernel_rfl) (by kernel_rfl)
def ri99 : List (Nat × RI) := [(4, ⟨[0, 1, 2, 3, 4, 5, 6, 7, 8, 9, 10, 11, 12, 13, 14, 15, 16], [0, 0, 3, 7, 15, 15, 15, 111, 239, 15, 15, 1039, 3599, 7695, 16383, 32767, 65535], [(8, []), (13, [])]⟩),
  (6, ⟨[0, 1, 2, 3, 4, 5, 6, 7, 8, 9, 10, 11, 12, 13, 14, 15, 16, 17], [0, 0, 0, 0, 8, 0, 0, 64, 224, 480, 0, 0, 3072, 7168, 16355, 32739, 65535, 131071], [(9, []), (13, [])]⟩)]
noncomputable def fi99 : FI := fiOf Tryz.f99 ri99
theorem ok99 : FIok Tryz.prog T 99 fi99 := fiOf_ok Tryz.func99 (by kernel_rfl) (by kernel_rfl) (by kernel_rfl)
def ri100 : List (Nat × RI) := [(10, ⟨[0, 1, 2, 3, 4, 5, 6, 7, 8, 9, 10, 11, 12, 13, 14, 15, 16, 17, 18, 19], [0, 0, 0, 0, 0, 24, 0, 0, 0, 384, 960, 1984, 0, 0, 12288, 28672, 65475, 131011, 262143, 524287], [(11, []), (15, [])]⟩)]
noncomputable def fi100 : FI := fiOf Tryz.f100 ri100
theorem ok100 : FIok Tryz.prog T 100 fi100 := fiOf_ok Tryz.func100 (by kernel_rfl) (by kernel_rfl) (by kernel_rfl)
def ri101 : List (Nat × RI) := [(10, ⟨[0, 1, 2, 3, 4, 5, 6, 7, 8, 9, 10, 11, 12, 13, 14, 15, 16, 17, 18, 19], [0, 0, 0, 0, 0, 24, 0, 0, 0, 384, 960, 1984, 0, 0, 12288, 28672, 65475, 131011, 262143, 524287], [(11, []), (15, [])]⟩)]
noncomputable def fi101 : FI := fiOf Tryz.f101 ri101
theorem ok101 : FIok Tryz.prog T 101 fi101 := fiOf_ok Tryz.func101 (by kernel_rfl) (by kernel_rfl) (by kernel_rfl)
def ri102 : List (Nat × RI) := []
noncomputable def fi102 : FI := fiOf Tryz.f102 ri102
theorem ok102 : FIok Tryz.prog T 102 fi102 := fiOf_ok Tryz.func102 (by kernel_rfl) (by kernel_rfl) (by kernel_rfl)
def ri103 : List (Nat × RI) := [(3, ⟨[0, 1, 2, 3, 4, 5, 6, 7, 8, 9, 10, 11, 12, 13, 14, 15], [0, 0, 0, 0, 0, 0, 48, 112, 0, 0, 768, 1792, 4083, 8179, 16383, 32767], [(7, []), (11, [])]⟩)]
noncomputable def fi103 : FI := fiOf Tryz.f103 ri103
theorem ok103 : FIok Tryz.prog T 103 fi103 := fiOf_ok Tryz.func103 (by kernel_rfl) (by kernel_rfl) (by kernel_rfl)
def ri104 : List (Nat × RI) := [(5, ⟨[0, 1, 2, 3, 4, 5, 6, 7, 8, 9, 10, 11, 12, 13, 14, 15, 16, 17], [0, 0, 3, 7, 15, 15, 15, 111, 239, 15, 15, 1039, 3599, 7695, 16383, 32767, 65535, 131071], [(8, []), (13, [])]⟩),
  (11, ⟨[0, 1, 2, 3, 4, 5, 6, 7, 8, 9, 10, 11, 12, 13, 14, 15, 16, 17], [0, 0, 0, 0, 8, 0, 0, 64, 224, 480, 0, 0, 3072, 7168, 16355, 32739, 65535, 131071], [(9, []), (13, [])]⟩),
  (16, ⟨[0, 1, 2, 3, 4, 5, 6, 7, 8, 9, 10, 11, 12], [0, 0, 0, 6, 14, 0, 0, 64, 224, 480, 1023, 2047, 4095], [(4, []), (9, [])]⟩),
  (17, ⟨[0, 1, 2, 3, 4, 5, 6, 7, 8, 9, 10, 11, 12, 13, 14, 15, 16, 17], [0, 0, 0, 0, 8, 0, 0, 64, 224, 480, 0, 0, 3072, 7168, 16355, 32739, 65535, 131071], [(9, []), (13, [])]⟩),
  (22, ⟨[0, 1, 2, 3, 4, 5, 6, 7, 8, 9, 10, 11, 12], [0, 0, 0, 6, 14, 0, 0, 64, 224, 480, 1023, 2047, 4095], [(4, []), (9, [])]⟩),
  (23, ⟨[0, 1, 2, 3, 4, 5, 6, 7, 8, 9, 10, 11, 12, 13, 14, 15, 16, 17], [0, 0, 0, 0, 8, 0, 0, 64, 224, 480, 0, 0, 3072, 7168, 16355, 32739, 65535, 131071], [(9, []), (13, [])]⟩)]
noncomputable def fi104 : FI := fiOf Tryz.f104 ri104
theorem ok104 : FIok Tryz.prog T 104 fi104 := fiOf_ok Tryz.func104 (by kernel_rfl) (by kernel_rfl) (by kernel_rfl)
def ri105 : List (Nat × RI) := [(1, ⟨[0, 1, 2, 3, 4, 5, 6, 7, 8, 9, 10, 11, 12, 13, 14, 15], [0, 0, 0, 0, 0, 0, 48, 112, 0, 0, 768, 1792, 4083, 8179, 16383, 32767], [(7, []), (11, [])]⟩),
  (3, ⟨[0, 1, 2, 3, 4, 5, 6, 7, 8, 9, 10, 11, 12, 13, 14, 15, 16], [0, 0, 3, 7, 15, 15, 15, 111, 239, 15, 15, 1551, 3599, 8191, 16383, 32767, 65535], [(8, []), (12, [])]⟩),
  (5, ⟨[0, 1, 2, 3, 4, 5, 6, 7, 8, 9, 10, 11, 12, 13, 14, 15], [0, 0, 3, 7, 15, 15, 15, 111, 239, 15, 15, 1551, 3599, 8191, 16383, 32767], [(8, []), (12, [])]⟩),
  (8, ⟨[0, 1, 2, 3, 4, 5, 6, 7, 8, 9, 10, 11, 12, 13, 14, 15], [0, 0, 0, 0, 0, 0, 48, 112, 0, 0, 768, 1792, 4083, 8179, 16383, 32767], [(7, []), (11, [])]⟩)]
noncomputable def fi105 : FI := fiOf Tryz.f105 ri105
theorem ok105 : FIok Tryz.prog T 105 fi105 := fiOf_ok Tryz.func105 (by kernel_rfl) (by kernel_rfl) (by kernel_rfl)
def ri106 : List (Nat × RI) := [(1, ⟨[0, 1, 2, 3, 4, 5, 6, 7, 8, 9, 10, 11, 12, 13, 14, 15], [0, 0, 0, 0, 0, 0, 48, 112, 0, 0, 768, 1792, 4083, 8179, 16383, 32767], [(7, []), (11, [])]⟩),
  (3, ⟨[0, 1, 2, 3, 4, 5, 6, 7, 8, 9, 10, 11, 12, 13, 14, 15], [0, 0, 3, 7, 15, 15, 15, 111, 239, 15, 15, 1551, 3599, 8191, 16383, 32767], [(8, []), (12, [])]⟩),
  (5, ⟨[0, 1, 2, 3, 4, 5, 6, 7, 8, 9, 10, 11, 12, 13, 14, 15, 16], [0, 0, 3, 7, 15, 15, 15, 111, 239, 15, 15, 1551, 3599, 8191, 16383, 32767, 65535], [(8, []), (12, [])]⟩),
  (8, ⟨[0, 1, 2, 3, 4, 5, 6, 7, 8, 9, 10, 11, 12, 13, 14, 15], [0, 0, 0, 0, 0, 0, 48, 112, 0, 0, 768, 1792, 4083, 8179, 16383, 32767], [(7, []), (11, [])]⟩),
  (10, ⟨[0, 1, 2, 3, 4, 5, 6, 7, 8, 9, 10, 11, 12, 13, 14, 15], [0, 0, 0, 0, 0, 0, 48, 112, 0, 0, 768, 1792, 4083, 8179, 16383, 32767], [(7, []), (11, [])]⟩),
  (13, ⟨[0, 1, 2, 3, 4, 5, 6, 7, 8, 9, 10, 11, 12, 13, 14, 15], [0, 0, 3, 7, 15, 15, 15, 111, 239, 15, 15, 1551, 3599, 8191, 16383, 32767], [(8, []), (12, [])]⟩),
  (15, ⟨[0, 1, 2, 3, 4, 5, 6, 7, 8, 9, 10, 11, 12, 13, 14, 15, 16], [0, 0, 3, 7, 15, 15, 15, 111, 239, 15, 15, 1551, 3599, 8191, 16383, 32767, 65535], [(8, []), (12, [])]⟩),
  (18, ⟨[0, 1, 2, 3, 4, 5, 6, 7, 8, 9, 10, 11, 12, 13, 14, 15], [0, 0, 0, 0, 0, 0, 48, 112, 0, 0, 768, 1792, 4083, 8179, 16383, 32767], [(7, []), (11, [])]⟩),
  (21, ⟨[0, 1, 2, 3, 4, 5, 6, 7, 8, 9, 10, 11, 12, 13, 14, 15], [0, 0, 0, 0, 0, 0, 48, 112, 0, 0, 768, 1792, 4083, 8179, 16383, 32767], [(7, []), (11, [])]⟩)]
noncomputable def fi106 : FI := fiOf Tryz.f106 ri106
theorem ok106 : FIok Tryz.prog T 106 fi106 := fiOf_ok Tryz.func106 (by kernel_rfl) (by kernel_rfl) (by kernel_rfl)
def ri107 : List (Nat × RI) := [(4, ⟨[0, 1, 2, 3, 4, 5, 6, 7, 8, 9, 10, 11, 12, 13, 14, 15, 16], [0, 0, 3, 7, 15, 15, 15, 111, 239, 15, 15, 1039, 3599, 7695, 16383, 32767, 65535], [(8, []), (13, [])]⟩),
  (6, ⟨[0, 1, 2, 3, 4, 5, 6, 7, 8, 9, 10, 11, 12, 13, 14, 15, 16, 17], [0, 0, 0, 0, 8, 0, 0, 64, 224, 480, 0, 0, 3072, 7168, 16355, 32739, 65535, 131071], [(9, []), (13, [])]⟩)]
noncomputable def fi107 : FI := fiOf Tryz.f107 ri107
theorem ok107 : FIok Tryz.prog T 107 fi107 := fiOf_ok Tryz.func107 (by kernel_rfl) (by kernel_rfl) (by kernel_rfl)
def ri108 : List (Nat × RI) := [(10, ⟨[0, 1, 2, 3, 4, 5, 6, 7, 8, 9, 10, 11, 12, 13, 14, 15, 16, 17, 18, 19], [0, 0, 0, 0, 0, 24, 0, 0, 0, 384, 960, 1984, 0, 0, 12288, 28672, 65475, 131011, 262143, 524287], [(11, []), (15, [])]⟩)]
noncomputable def fi108 : FI := fiOf Tryz.f108 ri108
theorem ok108 : FIok Tryz.prog T 108 fi108 := fiOf_ok Tryz.func108 (by kernel_rfl) (by kernel_rfl) (by kernel_rfl)
def ri109 : List (Nat × RI) := [(10, ⟨[0, 1, 2, 3, 4, 5, 6, 7, 8, 9, 10, 11, 12, 13, 14, 15, 16, 17, 18, 19], [0, 0, 0, 0, 0, 24, 0, 0, 0, 384, 960, 1984, 0, 0, 12288, 28672, 65475, 131011, 262143, 524287], [(11, []), (15, [])]⟩)]
noncomputable def fi109 : FI := fiOf Tryz.f109 ri109
theorem ok109 : FIok Tryz.prog T 109 fi109 := fiOf_ok Tryz.func109 (by kernel_rfl) (by kernel_rfl) (by kernel_rfl)
def ri110 : List (Nat × RI) := []
noncomputable def fi110 : FI := fiOf Tryz.f110 ri110
theorem ok110 : FIok Tryz.prog T 110 fi110 := fiOf_ok Tryz.func110 (by kernel_rfl) (by kernel_rfl) (by kernel_rfl)
def ri111 : List (Nat × RI) := [(3, ⟨[0, 1, 2, 3, 4, 5, 6, 7, 8, 9, 10, 11, 12, 13, 14, 15], [0, 0, 0, 0, 0, 0, 48, 112, 0, 0, 768, 1792, 4083, 8179, 16383, 32767], [(7, []), (11, [])]⟩)]
noncomputable def fi111 : FI := fiOf Tryz.f111 ri111
theorem ok111 : FIok Tryz.prog T 111 fi111 := fiOf_ok Tryz.func111 (by kernel_rfl) (by kernel_rfl) (by kernel_rfl)
def ri112 : List (Nat × RI) := [(5, ⟨[0, 1, 2, 3, 4, 5, 6, 7, 8, 9, 10, 11, 12, 13, 14, 15, 16, 17], [0, 0, 3, 7, 15, 15, 15, 111, 239, 15, 15, 1039, 3599, 7695, 16383, 32767, 65535, 131071], [(8, []), (13, [])]⟩),
  (11, ⟨[0, 1, 2, 3, 4, 5, 6, 7, 8, 9, 10, 11, 12, 13, 14, 15, 16, 17], [0, 0, 0, 0, 8, 0, 0, 64, 224, 480, 0, 0, 3072, 7168, 16355, 32739, 65535, 131071], [(9, []), (13, [])]⟩),
  (16, ⟨[0, 1, 2, 3, 4, 5, 6, 7, 8, 9, 10, 11, 12], [0, 0, 0, 6, 14, 0, 0, 64, 224, 480, 1023, 2047, 4095], [(4, []), (9, [])]⟩),
  (17, ⟨[0, 1, 2, 3, 4, 5, 6, 7, 8, 9, 10, 11, 12, 13, 14, 15, 16, 17], [0, 0, 0, 0, 8, 0, 0, 64, 224, 480, 0, 0, 3072, 7168, 16355, 32739, 65535, 131071], [(9, []), (13, [])]⟩),
  (22, ⟨[0, 1, 2, 3, 4, 5, 6, 7, 8, 9, 10, 11, 12], [0, 0, 0, 6, 14, 0, 0, 64, 224, 480, 1023, 2047, 4095], [(4, []), (9, [])]⟩),
  (23, ⟨[0, 1, 2, 3, 4, 5, 6, 7, 8, 9, 10, 11, 12, 13, 14, 15, 16, 17], [0, 0, 0, 0, 8, 0, 0, 64, 224, 480, 0, 0, 3072, 7168, 16355, 32739, 65535, 131071], [(9, []), (13, [])]⟩)]
noncomputable def fi112 : FI := fiOf Tryz.f112 ri112
theorem ok112 : FIok Tryz.prog T 112 fi112 := fiOf_ok Tryz.func112 (by kernel_rfl) (by kernel_rfl) (by kernel_rfl)
def ri113 : List (Nat × RI) := [(1, ⟨[0, 1, 2, 3, 4, 5, 6, 7, 8, 9, 10, 11, 12, 13, 14, 15], [0, 0, 0, 0, 0, 0, 48, 112, 0, 0, 768, 1792, 4083, 8179, 16383, 32767], [(7, []), (11, [])]⟩),
  (3, ⟨[0, 1, 2, 3, 4, 5, 6, 7, 8, 9, 10, 11, 12, 13, 14, 15, 16], [0, 0, 3, 7, 15, 15, 15, 111, 239, 15, 15, 1551, 3599, 8191, 16383, 32767, 65535], [(8, []), (12, [])]⟩),
  (5, ⟨[0, 1, 2, 3, 4, 5, 6, 7, 8, 9, 10, 11, 12, 13, 14, 15], [0, 0, 3, 7, 15, 15, 15, 111, 239, 15, 15, 1551, 3599, 8191, 16383, 32767], [(8, []), (12, [])]⟩),
  (8, ⟨[0, 1, 2, 3, 4, 5, 6, 7, 8, 9, 10, 11, 12, 13, 14, 15], [0, 0, 0, 0, 0, 0, 48, 112, 0, 0, 768, 1792, 4083, 8179, 16383, 32767], [(7, []), (11, [])]⟩)]
noncomputable def fi113 : FI := fiOf Tryz.f113 ri113
theorem ok113 : FIok Tryz.prog T 113 fi113 := fiOf_ok Tryz.func113 (by kernel_rfl) (by kernel_rfl) (by kernel_rfl)
def ri114 : List (Nat × RI) := [(1, ⟨[0, 1, 2, 3, 4, 5, 6, 7, 8, 9, 10, 11, 12, 13, 14, 15], [0, 0, 0, 0, 0, 0, 48, 112, 0, 0, 768, 1792, 4083, 8179, 16383, 32767], [(7, []), (11, [])]⟩),
  (3, ⟨[0, 1, 2, 3, 4, 5, 6, 7, 8, 9, 10, 11, 12, 13, 14, 15], [0, 0, 3, 7, 15, 15, 15, 111, 239, 15, 15, 1551, 3599, 8191, 16383, 32767], [(8, []), (12, [])]⟩),
  (5, ⟨[0, 1, 2, 3, 4, 5, 6, 7, 8, 9, 10, 11, 12, 13, 14, 15, 16], [0, 0, 3, 7, 15, 15, 15, 111, 239, 15, 15, 1551, 3599, 8191, 16383, 32767, 65535], [(8, []), (12, [])]⟩),
  (8, ⟨[0, 1, 2, 3, 4, 5, 6, 7, 8, 9, 10, 11, 12, 13, 14, 15], [0, 0, 0, 0, 0, 0, 48, 112, 0, 0, 768, 1792, 4083, 8179, 16383, 32767], [(7, []), (11, [])]⟩),
  (10, ⟨[0, 1, 2, 3, 4, 5, 6, 7, 8, 9, 10, 11, 12, 13, 14, 15], [0, 0, 0, 0, 0, 0, 48, 112, 0, 0, 768, 1792, 4083, 8179, 16383, 32767], [(7, []), (11, [])]⟩),
  (13, ⟨[0, 1, 2, 3, 4, 5, 6, 7, 8, 9, 10, 11, 12, 13, 14, 15], [0, 0, 3, 7, 15, 15, 15, 111, 239, 15, 15, 1551, 3599, 8191, 16383, 32767], [(8, []), (12, [])]⟩),
  (15, ⟨[0, 1, 2, 3, 4, 5, 6, 7, 8, 9, 10, 11, 12, 13, 14, 15, 16], [0, 0, 3, 7, 15, 15, 15, 111, 239, 15, 15, 1551, 3599, 8191, 16383, 32767, 65535], [(8, []), (12, [])]⟩),
  (18, ⟨[0, 1, 2, 3, 4, 5, 6, 7, 8, 9, 10, 11, 12, 13, 14, 15], [0, 0, 0, 0, 0, 0, 48, 112, 0, 0, 768, 1792, 4083, 8179, 16383, 32767], [(7, []), (11, [])]⟩),
  (21, ⟨[0, 1, 2, 3, 4, 5, 6, 7, 8, 9, 10, 11, 12, 13, 14, 15], [0, 0, 0, 0, 0, 0, 48, 112, 0, 0, 768, 1792, 4083, 8179, 16383, 32767], [(7, []), (11, [])]⟩)]
noncomputable def fi114 : FI := fiOf Tryz.f114 ri114
theorem ok114 : FIok Tryz.prog T 114 fi114 := fiOf_ok Tryz.func114 (by kernel_rfl) (by kernel_rfl) (by kernel_rfl)
def ri115 : List (Nat × RI) := [(3, ⟨[0, 1, 2, 3, 4, 5, 6, 7, 8, 9, 10, 11, 12, 13, 14, 15, 16, 17, 18, 19], [0, 1, 0, 7, 15, 31, 31, 31, 223, 511, 1023, 31, 31, 31, 12319, 28703, 63519, 129055, 262143, 524287], [(10, []), (17, [])]⟩),
  (5, ⟨[0, 1, 2, 3, 4, 5, 6, 7, 8, 9, 10, 11, 12, 13], [0, 0, 0, 6, 15, 31, 0, 0, 0, 384, 960, 1984, 4095, 8191], [(5, []), (11, [])]⟩),
  (6, ⟨[0, 1, 2, 3, 4, 5, 6, 7, 8, 9, 10, 11, 12, 13, 14, 15, 16, 17, 18, 19, 20, 21, 22, 23], [0, 0, 0, 6, 0, 0, 0, 96, 0, 0, 0, 1536, 3840, 7936, 0, 0, 0, 98304, 245760, 507904, 1048335, 2096911, 4194303, 8388607], [(13, []), (19, [])]⟩)]
noncomputable def fi115 : FI := fiOf Tryz.f115 ri115
theorem ok115 : FIok Tryz.prog T 115 fi115 := fiOf_ok Tryz.func115 (by kernel_rfl) (by kernel_rfl) (by kernel_rfl)
def ri116 : List (Nat × RI) := []
noncomputable def fi116 : FI := fiOf Tryz.f116 ri116
theorem ok116 : FIok Tryz.prog T 116 fi116 := fiOf_ok Tryz.func116 (by kernel_rfl) (by kernel_rfl) (by kernel_rfl)
def ri117 : List (Nat × RI) := [(1, ⟨[0, 1, 2, 3, 4, 5, 6, 7, 8, 9], [0, 1, 3, 0, 8, 24, 56, 127, 255, 511], [(2, []), (5, [])]⟩),
  (2, ⟨[0, 1, 2, 3, 4, 5, 6, 7, 8, 9], [0, 1, 3, 0, 8, 24, 56, 127, 255, 511], [(2, []), (5, [])]⟩),
  (3, ⟨[0, 1, 2, 3, 4, 5, 6, 7, 8, 9], [0, 1, 3, 0, 8, 24, 56, 127, 255, 511], [(2, []), (5, [])]⟩)]
noncomputable def fi117 : FI := fiOf Tryz.f117 ri117
theorem ok117 : FIok Tryz.prog T 117 fi117 := fiOf_ok Tryz.func117 (by kernel_rfl) (by kernel_rfl) (by kernel_rfl)
def ri118 : List (Nat × RI) := []
noncomputable def fi118 : FI := fiOf Tryz.f118 ri118
theorem ok118 : FIok Tryz.prog T 118 fi118 := fiOf_ok Tryz.func118 (by kernel_rfl) (by kernel_rfl) (by kernel_rfl)
def ri119 : List (Nat × RI) := []
noncomputable def fi119 : FI := fiOf Tryz.f119 ri119
theorem ok119 : FIok Tryz.prog T 119 fi119 := fiOf_ok Tryz.func119 (by kernel_rfl) (by kernel_rfl) (by kernel_rfl)
def ri120 : List (Nat × RI) := [(3, ⟨[0, 1, 2, 3, 4, 5, 6, 7, 8, 9, 10, 11, 12, 13, 14, 15, 16, 17, 18, 19, 20, 21], [0, 1, 0, 7, 15, 31, 31, 31, 31, 415, 991, 2015, 31, 31, 31, 24607, 57375, 127007, 258079, 524287, 1048575, 2097151], [(11, []), (18, [])]⟩),
  (5, ⟨[0, 1, 2, 3, 4, 5, 6, 7, 8, 9, 10, 11, 12, 13, 14, 15], [0, 0, 0, 0, 12, 30, 62, 0, 0, 0, 768, 1920, 3968, 8191, 16383, 32767], [(6, []), (12, [])]⟩),
  (6, ⟨[0, 1, 2, 3, 4, 5, 6, 7, 8, 9, 10, 11, 12, 13, 14, 15, 16, 17, 18, 19, 20, 21, 22, 23], [0, 0, 0, 6, 0, 0, 0, 96, 0, 0, 0, 1536, 3840, 7936, 0, 0, 0, 98304, 245760, 507904, 1048335, 2096911, 4194303, 8388607], [(13, []), (19, [])]⟩)]
noncomputable def fi120 : FI := fiOf Tryz.f120 ri120
theorem ok120 : FIok Tryz.prog T 120 fi120 := fiOf_ok Tryz.func120 (by kernel_rfl) (by kernel_rfl) (by kernel_rfl)
def ri121 : List (Nat × RI) := []
noncomputable def fi121 : FI := fiOf Tryz.f121 ri121
theorem ok121 : FIok Tryz.prog T 121 fi121 := fiOf_ok Tryz.func121 (by kernel_rfl) (by kernel_rfl) (by kernel_rfl)
def ri122 : List (Nat × RI) := []
noncomputable def fi122 : FI := fiOf Tryz.f122 ri122
theorem ok122 : FIok Tryz.prog T 122 fi122 := fiOf_ok Tryz.func122 (by kernel_rfl) (by kernel_rfl) (by kernel_rfl)
def ri123 : List (Nat × RI) := [(3, ⟨[0, 1, 2, 3, 4, 5, 6, 7, 8, 9, 10, 11, 12, 13, 14, 15, 16, 17, 18, 19, 20, 21], [0, 1, 0, 7, 15, 31, 31, 31, 31, 415, 991, 2015, 31, 31, 31, 24607, 57375, 127007, 258079, 524287, 1048575, 2097151], [(11, []), (18, [])]⟩),
  (5, ⟨[0, 1, 2, 3, 4, 5, 6, 7, 8, 9, 10, 11, 12, 13, 14, 15], [0, 0, 0, 0, 12, 30, 62, 0, 0, 0, 768, 1920, 3968, 8191, 16383, 32767], [(6, []), (12, [])]⟩),
  (6, ⟨[0, 1, 2, 3, 4, 5, 6, 7, 8, 9, 10, 11, 12, 13, 14, 15, 16, 17, 18, 19, 20, 21, 22, 23], [0, 0, 0, 6, 0, 0, 0, 96, 0, 0, 0, 1536, 3840, 7936, 0, 0, 0, 98304, 245760, 507904, 1048335, 2096911, 4194303, 8388607], [(13, []), (19, [])]⟩)]
noncomputable def fi123 : FI := fiOf Tryz.f123 ri123
theorem ok123 : FIok Tryz.prog T 123 fi123 := fiOf_ok Tryz.func123 (by kernel_rfl) (by kernel_rfl) (by kernel_rfl)
def ri124 : List (Nat × RI) := []
noncomputable def fi124 : FI := fiOf Tryz.f124 ri124
theorem ok124 : FIok Tryz.prog T 124 fi124 := fiOf_ok Tryz.func124 (by kernel_rfl) (by kernel_rfl) (by kernel_rfl)
def ri125 : List (Nat × RI) := []
noncomputable def fi125 : FI := fiOf Tryz.f125 ri125
theorem ok125 : FIok Tryz.prog T 125 fi125 := fiOf_ok Tryz.func125 (by kernel_rfl) (by kernel_rfl) (by kernel_rfl)
def ri126 : List (Nat × RI) := [(3, ⟨[0, 1, 2, 3, 4, 5, 6, 7, 8, 9, 10, 11, 12, 13, 14, 15, 16, 17, 18, 19, 20, 21], [0, 1, 0, 7, 15, 31, 31, 31, 31, 415, 991, 2015, 31, 31, 31, 24607, 57375, 127007, 258079, 524287, 1048575, 2097151], [(11, []), (18, [])]⟩),
  (5, ⟨[0, 1, 2, 3, 4, 5, 6, 7, 8, 9, 10, 11, 12, 13, 14, 15], [0, 0, 0, 0, 12, 30, 62, 0, 0, 0, 768, 1920, 3968, 8191, 16383, 32767], [(6, []), (12, [])]⟩),
  (6, ⟨[0, 1, 2, 3, 4, 5, 6, 7, 8, 9, 10, 11, 12, 13, 14, 15, 16, 17, 18, 19, 20, 21, 22, 23], [0, 0, 0, 6, 0, 0, 0, 96, 0, 0, 0, 1536, 3840, 7936, 0, 0, 0, 98304, 245760, 507904, 1048335, 2096911, 4194303, 8388607], [(13, []), (19, [])]⟩)]
noncomputable def fi126 : FI := fiOf Tryz.f126 ri126
theorem ok126 : FIok Tryz.prog T 126 fi126 := fiOf_ok Tryz.func126 (by kernel_rfl) (by kernel_rfl) (by kernel_rfl)
def ri127 : List (Nat × RI) := []
noncomputable def fi127 : FI := fiOf Tryz.f127 ri127
theorem ok127 : FIok Tryz.prog T 127 fi127 := fiOf_ok Tryz.func127 (by kernel_rfl) (by kernel_rfl) (by kernel_rfl)
def ri128 : List (Nat × RI) := []
noncomputable def fi128 : FI := fiOf Tryz.f128 ri128
theorem ok128 : FIok Tryz.prog T 128 fi128 := fiOf_ok Tryz.func128 (by kernel_rfl) (by kernel_rfl) (by kernel_rfl)
def ri129 : List (Nat × RI) := [(1, ⟨[0, 1, 2, 3, 4, 5, 6, 7, 8], [0, 0, 3, 7, 0, 0, 48, 112, 255], [(3, []), (7, [])]⟩)]
noncomputable def fi129 : FI := fiOf Tryz.f129 ri129
theorem ok129 : FIok Tryz.prog T 129 fi129 := fiOf_ok Tryz.func129 (by kernel_rfl) (by kernel_rfl) (by kernel_rfl)
def ri130 : List (Nat × RI) := [(1, ⟨[0, 1, 2, 3, 4, 5, 6, 7, 8, 9, 10], [0, 0, 0, 6, 14, 0, 0, 96, 224, 511, 1023], [(4, []), (8, [])]⟩)]
noncomputable def fi130 : FI := fiOf Tryz.f130 ri130
theorem ok130 : FIok Tryz.prog T 130 fi130 := fiOf_ok Tryz.func130 (by kernel_rfl) (by kernel_rfl) (by kernel_rfl)
def ri131 : List (Nat × RI) := [(1, ⟨[0, 1, 2, 3, 4, 5, 6, 7, 8, 9, 10], [0, 0, 0, 6, 14, 0, 0, 96, 224, 511, 1023], [(4, []), (8, [])]⟩)]
noncomputable def fi131 : FI := fiOf Tryz.f131 ri131
theorem ok131 : FIok Tryz.prog T 131 fi131 := fiOf_ok Tryz.func131 (by kernel_rfl) (by kernel_rfl) (by kernel_rfl)
def ri132 : List (Nat × RI) := [(1, ⟨[0, 1, 2, 3, 4, 5, 6, 7, 8, 9, 10], [0, 0, 0, 6, 14, 0, 0, 96, 224, 511, 1023], [(4, []), (8, [])]⟩)]
noncomputable def fi132 : FI := fiOf Tryz.f132 ri132
theorem ok132 : FIok Tryz.prog T 132 fi132 := fiOf_ok Tryz.func132 (by kernel_rfl) (by kernel_rfl) (by kernel_rfl)
noncomputable def FT : List (Nat × FI) := [(2, fi2), (3, fi3), (4, fi4), (5, fi5), (6, fi6), (7, fi7), (8, fi8), (9, fi9), (10, fi10), (11, fi11), (12, fi12), (13, fi13), (14, fi14), (15, fi15), (16, fi16), (17, fi17), (18, fi18), (19, fi19), (20, fi20), (21, fi21), (22, fi22), (23, fi23), (24, fi24), (25, fi25), (26, fi26), (27, fi27), (28, fi28), (29, fi29), (30, fi30), (31, fi31), (32, fi32), (33, fi33), (34, fi34), (35, fi35), (36, fi36), (37, fi37), (38, fi38), (39, fi39), (40, fi40), (41, fi41), (42, fi42), (43, fi43), (44, fi44), (45, fi45), (46, fi46), (47, fi47), (48, fi48), (49, fi49), (50, fi50), (51, fi51), (52, fi52), (53, fi53), (54, fi54), (55, fi55), (56, fi56), (57, fi57), (58, fi58), (59, fi59), (60, fi60), (61, fi61), (62, fi62), (63, fi63), (64, fi64), (65, fi65), (66, fi66), (67, fi67), (68, fi68), (69, fi69), (70, fi70), (71, fi71), (72, fi72), (73, fi73), (74, fi74), (75, fi75), (76, fi76), (77, fi77), (78, fi78), (79, fi79), (80, fi80), (81, fi81), (82, fi82), (83, fi83), (84, fi84), (85, fi85), (86, fi86), (87, fi87), (88, fi88), (89, fi89), (90, fi90), (91, fi91), (92, fi92), (93, fi93), (94, fi94), (95, fi95), (96, fi96), (97, fi97), (98, fi98), (99, fi99), (100, fi100), (101, fi101), (102, fi102), (103, fi103), (104, fi104), (105, fi105), (106, fi106), (107, fi107), (108, fi108), (109, fi109), (110, fi110), (111, fi111), (112, fi112), (113, fi113), (114, fi114), (115, fi115), (116, fi116), (117, fi117), (118, fi118), (119, fi119), (120, fi120), (121, fi121), (122, fi122), (123, fi123), (124, fi124), (125, fi125), (126, fi126), (127, fi127), (128, fi128), (129, fi129), (130, fi130), (131, fi131), (132, fi132)]

theorem F_ok : ∀ x ∈ FT, FIok Tryz.prog T x.1 x.2 :=
  List.forall_mem_cons.2 ⟨ok2, List.forall_mem_cons.2 ⟨ok3, List.forall_mem_cons.2 ⟨ok4, List.forall_mem_cons.2 ⟨ok5, List.forall_mem_cons.2 ⟨ok6, List.forall_mem_cons.2 ⟨ok7, List.forall_mem_cons.2 ⟨ok8, List.forall_mem_cons.2 ⟨ok9, List.forall_mem_cons.2 ⟨ok10, List.forall_mem_cons.2 ⟨ok11, List.forall_mem_cons.2 ⟨ok12, List.forall_mem_cons.2 ⟨ok13, List.forall_mem_cons.2 ⟨ok14, List.forall_mem_cons.2 ⟨ok15, List.forall_mem_cons.2 ⟨ok16, List.forall_mem_cons.2 ⟨ok17, List.forall_mem_cons.2 ⟨ok18, List.forall_mem_cons.2 ⟨ok19, List.forall_mem_cons.2 ⟨ok20, List.forall_mem_cons.2 ⟨ok21, List.forall_mem_cons.2 ⟨ok22, List.forall_mem_cons.2 ⟨ok23, List.forall_mem_cons.2 ⟨ok24, List.forall_mem_cons.2 ⟨ok25, List.forall_mem_cons.2 ⟨ok26, List.forall_mem_cons.2 ⟨ok27, List.forall_mem_cons.2 ⟨ok28, List.forall_mem_cons.2 ⟨ok29, List.forall_mem_cons.2 ⟨ok30, List.forall_mem_cons.2 ⟨ok31, List.forall_mem_cons.2 ⟨ok32, List.forall_mem_cons.2 ⟨ok33, List.forall_mem_cons.2 ⟨ok34, List.forall_mem_cons.2 ⟨ok35, List.forall_mem_cons.2 ⟨ok36, List.forall_mem_cons.2 ⟨ok37, List.forall_mem_cons.2 ⟨ok38, List.forall_mem_cons.2 ⟨ok39, List.forall_mem_cons.2 ⟨ok40, List.forall_mem_cons.2 ⟨ok41, List.forall_mem_cons.2 ⟨ok42, List.forall_mem_cons.2 ⟨ok43, List.forall_mem_cons.2 ⟨ok44, List.forall_mem_cons.2 ⟨ok45, List.forall_mem_cons.2 ⟨ok46, List.forall_mem_cons.2 ⟨ok47, List.forall_mem_cons.2 ⟨ok48, List.forall_mem_cons.2 ⟨ok49, List.forall_mem_cons.2 ⟨ok50, List.forall_mem_cons.2 ⟨ok51, List.forall_mem_cons.2 ⟨ok52, List.forall_mem_cons.2 ⟨ok53, List.forall_mem_cons.2 ⟨ok54, List.forall_mem_cons.2 ⟨ok55, List.forall_mem_cons.2 ⟨ok56, List.forall_mem_cons.2 ⟨ok57, List.forall_mem_cons.2 ⟨ok58, List.forall_mem_cons.2 ⟨ok59, List.forall_mem_cons.2 ⟨ok60, List.forall_mem_cons.2 ⟨ok61, List.forall_mem_cons.2 ⟨ok62, List.forall_mem_cons.2 ⟨ok63, List.forall_mem_cons.2 ⟨ok64, List.forall_mem_cons.2 ⟨ok65, List.forall_mem_cons.2 ⟨ok66, List.forall_mem_cons.2 ⟨ok67, List.forall_mem_cons.2 ⟨ok68, List.forall_mem_cons.2 ⟨ok69, List.forall_mem_cons.2 ⟨ok70, List.forall_mem_cons.2 ⟨ok71, List.forall_mem_cons.2 ⟨ok72, List.forall_mem_cons.2 ⟨ok73, List.forall_mem_cons.2 ⟨ok74, List.forall_mem_cons.2 ⟨ok75, List.forall_mem_cons.2 ⟨ok76, List.forall_mem_cons.2 ⟨ok77, List.forall_mem_cons.2 ⟨ok78, List.forall_mem_cons.2 ⟨ok79, List.forall_mem_cons.2 ⟨ok80, List.forall_mem_cons.2 ⟨ok81, List.forall_mem_cons.2 ⟨ok82, List.forall_mem_cons.2 ⟨ok83, List.forall_mem_cons.2 ⟨ok84, List.forall_mem_cons.2 ⟨ok85, List.forall_mem_cons.2 ⟨ok86, List.forall_mem_cons.2 ⟨ok87, List.forall_mem_cons.2 ⟨ok88, List.forall_mem_cons.2 ⟨ok89, List.forall_mem_cons.2 ⟨ok90, List.forall_mem_cons.2 ⟨ok91, List.forall_mem_cons.2 ⟨ok92, List.forall_mem_cons.2 ⟨ok93, List.forall_mem_cons.2 ⟨ok94, List.forall_mem_cons.2 ⟨ok95, List.forall_mem_cons.2 ⟨ok96, List.forall_mem_cons.2 ⟨ok97, List.forall_mem_cons.2 ⟨ok98, List.forall_mem_cons.2 ⟨ok99, List.forall_mem_cons.2 ⟨ok100, List.forall_mem_cons.2 ⟨ok101, List.forall_mem_cons.2 ⟨ok102, List.forall_mem_cons.2 ⟨ok103, List.forall_mem_cons.2 ⟨ok104, List.forall_mem_cons.2 ⟨ok105, List.forall_mem_cons.2 ⟨ok106, List.forall_mem_cons.2 ⟨ok107, List.forall_mem_cons.2 ⟨ok108, List.forall_mem_cons.2 ⟨ok109, List.forall_mem_cons.2 ⟨ok110, List.forall_mem_cons.2 ⟨ok111, List.forall_mem_cons.2 ⟨ok112, List.forall_mem_cons.2 ⟨ok113, List.forall_mem_cons.2 ⟨ok114, List.forall_mem_cons.2 ⟨ok115, List.forall_mem_cons.2 ⟨ok116, List.forall_mem_cons.2 ⟨ok117, List.forall_mem_cons.2 ⟨ok118, List.forall_mem_cons.2 ⟨ok119, List.forall_mem_cons.2 ⟨ok120, List.forall_mem_cons.2 ⟨ok121, List.forall_mem_cons.2 ⟨ok122, List.forall_mem_cons.2 ⟨ok123, List.forall_mem_cons.2 ⟨ok124, List.forall_mem_cons.2 ⟨ok125, List.forall_mem_cons.2 ⟨ok126, List.forall_mem_cons.2 ⟨ok127, List.forall_mem_cons.2 ⟨ok128, List.forall_mem_cons.2 ⟨ok129, List.forall_mem_cons.2 ⟨ok130, List.forall_mem_cons.2 ⟨ok131, List.forall_mem_cons.2 ⟨ok132, (by simp)⟩⟩⟩⟩⟩⟩⟩⟩⟩⟩⟩⟩⟩⟩⟩⟩⟩⟩⟩⟩⟩⟩⟩⟩⟩⟩⟩⟩⟩⟩⟩⟩⟩⟩⟩⟩⟩⟩⟩⟩⟩⟩⟩⟩⟩⟩⟩⟩⟩⟩⟩⟩⟩⟩⟩⟩⟩⟩⟩⟩⟩⟩⟩⟩⟩⟩⟩⟩⟩⟩⟩⟩⟩⟩⟩⟩⟩⟩⟩⟩⟩⟩⟩⟩⟩⟩⟩⟩⟩⟩⟩⟩⟩⟩⟩⟩⟩⟩⟩⟩⟩⟩⟩⟩⟩⟩⟩⟩⟩⟩⟩⟩⟩⟩⟩⟩⟩⟩⟩⟩⟩⟩⟩⟩⟩⟩⟩⟩⟩⟩⟩
end Go.Proofs.YtkilagbpemchpaaGreat.Ae
