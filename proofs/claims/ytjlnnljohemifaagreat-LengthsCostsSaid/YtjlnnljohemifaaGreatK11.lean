/-
  Texts put behind each other by a program: A0.
-/
import Derived.Test.YtjlnnljohemifaaGreatK9
import Derived.Test.YtjlnnljohemifaaGreatProg
import Derived.Test.YtjlnnljohemifaaGreatChecked
import Derived.Eval
import Derived.KernelRfl
set_option maxRecDepth 100000
namespace Go.Vc
abbrev mvT (d x : Nat) : Sop := s1 d (.mov (tt x))
abbrev ldT (d x : Nat) : Sop := s1 d (.load1 (tt x))
abbrev nkT (d x : Nat) : Sop := s1 d (.nilCheck (tt x))
abbrev faT (d f x : Nat) : Sop := s1 d (.fieldAddr f (tt x))
abbrev exT (d f x : Nat) : Sop := s1 d (.extract f (tt x))
abbrev iaT (d n x y : Nat) : Sop := s1 d (.indexAddr n (tt x) (tt y))
abbrev mkT (d : Nat) (x : Int) : Sop := s1 d (.mov (ki x))
abbrev stT (d n x y : Nat) : Sop := s1 d (.store n (tt x) (tt y))
abbrev mfT (d : Nat) : Sop := s1 d (.mov (kb false))
abbrev mtT (d : Nat) : Sop := s1 d (.mov (kb true))
abbrev gmT (g : Nat) (w : Bool) (d x : Nat) : Sop := sg g w d (.mov (tt x))
abbrev glT (g : Nat) (w : Bool) (d x : Nat) : Sop := sg g w d (.load1 (tt x))
abbrev gfT (g : Nat) (w : Bool) (d f x : Nat) : Sop := sg g w d (.fieldAddr f (tt x))
abbrev gnT (g : Nat) (w : Bool) (d x : Nat) : Sop := sg g w d (.nilCheck (tt x))
abbrev paT (d x y : Nat) : Sop := s1 d (.pick (tt x) (tt y) (kb false))
abbrev poT (d x y : Nat) : Sop := s1 d (.pick (tt x) (kb true) (tt y))
abbrev loT (d n x : Nat) : Sop := s1 d (.loadN n (tt x))
abbrev caT (f x : Nat) : Iop := .call f [tt x]
abbrev cbT (f x y : Nat) : Iop := .call f [tt x, tt y]
abbrev ceT (f x y z : Nat) : Iop := .call f [tt x, tt y, tt z]
def annS : S → List Ann
  | .reg ops keep => [(keep, (ops.zipIdx.filter fun p => p.1.1).map (·.2), [])]
  | .seq a b => annS a ++ annS b
  | .cond _ a b => annS a ++ annS b
  | .blk _ b => annS b
  | .loop L b => (L, [], []) :: annS b
  | _ => []
def dq (P : Program) (f : Nat) (F : Fn) : Option Fn := decFn P f (annS F.body)
end Go.Vc
namespace Go.Proofs.YtjlnnljohemifaaGreat
open Go Go.Vc
theorem mixed : Tryz.prog.follows .mixedOrders = true := Tryz.checked.mixed
theorem ccT {f : Nat} {an : List Ann} {F : Vc.Fn} (d : decFn Tryz.prog f an = some F) {args : List Value} {H : Hp} {K : Value → Hp → Prop} (h : F.vc Tryz.prog args H K) : CallH Tryz.prog f args H K := callH_of mixed d h
abbrev n_law26_LengthsCosts : Nat := 5
abbrev n_lengths_Lengths : Nat := 14
abbrev n_law26_lengthsAlive : Nat := 15
abbrev n_ref09_Same : Nat := 16
abbrev n_ref26_Lengths : Nat := 17
abbrev n_lengths_Cost : Nat := 18
abbrev n_ref26_Cost : Nat := 19
abbrev n_lengths_Kraft : Nat := 20
abbrev n_ref26_Kraft : Nat := 21
abbrev n_lengths_Least : Nat := 22
abbrev n_ref26_Least : Nat := 23
abbrev n_ref02_Check : Nat := 24
abbrev n_ref26_Right : Nat := 25
abbrev n_gauge_Check : Nat := 51
abbrev n_lengths_fine : Nat := 52
abbrev n_pq_Open : Nat := 53
abbrev n_lengths_joined : Nat := 54
abbrev n_ref26_lightest : Nat := 55
abbrev n_ref26_without : Nat := 56
abbrev n_math_bits_Mul64 : Nat := 57
abbrev n_ref26_can : Nat := 59
abbrev n_ref21_Total : Nat := 60
abbrev n_slices_Clone_int_int : Nat := 61
abbrev n_slices_Sort_int_int : Nat := 62
abbrev n_slices_ContainsFunc_int_int : Nat := 63
abbrev n_lengths_Least_1 : Nat := 64
abbrev n_cmp_Or_int : Nat := 65
abbrev n_cmp_Compare_int64 : Nat := 66
abbrev n_cmp_Compare_uint64 : Nat := 67
abbrev n_pq_Store_NewHeap : Nat := 69
abbrev n_pq_Store_ExtractMin : Nat := 72
abbrev n_names_New : Nat := 76
abbrev n_names_Names_Make : Nat := 77
abbrev n_names_Names_Root : Nat := 78
abbrev n_arena_New : Nat := 95
abbrev n_pq_open : Nat := 96
abbrev n_lengths_joined_1 : Nat := 97
abbrev n_pq_Store_Insert : Nat := 98
abbrev n_ref21_add : Nat := 99
abbrev n_slices_IndexFunc_int_int : Nat := 102
abbrev n_cmp_isNaN_int64 : Nat := 103
abbrev n_cmp_isNaN_uint64 : Nat := 104
abbrev n_pq_Store_Min : Nat := 109
abbrev n_arena_Arena_Give : Nat := 110
abbrev n_names_Names_Last : Nat := 111
abbrev n_names_Names_made : Nat := 112
abbrev n_names_Names_Has : Nat := 113
abbrev n_pq_made_dary_Nest : Nat := 128
abbrev n_dary_New : Nat := 129
abbrev n_gauge_Arity : Nat := 130
abbrev n_pq_made_fibonacci_Nest : Nat := 135
abbrev n_fibonacci_New : Nat := 136
abbrev n_arena_Arena_Take : Nat := 143
abbrev n_pq_Store_first : Nat := 156
abbrev n_pq_Store_entry : Nat := 157
abbrev n_arena_Arena_Live : Nat := 158
abbrev n_cells_New : Nat := 165
abbrev n_sift_New : Nat := 166
abbrev n_ring_New : Nat := 168
abbrev n_fibonacci_fresh : Nat := 169
abbrev n_arena_Arena_pick : Nat := 171
abbrev n_arena_Arena_At : Nat := 178
abbrev n_sift_fine : Nat := 188
abbrev n_dary_Nest_Decrease : Nat := 214
abbrev n_dary_Nest_Delete : Nat := 215
abbrev n_cells_Cells_Entry : Nat := 216
abbrev n_dary_Nest_Extract : Nat := 217
abbrev n_cells_Cells_Has : Nat := 218
abbrev n_cells_Cells_Home : Nat := 219
abbrev n_dary_Nest_Insert : Nat := 220
abbrev n_cells_Cells_Len : Nat := 221
abbrev n_dary_Nest_Make : Nat := 222
abbrev n_dary_Nest_Min : Nat := 224
abbrev n_cells_Cells_Lower : Nat := 226
abbrev n_sift_Row_Raise : Nat := 227
abbrev n_cells_Cells_in : Nat := 228
abbrev n_sift_Row_Remove : Nat := 229
abbrev n_cells_Cells_Drop : Nat := 230
abbrev n_cells_Cells_Put : Nat := 231
abbrev n_sift_Row_Add : Nat := 232
abbrev n_cells_Cells_Make : Nat := 233
abbrev n_sift_Row_At : Nat := 234
abbrev n_entry_Less : Nat := 235
abbrev n_sift_Row_up : Nat := 236
abbrev n_cells_Cells_there : Nat := 237
abbrev n_sift_Row_down : Nat := 238
abbrev n_entry_Compare : Nat := 239
abbrev n_sift_Parent : Nat := 240
abbrev n_sift_Row_set : Nat := 241
abbrev n_sift_Row_first : Nat := 242
abbrev n_sift_Child : Nat := 243
abbrev n_cells_Cells_Ahead : Nat := 244
abbrev n_gauge_Meter_Count : Nat := 252
abbrev n_fibonacci_Nest_Decrease : Nat := 285
abbrev n_fibonacci_Nest_Extract : Nat := 287
abbrev n_fibonacci_Nest_Insert : Nat := 288
abbrev n_fibonacci_Nest_Make : Nat := 289
abbrev n_fibonacci_Nest_Min : Nat := 291
abbrev n_fibonacci_Nest_loosen : Nat := 292
abbrev n_fibonacci_Nest_raise : Nat := 293
abbrev n_ring_Rings_All : Nat := 294
abbrev n_ring_Rings_Part : Nat := 295
abbrev n_fibonacci_Nest_tidy : Nat := 296
abbrev n_fibonacci_Nest_root : Nat := 297
abbrev n_fibonacci_Nest_off : Nat := 298
abbrev n_fibonacci_Nest_cascade : Nat := 299
abbrev n_ring_Rings_Splice : Nat := 300
abbrev n_ring_Rings_has : Nat := 301
abbrev n_fibonacci_Nest_under : Nat := 302
abbrev n_ring_Rings_Next : Nat := 303
def s_law26_LengthsCosts : Vc.Fn := ⟨2, [(.tmp 4)],
  (.seq (.reg [mfT 4] [0, 1]) (.seq (.seq (.reg [s1 9 (.call 15 []), s1 10 (.un .not (tt 9))] [0, 1, 10]) (.cond (tt 10) (.seq (.reg [mfT 4] [4]) .ret) .skip)) (.seq (.seq (.reg [mvT 11 0, s1 12 (.lenS (tt 11)), s1 13 (.bin .gtr .int (tt 12) (ki 40)), mvT 14 13, gmT 14 false 15 1, sg 14 false 16 (.lenS (tt 15)), sg 14 false 17 (.bin .gtr .int (tt 16) (ki 40)), poT 18 14 17] [0, 1, 18]) (.cond (tt 18) (.seq (.reg [mtT 4] [4]) .ret) .skip)) (.seq (.reg [mvT 20 0, mvT 21 1, s1 22 (cbT 18 20 21), mvT 19 22, exT 23 0 19, exT 24 1 19, s1 5 (.zero 36 [(.int .i64 0), (.int .u64 0)]), s0 (.store 2 (tt 5) (tt 23)), mvT 6 24] [0, 1, 5, 6]) (.seq (.reg [mvT 26 0, mvT 27 1, s1 28 (cbT 19 26 27), mvT 25 28, exT 29 0 25, exT 30 1 25, s1 7 (.zero 39 [(.int .i64 0), (.int .u64 0)]), s0 (.store 2 (tt 7) (tt 29)), mvT 8 30] [0, 1, 5, 6, 7, 8]) (.seq (.reg [mvT 31 6, mvT 32 8, s1 33 (.bin .eql .bool (tt 31) (tt 32)), mvT 34 33, gfT 34 true 35 0 5, glT 34 true 36 35, gfT 34 true 37 0 7, glT 34 true 38 37, sg 34 true 39 (.bin .eql .int (tt 36) (tt 38)), paT 40 34 39, mvT 41 40, gfT 41 true 42 1 5, glT 41 true 43 42, gfT 41 true 44 1 7, glT 41 true 45 44, sg 41 true 46 (.bin .eql .int (tt 43) (tt 45)), paT 47 41 46, mvT 48 47, gmT 48 true 49 1, sg 48 true 50 (caT 20 49), gmT 48 true 51 1, sg 48 true 52 (caT 21 51), sg 48 true 53 (.bin .eql .int (tt 50) (tt 52)), paT 54 48 53, mvT 55 54, gmT 55 true 56 0, gmT 55 true 57 1, sg 55 true 58 (cbT 22 56 57), gmT 55 true 59 0, gmT 55 true 60 1, sg 55 true 61 (cbT 23 59 60), sg 55 true 62 (.bin .eql .bool (tt 58) (tt 61)), paT 63 55 62, mvT 4 63] [4]) .ret))))))⟩
theorem d_law26_LengthsCosts : dq Tryz.prog 5 s_law26_LengthsCosts = some s_law26_LengthsCosts := by kernel_rfl
def s_lengths_Lengths : Vc.Fn := ⟨2, [(.tmp 4), (.tmp 5)],
  (.seq (.reg [s1 2 (.box 23 (tt 0)), s1 4 (.mov (.const (.slice none 0 0))), mkT 5 0] [1, 2]) (.seq (.seq (.reg [loT 13 2 2, s1 14 (caT 51 13), mvT 6 14] [1, 2, 6]) (.seq (.reg [mvT 15 6, s1 16 (.bin .neq .int (tt 15) (ki 0))] [1, 2, 6, 16]) (.cond (tt 16) (.seq (.reg [mvT 17 6, s1 4 (.mov (.const (.slice none 0 0))), mvT 5 17] [4, 5]) .ret) .skip))) (.seq (.seq (.reg [mvT 18 1, s1 19 (caT 52 18), s1 20 (.un .not (tt 19))] [1, 2, 20]) (.cond (tt 20) (.seq (.reg [s1 4 (.mov (.const (.slice none 0 0))), mkT 5 201] [4, 5]) .ret) .skip)) (.seq (.reg [mvT 21 1, s1 22 (.lenS (tt 21)), mvT 7 22] [1, 2, 7]) (.seq (.seq (.reg [mvT 23 7, s1 24 (.bin .eql .int (tt 23) (ki 1))] [1, 2, 7, 24]) (.cond (tt 24) (.seq (.reg [s1 25 (.lit 3 1 [(.int .i64 0)] [(0, (1, (ki 1)))]), mvT 4 25, mkT 5 0] [4, 5]) .ret) .skip)) (.seq (.reg [loT 27 2 2, mvT 28 7, s1 29 (.call 53 [(tt 27), (tt 28), (.const (.int .u32 4294967295))]), mvT 26 29, exT 30 0 26, exT 31 1 26, mvT 8 30, mvT 9 31] [1, 7, 8, 9]) (.seq (.seq (.reg [mvT 32 9, s1 33 (.bin .neq .int (tt 32) (ki 0))] [1, 7, 8, 9, 33]) (.cond (tt 33) (.seq (.reg [mvT 34 9, s1 4 (.mov (.const (.slice none 0 0))), mvT 5 34] [4, 5]) .ret) .skip)) (.seq (.reg [mvT 35 8, mvT 36 1, s1 37 (cbT 54 35 36), mvT 10 37] [7, 10]) (.seq (.reg [mvT 38 10, s1 39 (.lenS (tt 38)), s1 40 (.makeSlice 3 8 1 [(.int .i64 0)] (tt 39) (tt 39)), mvT 11 40] [7, 10, 11]) (.seq (.seq (.reg [mvT 41 10, s1 42 (.lenS (tt 41)), s1 43 (.bin .sub .int (tt 42) (ki 2)), mvT 12 43] [7, 10, 11, 12]) (.blk 0 (.loop [7, 10, 11, 12] (.seq (.seq (.reg [mvT 44 12, s1 45 (.bin .geq .int (tt 44) (ki 0))] [7, 10, 11, 12, 45]) (.cond (tt 45) .skip (.exit 0))) (.seq (.blk 1 (.reg [mvT 48 11, mvT 49 12, mvT 50 11, mvT 51 10, mvT 52 12, iaT 53 1 51 52, ldT 54 53, iaT 55 1 50 54, ldT 56 55, s1 57 (.bin .add .int (tt 56) (ki 1)), iaT 58 1 48 49, s0 (.store 1 (tt 58) (tt 57))] [7, 10, 11, 12])) (.reg [mvT 46 12, s1 47 (.bin .sub .int (tt 46) (ki 1)), mvT 12 47] [7, 10, 11, 12])))))) (.seq (.reg [mvT 59 11, mvT 60 7, mvT 61 7, s1 62 (.slice 1 (tt 59) none (some (tt 60)) (some (tt 61))), mvT 4 62, mkT 5 0] [4, 5]) .ret)))))))))))⟩
theorem d_lengths_Lengths : dq Tryz.prog 14 s_lengths_Lengths = some s_lengths_Lengths := by kernel_rfl
def s_law26_lengthsAlive : Vc.Fn := ⟨0, [(.tmp 0)],
  (.seq (.reg [mfT 0] []) (.seq (.reg [s1 4 (.build [(.int .i64 0), (.int .i64 0)] [(0, (1, (ki 5)))]), s1 5 (.lit 2 3 [(.int .i64 0), (.int .i64 0), (.int .i64 0)] [(0, (1, (ki 1))), (1, (1, (ki 1))), (2, (1, (ki 2)))]), s1 6 (cbT 14 4 5), mvT 3 6, exT 7 0 3, exT 8 1 3, mvT 1 7, mvT 2 8] [1, 2]) (.seq (.reg [mvT 9 2, s1 10 (.bin .eql .int (tt 9) (ki 0)), mvT 11 10, gmT 11 true 12 1, sg 11 true 13 (.lit 3 3 [(.int .i64 0), (.int .i64 0), (.int .i64 0)] [(0, (1, (ki 2))), (1, (1, (ki 2))), (2, (1, (ki 1)))]), sg 11 true 14 (cbT 16 12 13), paT 15 11 14, mvT 16 15, gmT 16 true 17 1, sg 16 true 18 (caT 20 17), sg 16 true 19 (.bin .eql .int (tt 18) (ki 0)), paT 20 16 19, mvT 21 20, sg 21 true 22 (.lit 2 3 [(.int .i64 0), (.int .i64 0), (.int .i64 0)] [(0, (1, (ki 1))), (1, (1, (ki 1))), (2, (1, (ki 2)))]), gmT 21 true 23 1, sg 21 true 24 (cbT 22 22 23), paT 25 21 24, mvT 0 25] [0]) .ret)))⟩
theorem d_law26_lengthsAlive : dq Tryz.prog 15 s_law26_lengthsAlive = some s_law26_lengthsAlive := by kernel_rfl
def s_ref09_Same : Vc.Fn := ⟨2, [(.tmp 4)],
  (.seq (.reg [mfT 4] [0, 1]) (.seq (.seq (.reg [mvT 6 0, s1 7 (.lenS (tt 6)), mvT 8 1, s1 9 (.lenS (tt 8)), s1 10 (.bin .neq .int (tt 7) (tt 9))] [0, 1, 10]) (.cond (tt 10) (.seq (.reg [mfT 4] [4]) .ret) .skip)) (.seq (.seq (.reg [mvT 11 0, s1 12 (.lenS (tt 11)), mkT 13 0] [0, 1, 12, 13]) (.blk 0 (.loop [0, 1, 12, 13] (.seq (.reg [s1 14 (.bin .lss .int (tt 13) (tt 12))] [0, 1, 12, 13, 14]) (.seq (.cond (tt 14) .skip (.exit 0)) (.seq (.blk 1 (.seq (.reg [mvT 15 13, mvT 5 15] [0, 1, 5, 12, 13]) (.seq (.reg [mvT 16 0, mvT 17 5, iaT 18 1 16 17, ldT 19 18, mvT 20 1, mvT 21 5, iaT 22 1 20 21, ldT 23 22, s1 24 (.bin .neq .int (tt 19) (tt 23))] [0, 1, 12, 13, 24]) (.cond (tt 24) (.seq (.reg [mfT 4] [4]) .ret) .skip)))) (.reg [s1 25 (.bin .add .int (tt 13) (ki 1)), mvT 13 25] [0, 1, 12, 13]))))))) (.seq (.reg [mtT 4] [4]) .ret))))⟩
theorem d_ref09_Same : dq Tryz.prog 16 s_ref09_Same = some s_ref09_Same := by kernel_rfl
def s_ref26_Lengths : Vc.Fn := ⟨2, [(.tmp 4), (.tmp 5)],
  (.seq (.reg [s1 2 (.box 23 (tt 0)), s1 4 (.mov (.const (.slice none 0 0))), mkT 5 0] [1, 2]) (.seq (.seq (.reg [loT 18 2 2, s1 19 (caT 24 18), mvT 6 19] [1, 6]) (.seq (.reg [mvT 20 6, s1 21 (.bin .neq .int (tt 20) (ki 0))] [1, 6, 21]) (.cond (tt 21) (.seq (.reg [mvT 22 6, s1 4 (.mov (.const (.slice none 0 0))), mvT 5 22] [4, 5]) .ret) .skip))) (.seq (.seq (.reg [mvT 23 1, s1 24 (caT 25 23), s1 25 (.un .not (tt 24))] [1, 25]) (.cond (tt 25) (.seq (.reg [s1 4 (.mov (.const (.slice none 0 0))), mkT 5 201] [4, 5]) .ret) .skip)) (.seq (.seq (.reg [mvT 26 1, s1 27 (.lenS (tt 26)), s1 28 (.bin .eql .int (tt 27) (ki 1))] [1, 28]) (.cond (tt 28) (.seq (.reg [s1 29 (.lit 3 1 [(.int .i64 0)] [(0, (1, (ki 1)))]), mvT 4 29, mkT 5 0] [4, 5]) .ret) .skip)) (.seq (.reg [mvT 30 1, s1 31 (.lenS (tt 30)), s1 32 (.makeSlice 3 8 1 [(.int .i64 0)] (tt 31) (tt 31)), mvT 7 32] [1, 7]) (.seq (.reg [s1 33 (.lit 88 0 [] []), mvT 8 33] [1, 7, 8]) (.seq (.seq (.reg [mvT 34 1, s1 35 (.lenS (tt 34)), mkT 36 0] [7, 8, 34, 35, 36]) (.blk 0 (.loop [7, 8, 34, 35, 36] (.seq (.reg [s1 37 (.bin .lss .int (tt 36) (tt 35))] [7, 8, 34, 35, 36, 37]) (.seq (.cond (tt 37) .skip (.exit 0)) (.seq (.blk 1 (.seq (.reg [mvT 38 36, iaT 39 1 34 36, ldT 40 39, mvT 9 38, mvT 10 40] [7, 8, 9, 10, 34, 35, 36]) (.reg [mvT 41 8, mvT 42 10, mvT 43 9, s1 44 (.lit 3 1 [(.int .i64 0)] [(0, (1, (tt 43)))]), s1 45 (.build [(.int .i64 0), (.slice none 0 0)] [(0, (1, (tt 42))), (1, (1, (tt 44)))]), s1 46 (.lit 88 1 [(.int .i64 0), (.slice none 0 0)] [(0, (2, (tt 45)))]), s1 47 (.append 88 2 32 [(.int .i64 0), (.slice none 0 0)] (tt 41) (tt 46)), mvT 8 47] [7, 8, 34, 35, 36]))) (.reg [s1 48 (.bin .add .int (tt 36) (ki 1)), mvT 36 48] [7, 8, 34, 35, 36]))))))) (.seq (.blk 2 (.loop [7, 8] (.seq (.seq (.reg [mvT 49 8, s1 50 (.lenS (tt 49)), s1 51 (.bin .gtr .int (tt 50) (ki 1))] [7, 8, 51]) (.cond (tt 51) .skip (.exit 2))) (.blk 3 (.seq (.reg [mvT 52 8, s1 53 (caT 55 52), mvT 11 53] [7, 8, 11]) (.seq (.reg [mvT 54 8, mvT 55 11, iaT 56 2 54 55, loT 57 2 56, s1 12 (.zero 88 [(.int .i64 0), (.slice none 0 0)]), s0 (.store 2 (tt 12) (tt 57))] [7, 8, 11, 12]) (.seq (.reg [mvT 58 8, mvT 59 11, s1 60 (cbT 56 58 59), mvT 8 60] [7, 8, 12]) (.seq (.reg [mvT 61 8, s1 62 (caT 55 61), mvT 13 62] [7, 8, 12, 13]) (.seq (.reg [mvT 63 8, mvT 64 13, iaT 65 2 63 64, loT 66 2 65, s1 14 (.zero 88 [(.int .i64 0), (.slice none 0 0)]), s0 (.store 2 (tt 14) (tt 66))] [7, 8, 12, 13, 14]) (.seq (.reg [mvT 67 8, mvT 68 13, s1 69 (cbT 56 67 68), mvT 8 69] [7, 8, 12, 14]) (cutS (.regT (.pur (faT 70 0 12) (.stb (sq 71 (.load1 (tt 70))) (.pur (faT 72 0 14) (.stb (sq 73 (.load1 (tt 72))) (.pur (s1 74 (.bin .add .int (tt 71) (tt 73))) (.pur (faT 76 1 12) (.stb (sq 77 (.load1 (tt 76))) (.pur (faT 79 1 14) (.stb (sq 80 (.load1 (tt 79))) (.fork (s1 75 (.lit 3 0 [] [])) (.fork (s1 78 (.append 3 1 8 [(.int .i64 0)] (tt 75) (tt 77))) (.fork (s1 81 (.append 3 1 8 [(.int .i64 0)] (tt 78) (tt 80))) (.pur (s1 82 (.build [(.int .i64 0), (.slice none 0 0)] [(0, (1, (tt 74))), (1, (1, (tt 81)))])) (.fork (s1 15 (.zero 88 [(.int .i64 0), (.slice none 0 0)])) (.fork (s0 (.store 2 (tt 15) (tt 82))) .done .stop) .stop)) (.fork (s1 15 (.zero 88 [(.int .i64 0), (.slice none 0 0)])) (.fork (s1 81 (.append 3 1 8 [(.int .i64 0)] (tt 78) (tt 80))) (.pur (s1 82 (.build [(.int .i64 0), (.slice none 0 0)] [(0, (1, (tt 74))), (1, (1, (tt 81)))])) (.fork (s0 (.store 2 (tt 15) (tt 82))) .done .stop)) .stop) .stop)) (.fork (s1 15 (.zero 88 [(.int .i64 0), (.slice none 0 0)])) (.fork (s1 78 (.append 3 1 8 [(.int .i64 0)] (tt 75) (tt 77))) (.fork (s1 81 (.append 3 1 8 [(.int .i64 0)] (tt 78) (tt 80))) (.pur (s1 82 (.build [(.int .i64 0), (.slice none 0 0)] [(0, (1, (tt 74))), (1, (1, (tt 81)))])) (.fork (s0 (.store 2 (tt 15) (tt 82))) .done .stop)) .stop) .stop) .stop)) (.fork (s1 15 (.zero 88 [(.int .i64 0), (.slice none 0 0)])) (.fork (s1 75 (.lit 3 0 [] [])) (.fork (s1 78 (.append 3 1 8 [(.int .i64 0)] (tt 75) (tt 77))) (.fork (s1 81 (.append 3 1 8 [(.int .i64 0)] (tt 78) (tt 80))) (.pur (s1 82 (.build [(.int .i64 0), (.slice none 0 0)] [(0, (1, (tt 74))), (1, (1, (tt 81)))])) (.fork (s0 (.store 2 (tt 15) (tt 82))) .done .stop)) .stop) .stop) .stop) .stop))))))))))) [7, 8, 15]) (.seq (.seq (.reg [faT 83 1 15, ldT 84 83, s1 85 (.lenS (tt 84)), mkT 86 0] [7, 8, 15, 84, 85, 86]) (.blk 4 (.loop [7, 8, 15, 84, 85, 86] (.seq (.reg [s1 87 (.bin .lss .int (tt 86) (tt 85))] [7, 8, 15, 84, 85, 86, 87]) (.seq (.cond (tt 87) .skip (.exit 4)) (.seq (.blk 5 (.seq (.reg [iaT 88 1 84 86, ldT 89 88, mvT 17 89] [7, 8, 15, 17, 84, 85, 86]) (.reg [mvT 90 7, mvT 91 17, iaT 92 1 90 91, ldT 93 92, s1 94 (.bin .add .int (tt 93) (ki 1)), iaT 95 1 90 91, s0 (.store 1 (tt 95) (tt 94))] [7, 8, 15, 84, 85, 86]))) (.reg [s1 96 (.bin .add .int (tt 86) (ki 1)), mvT 86 96] [7, 8, 15, 84, 85, 86]))))))) (.reg [mvT 97 8, loT 98 2 15, s1 99 (.lit 88 1 [(.int .i64 0), (.slice none 0 0)] [(0, (2, (tt 98)))]), s1 100 (.append 88 2 32 [(.int .i64 0), (.slice none 0 0)] (tt 97) (tt 99)), mvT 8 100] [7, 8]))))))))))))) (.seq (.reg [mvT 101 7, mvT 4 101, mkT 5 0] [4, 5]) .ret)))))))))⟩
theorem d_ref26_Lengths : decFn Tryz.prog 17 [([1, 2], [], []), ([1, 6], [], []), ([1, 6, 21], [], []), ([4, 5], [], []), ([1, 25], [], []), ([4, 5], [], []), ([1, 28], [], []), ([4, 5], [], []), ([1, 7], [], []), ([1, 7, 8], [], []), ([7, 8, 34, 35, 36], [], []), ([7, 8, 34, 35, 36], [], []), ([7, 8, 34, 35, 36, 37], [], []), ([7, 8, 9, 10, 34, 35, 36], [], []), ([7, 8, 34, 35, 36], [], []), ([7, 8, 34, 35, 36], [], []), ([7, 8], [], []), ([7, 8, 51], [], []), ([7, 8, 11], [], []), ([7, 8, 11, 12], [], []), ([7, 8, 12], [], []), ([7, 8, 12, 13], [], []), ([7, 8, 12, 13, 14], [], []), ([7, 8, 12, 14], [], []), ([7, 8, 15], [1, 3, 7, 10], [1, 0, 1, 1, 1, 2, 1, 3, 1, 4, 1, 6, 1, 7, 1, 9, 1, 10, 2, 5, 2, 8, 2, 11, 1, 12, 2, 13, 2, 14, 0, 3, 3, 2, 13, 2, 11, 1, 12, 2, 14, 0, 3, 3, 3, 2, 13, 2, 8, 2, 11, 1, 12, 2, 14, 0, 3, 3, 3, 3, 2, 13, 2, 5, 2, 8, 2, 11, 1, 12, 2, 14, 0, 3, 3, 3, 3, 3]), ([7, 8, 15, 84, 85, 86], [], []), ([7, 8, 15, 84, 85, 86], [], []), ([7, 8, 15, 84, 85, 86, 87], [], []), ([7, 8, 15, 17, 84, 85, 86], [], []), ([7, 8, 15, 84, 85, 86], [], []), ([7, 8, 15, 84, 85, 86], [], []), ([7, 8], [], []), ([4, 5], [], [])] = some s_ref26_Lengths := by kernel_rfl
def s_lengths_Cost : Vc.Fn := ⟨2, [(.agg 4 2), (.tmp 5)],
  (.seq (.reg [s1 4 (.zero 36 [(.int .i64 0), (.int .u64 0)]), mfT 5] [0, 1, 4]) (.seq (.seq (.reg [mvT 13 0, s1 14 (.lenS (tt 13)), mvT 15 1, s1 16 (.lenS (tt 15)), s1 17 (.bin .neq .int (tt 14) (tt 16)), mvT 18 17, gmT 18 false 19 0, sg 18 false 20 (.lenS (tt 19)), sg 18 false 21 (.bin .gtr .int (tt 20) (ki 4096)), poT 22 18 21] [0, 1, 4, 22]) (.cond (tt 22) (.seq (.reg [s1 23 (.build [(.int .i64 0), (.int .u64 0)] []), s0 (.store 2 (tt 4) (tt 23)), mfT 5] [4, 5]) .ret) .skip)) (.seq (.reg [s1 6 (.zero 36 [(.int .i64 0), (.int .u64 0)])] [0, 1, 4, 6]) (.seq (.seq (.reg [mvT 24 0, s1 25 (.lenS (tt 24)), mkT 26 0] [1, 4, 6, 24, 25, 26]) (.blk 0 (.loop [1, 4, 6, 24, 25, 26] (.seq (.reg [s1 27 (.bin .lss .int (tt 26) (tt 25))] [1, 4, 6, 24, 25, 26, 27]) (.seq (.cond (tt 27) .skip (.exit 0)) (.seq (.blk 1 (.seq (.reg [mvT 28 26, iaT 29 1 24 26, ldT 30 29, mvT 7 28, mvT 8 30] [1, 4, 6, 7, 8, 24, 25, 26]) (.seq (.seq (.reg [mvT 31 8, s1 32 (.bin .lss .int (tt 31) (ki 1)), mvT 33 32, gmT 33 false 34 1, gmT 33 false 35 7, sg 33 false 36 (.indexAddr 1 (tt 34) (tt 35)), glT 33 false 37 36, sg 33 false 38 (.bin .lss .int (tt 37) (ki 0)), poT 39 33 38, mvT 40 39, gmT 40 false 41 1, gmT 40 false 42 7, sg 40 false 43 (.indexAddr 1 (tt 41) (tt 42)), glT 40 false 44 43, sg 40 false 45 (.bin .gtr .int (tt 44) (ki 4096)), poT 46 40 45] [1, 4, 6, 7, 8, 24, 25, 26, 46]) (.cond (tt 46) (.seq (.reg [s1 47 (.build [(.int .i64 0), (.int .u64 0)] []), s0 (.store 2 (tt 4) (tt 47)), mfT 5] [4, 5]) .ret) .skip)) (.seq (.reg [mvT 49 8, s1 50 (.conv .u64 (tt 49)), mvT 51 1, mvT 52 7, iaT 53 1 51 52, ldT 54 53, s1 55 (.conv .u64 (tt 54)), s1 56 (cbT 57 50 55), mvT 48 56, exT 57 0 48, exT 58 1 48, mvT 9 57, mvT 10 58] [1, 4, 6, 9, 10, 24, 25, 26]) (.seq (.reg [faT 60 1 6, ldT 61 60, mvT 62 10, s1 63 (.ext 58 [(tt 61), (tt 62), (.const (.int .u64 0))]), mvT 59 63, exT 64 0 59, exT 65 1 59, mvT 11 64, mvT 12 65] [1, 4, 6, 9, 11, 12, 24, 25, 26]) (.reg [faT 66 0 6, ldT 67 66, mvT 68 9, mvT 69 12, s1 70 (.bin .add .int (tt 68) (tt 69)), s1 71 (.conv .i64 (tt 70)), s1 72 (.bin .add .int (tt 67) (tt 71)), mvT 73 11, s1 74 (.build [(.int .i64 0), (.int .u64 0)] [(0, (1, (tt 72))), (1, (1, (tt 73)))]), s0 (.store 2 (tt 6) (tt 74))] [1, 4, 6, 24, 25, 26])))))) (.reg [s1 75 (.bin .add .int (tt 26) (ki 1)), mvT 26 75] [1, 4, 6, 24, 25, 26]))))))) (.seq (.reg [loT 76 2 6, s0 (.store 2 (tt 4) (tt 76)), mtT 5] [4, 5]) .ret)))))⟩
theorem d_lengths_Cost : dq Tryz.prog 18 s_lengths_Cost = some s_lengths_Cost := by kernel_rfl
def s_ref26_Cost : Vc.Fn := ⟨2, [(.agg 4 2), (.tmp 5)],
  (.seq (.reg [s1 4 (.zero 39 [(.int .i64 0), (.int .u64 0)]), mfT 5] [0, 1, 4]) (.seq (.seq (.reg [mvT 10 0, mvT 11 1, s1 12 (cbT 59 10 11), s1 13 (.un .not (tt 12))] [0, 1, 4, 13]) (.cond (tt 13) (.seq (.reg [s1 14 (.build [(.int .i64 0), (.int .u64 0)] []), s0 (.store 2 (tt 4) (tt 14)), mfT 5] [4, 5]) .ret) .skip)) (.seq (.reg [s1 15 (.lit 2 0 [] []), mvT 6 15] [0, 1, 4, 6]) (.seq (.seq (.reg [mvT 16 0, s1 17 (.lenS (tt 16)), mkT 18 0] [1, 4, 6, 16, 17, 18]) (.blk 0 (.loop [1, 4, 6, 16, 17, 18] (.seq (.reg [s1 19 (.bin .lss .int (tt 18) (tt 17))] [1, 4, 6, 16, 17, 18, 19]) (.seq (.cond (tt 19) .skip (.exit 0)) (.seq (.blk 1 (.seq (.reg [mvT 20 18, iaT 21 1 16 18, ldT 22 21, mvT 7 20, mvT 8 22] [1, 4, 6, 7, 8, 16, 17, 18]) (.seq (.reg [mkT 9 0] [1, 4, 6, 7, 8, 9, 16, 17, 18]) (.blk 2 (.loop [1, 4, 6, 7, 8, 9, 16, 17, 18] (.seq (.seq (.reg [mvT 23 9, mvT 24 1, mvT 25 7, iaT 26 1 24 25, ldT 27 26, s1 28 (.bin .lss .int (tt 23) (tt 27))] [1, 4, 6, 7, 8, 9, 16, 17, 18, 28]) (.cond (tt 28) .skip (.exit 2))) (.seq (.blk 3 (.reg [mvT 31 6, mvT 32 8, s1 33 (.lit 2 1 [(.int .i64 0)] [(0, (1, (tt 32)))]), s1 34 (.append 2 1 8 [(.int .i64 0)] (tt 31) (tt 33)), mvT 6 34] [1, 4, 6, 7, 8, 9, 16, 17, 18])) (.reg [mvT 29 9, s1 30 (.bin .add .int (tt 29) (ki 1)), mvT 9 30] [1, 4, 6, 7, 8, 9, 16, 17, 18])))))))) (.reg [s1 35 (.bin .add .int (tt 18) (ki 1)), mvT 18 35] [1, 4, 6, 16, 17, 18]))))))) (.seq (.reg [mvT 36 6, s1 37 (caT 60 36), s0 (.store 2 (tt 4) (tt 37)), mtT 5] [4, 5]) .ret)))))⟩
theorem d_ref26_Cost : dq Tryz.prog 19 s_ref26_Cost = some s_ref26_Cost := by kernel_rfl
def s_lengths_Kraft : Vc.Fn := ⟨1, [(.tmp 2)],
  (.seq (.reg [mkT 2 0] [0]) (.seq (.reg [mvT 9 0, s1 10 (caT 61 9), mvT 3 10] [3]) (.seq (.seq (.reg [mvT 11 3, s1 12 (.lenS (tt 11)), mkT 13 0] [3, 12, 13]) (.blk 0 (.loop [3, 12, 13] (.seq (.reg [s1 14 (.bin .lss .int (tt 13) (tt 12))] [3, 12, 13, 14]) (.seq (.cond (tt 14) .skip (.exit 0)) (.seq (.blk 1 (.seq (.reg [mvT 15 13, mvT 4 15] [3, 4, 12, 13]) (.reg [mvT 16 3, mvT 17 4, mvT 18 3, mvT 19 4, iaT 20 1 18 19, ldT 21 20, s1 22 (.maxI [(tt 21), (ki 1)]), iaT 23 1 16 17, s0 (.store 1 (tt 23) (tt 22))] [3, 12, 13]))) (.reg [s1 24 (.bin .add .int (tt 13) (ki 1)), mvT 13 24] [3, 12, 13]))))))) (.seq (.reg [mvT 25 3, s1 26 (caT 62 25)] [3]) (.seq (.reg [mkT 5 1, mkT 6 0] [3, 5, 6]) (.seq (.seq (.reg [mvT 27 3, s1 28 (.lenS (tt 27)), mkT 29 0] [3, 5, 6, 27, 28, 29]) (.blk 2 (.loop [3, 5, 6, 27, 28, 29] (.seq (.reg [s1 30 (.bin .lss .int (tt 29) (tt 28))] [3, 5, 6, 27, 28, 29, 30]) (.seq (.cond (tt 30) .skip (.exit 2)) (.seq (.blk 3 (.seq (.reg [iaT 31 1 27 29, ldT 32 31, mvT 8 32] [3, 5, 6, 8, 27, 28, 29]) (.seq (.blk 4 (.loop [3, 5, 6, 8, 27, 28, 29] (.seq (.seq (.reg [mvT 33 6, mvT 34 8, s1 35 (.bin .lss .int (tt 33) (tt 34)), mvT 36 35, gmT 36 true 37 5, sg 36 true 38 (.bin .gtr .int (tt 37) (ki 0)), paT 39 36 38, mvT 40 39, gmT 40 true 41 5, gmT 40 true 42 3, sg 40 true 43 (.lenS (tt 42)), sg 40 true 44 (.bin .leq .int (tt 41) (tt 43)), paT 45 40 44] [3, 5, 6, 8, 27, 28, 29, 45]) (.cond (tt 45) .skip (.exit 4))) (.seq (.blk 5 (.reg [mvT 48 5, s1 49 (.bin .mul .int (tt 48) (ki 2)), mvT 5 49] [3, 5, 6, 8, 27, 28, 29])) (.reg [mvT 46 6, s1 47 (.bin .add .int (tt 46) (ki 1)), mvT 6 47] [3, 5, 6, 8, 27, 28, 29]))))) (.seq (.reg [mvT 50 8, mvT 6 50] [3, 5, 6, 27, 28, 29]) (.seq (.seq (.reg [mvT 51 5, s1 52 (.bin .eql .int (tt 51) (ki 0))] [3, 5, 6, 27, 28, 29, 52]) (.cond (tt 52) (.seq (.reg [mkT 2 1] [2]) .ret) .skip)) (.reg [mvT 53 5, s1 54 (.bin .sub .int (tt 53) (ki 1)), mvT 5 54] [3, 5, 6, 27, 28, 29])))))) (.reg [s1 55 (.bin .add .int (tt 29) (ki 1)), mvT 29 55] [3, 5, 6, 27, 28, 29]))))))) (.seq (.seq (.reg [mvT 56 5, s1 57 (.bin .eql .int (tt 56) (ki 0))] [57]) (.cond (tt 57) (.seq (.reg [mkT 2 0] [2]) .ret) .skip)) (.seq (.reg [s1 2 (.mov (ki (-1)))] [2]) .ret))))))))⟩
theorem d_lengths_Kraft : dq Tryz.prog 20 s_lengths_Kraft = some s_lengths_Kraft := by kernel_rfl
def s_ref26_Kraft : Vc.Fn := ⟨1, [(.tmp 2)],
  (.seq (.reg [mkT 2 0] [0]) (.seq (.reg [mkT 3 0] [0, 3]) (.seq (.reg [mfT 4] [0, 3, 4]) (.seq (.reg [mkT 5 0] [0, 3, 4, 5]) (.seq (.seq (.reg [mvT 11 0, s1 12 (.lenS (tt 11)), mkT 13 0] [0, 3, 4, 5, 11, 12, 13]) (.blk 0 (.loop [0, 3, 4, 5, 11, 12, 13] (.seq (.reg [s1 14 (.bin .lss .int (tt 13) (tt 12))] [0, 3, 4, 5, 11, 12, 13, 14]) (.seq (.cond (tt 14) .skip (.exit 0)) (.seq (.blk 1 (.seq (.reg [iaT 15 1 11 13, ldT 16 15, mvT 7 16] [0, 3, 4, 5, 7, 11, 12, 13]) (.reg [mvT 17 5, mvT 18 7, s1 19 (.maxI [(tt 17), (tt 18), (ki 1)]), mvT 5 19] [0, 3, 4, 5, 11, 12, 13]))) (.reg [s1 20 (.bin .add .int (tt 13) (ki 1)), mvT 13 20] [0, 3, 4, 5, 11, 12, 13]))))))) (.seq (.blk 2 (.loop [0, 3, 4, 5] (.seq (.seq (.reg [mvT 21 5, s1 22 (.bin .gtr .int (tt 21) (ki 0))] [0, 3, 4, 5, 22]) (.cond (tt 22) .skip (.exit 2))) (.blk 3 (.seq (.reg [mkT 8 0] [0, 3, 4, 5, 8]) (.seq (.seq (.reg [mvT 23 0, s1 24 (.lenS (tt 23)), mkT 25 0] [0, 3, 4, 5, 8, 23, 24, 25]) (.blk 4 (.loop [0, 3, 4, 5, 8, 23, 24, 25] (.seq (.reg [s1 26 (.bin .lss .int (tt 25) (tt 24))] [0, 3, 4, 5, 8, 23, 24, 25, 26]) (.seq (.cond (tt 26) .skip (.exit 4)) (.seq (.blk 5 (.seq (.reg [iaT 27 1 23 25, ldT 28 27, mvT 10 28] [0, 3, 4, 5, 8, 10, 23, 24, 25]) (.seq (.seq (.reg [mvT 29 10, s1 30 (.maxI [(tt 29), (ki 1)]), mvT 31 5, s1 32 (.bin .eql .int (tt 30) (tt 31))] [0, 3, 4, 5, 8, 10, 23, 24, 25, 32]) (.cond (tt 32) (.reg [mvT 33 3, s1 34 (.bin .add .int (tt 33) (ki 1)), mvT 3 34] [0, 3, 4, 5, 8, 10, 23, 24, 25]) .skip)) (.seq (.reg [mvT 35 10, s1 36 (.maxI [(tt 35), (ki 1)]), mvT 37 5, s1 38 (.bin .lss .int (tt 36) (tt 37))] [0, 3, 4, 5, 8, 10, 23, 24, 25, 38]) (.cond (tt 38) (.reg [mvT 39 8, mvT 40 10, s1 41 (.maxI [(tt 39), (tt 40), (ki 1)]), mvT 8 41] [0, 3, 4, 5, 8, 23, 24, 25]) .skip))))) (.reg [s1 42 (.bin .add .int (tt 25) (ki 1)), mvT 25 42] [0, 3, 4, 5, 8, 23, 24, 25]))))))) (.seq (.blk 6 (.loop [0, 3, 4, 5, 8] (.seq (.seq (.reg [mvT 43 5, mvT 44 8, s1 45 (.bin .gtr .int (tt 43) (tt 44)), mvT 46 45, gmT 46 true 47 3, sg 46 true 48 (.bin .gtr .int (tt 47) (ki 0)), paT 49 46 48] [0, 3, 4, 5, 8, 49]) (.cond (tt 49) .skip (.exit 6))) (.blk 7 (.seq (.reg [mvT 50 4, mvT 51 50, gmT 51 false 52 3, sg 51 false 53 (.bin .rem .int (tt 52) (ki 2)), sg 51 false 54 (.bin .eql .int (tt 53) (ki 1)), poT 55 51 54, mvT 4 55] [0, 3, 4, 5, 8]) (.seq (.reg [mvT 56 3, s1 57 (.bin .quo .int (tt 56) (ki 2)), mvT 3 57] [0, 3, 4, 5, 8]) (.reg [mvT 58 5, s1 59 (.bin .sub .int (tt 58) (ki 1)), mvT 5 59] [0, 3, 4, 5, 8]))))))) (.reg [mvT 60 8, mvT 5 60] [0, 3, 4, 5])))))))) (.seq (.seq (.reg [mvT 61 3, s1 62 (.bin .gtr .int (tt 61) (ki 1)), mvT 63 62, gmT 63 false 64 3, sg 63 false 65 (.bin .eql .int (tt 64) (ki 1)), gmT 63 false 66 65, gmT 66 true 67 4, sg 63 false 68 (.pick (tt 66) (tt 67) (kb false)), poT 69 63 68] [3, 69]) (.cond (tt 69) (.seq (.reg [mkT 2 1] [2]) .ret) .skip)) (.seq (.seq (.reg [mvT 70 3, s1 71 (.bin .eql .int (tt 70) (ki 1))] [71]) (.cond (tt 71) (.seq (.reg [mkT 2 0] [2]) .ret) .skip)) (.seq (.reg [s1 2 (.mov (ki (-1)))] [2]) .ret)))))))))⟩
theorem d_ref26_Kraft : dq Tryz.prog 21 s_ref26_Kraft = some s_ref26_Kraft := by kernel_rfl
def s_lengths_Least : Vc.Fn := ⟨2, [(.tmp 4)],
  (.seq (.reg [mfT 4] [0, 1]) (.seq (.seq (.reg [mvT 11 0, s1 12 (caT 52 11), s1 13 (.un .not (tt 12)), mvT 14 13, gmT 14 false 15 0, sg 14 false 16 (.lenS (tt 15)), gmT 14 false 17 1, sg 14 false 18 (.lenS (tt 17)), sg 14 false 19 (.bin .neq .int (tt 16) (tt 18)), poT 20 14 19, mvT 21 20, gmT 21 false 22 1, sg 21 false 23 (.call 63 [(tt 22), (.func 64)]), poT 24 21 23, mvT 25 24, gmT 25 false 26 1, sg 25 false 27 (caT 20 26), sg 25 false 28 (.bin .gtr .int (tt 27) (ki 0)), poT 29 25 28] [0, 1, 29]) (.cond (tt 29) (.seq (.reg [mfT 4] [4]) .ret) .skip)) (.seq (.reg [s1 31 (.build [(.int .i64 0), (.int .i64 0)] [(0, (1, (ki 1)))]), mvT 32 0, s1 33 (cbT 14 31 32), mvT 30 33, exT 34 0 30, exT 35 1 30, mvT 5 34, mvT 6 35] [0, 1, 5, 6]) (.seq (.reg [mvT 37 0, mvT 38 1, s1 39 (cbT 18 37 38), mvT 36 39, exT 40 0 36, exT 41 1 36, s1 7 (.zero 36 [(.int .i64 0), (.int .u64 0)]), s0 (.store 2 (tt 7) (tt 40)), mvT 8 41] [0, 5, 6, 7, 8]) (.seq (.reg [mvT 43 0, mvT 44 5, s1 45 (cbT 18 43 44), mvT 42 45, exT 46 0 42, exT 47 1 42, s1 9 (.zero 36 [(.int .i64 0), (.int .u64 0)]), s0 (.store 2 (tt 9) (tt 46)), mvT 10 47] [6, 7, 8, 9, 10]) (.seq (.reg [mvT 48 6, s1 49 (.bin .eql .int (tt 48) (ki 0)), mvT 50 49, gmT 50 true 51 8, paT 52 50 51, mvT 53 52, gmT 53 true 54 10, paT 55 53 54, mvT 56 55, sg 56 true 57 (.loadN 2 (tt 7)), sg 56 true 58 (.loadN 2 (tt 9)), sg 56 true 59 (.bin .eql (.s [(0, (none, .int)), (1, (none, .int))]) (tt 57) (tt 58)), paT 60 56 59, mvT 4 60] [4]) .ret))))))⟩
theorem d_lengths_Least : dq Tryz.prog 22 s_lengths_Least = some s_lengths_Least := by kernel_rfl
def s_ref26_Least : Vc.Fn := ⟨2, [(.tmp 4)],
  (.seq (.reg [mfT 4] [0, 1]) (.seq (.seq (.reg [mvT 13 0, s1 14 (caT 25 13), s1 15 (.un .not (tt 14)), mvT 16 15, gmT 16 false 17 0, gmT 16 false 18 1, sg 16 false 19 (cbT 59 17 18), sg 16 false 20 (.un .not (tt 19)), poT 21 16 20, mvT 22 21, gmT 22 false 23 1, sg 22 false 24 (caT 21 23), sg 22 false 25 (.bin .gtr .int (tt 24) (ki 0)), poT 26 22 25] [0, 1, 26]) (.cond (tt 26) (.seq (.reg [mfT 4] [4]) .ret) .skip)) (.seq (.seq (.reg [mvT 27 1, s1 28 (.lenS (tt 27)), mkT 29 0] [0, 1, 27, 28, 29]) (.blk 0 (.loop [0, 1, 27, 28, 29] (.seq (.reg [s1 30 (.bin .lss .int (tt 29) (tt 28))] [0, 1, 27, 28, 29, 30]) (.seq (.cond (tt 30) .skip (.exit 0)) (.seq (.blk 1 (.seq (.reg [iaT 31 1 27 29, ldT 32 31, mvT 6 32] [0, 1, 6, 27, 28, 29]) (.seq (.reg [mvT 33 6, s1 34 (.bin .lss .int (tt 33) (ki 1))] [0, 1, 27, 28, 29, 34]) (.cond (tt 34) (.seq (.reg [mfT 4] [4]) .ret) .skip)))) (.reg [s1 35 (.bin .add .int (tt 29) (ki 1)), mvT 29 35] [0, 1, 27, 28, 29]))))))) (.seq (.reg [s1 37 (.build [(.int .i64 0), (.int .i64 0)] [(0, (1, (ki 1)))]), mvT 38 0, s1 39 (cbT 17 37 38), mvT 36 39, exT 40 0 36, exT 41 1 36, mvT 7 40, mvT 8 41] [0, 1, 7]) (.seq (.reg [mvT 43 0, mvT 44 1, s1 45 (cbT 19 43 44), mvT 42 45, exT 46 0 42, exT 47 1 42, s1 9 (.zero 39 [(.int .i64 0), (.int .u64 0)]), s0 (.store 2 (tt 9) (tt 46)), mvT 10 47] [0, 7, 9]) (.seq (.reg [mvT 49 0, mvT 50 7, s1 51 (cbT 19 49 50), mvT 48 51, exT 52 0 48, exT 53 1 48, s1 11 (.zero 39 [(.int .i64 0), (.int .u64 0)]), s0 (.store 2 (tt 11) (tt 52)), mvT 12 53] [9, 11]) (.seq (.reg [loT 54 2 9, loT 55 2 11, s1 56 (.bin .eql (.s [(0, (none, .int)), (1, (none, .int))]) (tt 54) (tt 55)), mvT 4 56] [4]) .ret)))))))⟩
theorem d_ref26_Least : dq Tryz.prog 23 s_ref26_Least = some s_ref26_Least := by kernel_rfl
def s_ref02_Check : Vc.Fn := ⟨1, [(.tmp 2)],
  (.seq (.reg [s1 1 (.box 23 (tt 0)), mkT 2 0] [1]) (.seq (.seq (.reg [faT 3 0 1, ldT 4 3, s1 5 (.bin .lss .int (tt 4) (ki 1)), mvT 6 5, gfT 6 false 7 0 1, glT 6 false 8 7, sg 6 false 9 (.bin .gtr .int (tt 8) (ki 8)), poT 10 6 9] [1, 10]) (.cond (tt 10) (.seq (.reg [mkT 2 21] [2]) .ret) .skip)) (.seq (.seq (.reg [faT 11 0 1, ldT 12 11, s1 13 (.bin .eql .int (tt 12) (ki 2)), mvT 14 13, gfT 14 true 15 1 1, glT 14 true 16 15, sg 14 true 17 (.bin .geq .int (tt 16) (ki 2)), paT 18 14 17, mvT 19 18, gfT 19 true 20 1 1, glT 19 true 21 20, sg 19 true 22 (.bin .leq .int (tt 21) (ki 16)), paT 23 19 22, mvT 24 23, gfT 24 false 25 0 1, glT 24 false 26 25, sg 24 false 27 (.bin .neq .int (tt 26) (ki 2)), gmT 24 false 28 27, gfT 28 true 29 1 1, glT 28 true 30 29, sg 28 true 31 (.bin .eql .int (tt 30) (ki 0)), sg 24 false 32 (.pick (tt 28) (tt 31) (kb false)), poT 33 24 32] [33]) (.cond (tt 33) (.seq (.reg [mkT 2 0] [2]) .ret) .skip)) (.seq (.reg [mkT 2 22] [2]) .ret))))⟩
theorem d_ref02_Check : dq Tryz.prog 24 s_ref02_Check = some s_ref02_Check := by kernel_rfl
def s_ref26_Right : Vc.Fn := ⟨1, [(.tmp 2)],
  (.seq (.reg [mfT 2] [0]) (.seq (.reg [mkT 3 9223372036854775807] [0, 3]) (.seq (.seq (.reg [mvT 6 0, s1 7 (.lenS (tt 6)), mkT 8 0] [0, 3, 6, 7, 8]) (.blk 0 (.loop [0, 3, 6, 7, 8] (.seq (.reg [s1 9 (.bin .lss .int (tt 8) (tt 7))] [0, 3, 6, 7, 8, 9]) (.seq (.cond (tt 9) .skip (.exit 0)) (.seq (.blk 1 (.seq (.reg [iaT 10 1 6 8, ldT 11 10, mvT 5 11] [0, 3, 5, 6, 7, 8]) (.seq (.seq (.reg [mvT 12 5, s1 13 (.bin .lss .int (tt 12) (ki 1)), mvT 14 13, gmT 14 false 15 5, gmT 14 false 16 3, sg 14 false 17 (.bin .gtr .int (tt 15) (tt 16)), poT 18 14 17] [0, 3, 5, 6, 7, 8, 18]) (.cond (tt 18) (.seq (.reg [mfT 2] [2]) .ret) .skip)) (.reg [mvT 19 3, mvT 20 5, s1 21 (.bin .sub .int (tt 19) (tt 20)), mvT 3 21] [0, 3, 6, 7, 8])))) (.reg [s1 22 (.bin .add .int (tt 8) (ki 1)), mvT 8 22] [0, 3, 6, 7, 8]))))))) (.seq (.reg [mvT 23 0, s1 24 (.lenS (tt 23)), s1 25 (.bin .geq .int (tt 24) (ki 1)), mvT 26 25, gmT 26 true 27 0, sg 26 true 28 (.lenS (tt 27)), sg 26 true 29 (.bin .leq .int (tt 28) (ki 4096)), paT 30 26 29, mvT 2 30] [2]) .ret))))⟩
theorem d_ref26_Right : dq Tryz.prog 25 s_ref26_Right = some s_ref26_Right := by kernel_rfl
end Go.Proofs.YtjlnnljohemifaaGreat
