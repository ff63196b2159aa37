/-
  Texts put behind each other by a program: A0.
-/
import Derived.Test.YtjlnnljohemifaaGreatK9
import Derived.Test.YtjlnnljohemifaaGreatProg
import Derived.Test.YtjlnnljohemifaaGreatChecked
import Derived.Eval
import Derived.KernelRfl
set_option maxRecDepth 100000
namespace Go.Vc
abbrev mvT (d x : Nat) : Sop := s1 d (.mov (tt x))
abbrev ldT (d x : Nat) : Sop := s1 d (.load1 (tt x))
abbrev nkT (d x : Nat) : Sop := s1 d (.nilCheck (tt x))
abbrev faT (d f x : Nat) : Sop := s1 d (.fieldAddr f (tt x))
abbrev exT (d f x : Nat) : Sop := s1 d (.extract f (tt x))
abbrev iaT (d n x y : Nat) : Sop := s1 d (.indexAddr n (tt x) (tt y))
abbrev mkT (d : Nat) (x : Int) : Sop := s1 d (.mov (ki x))
abbrev stT (d n x y : Nat) : Sop := s1 d (.store n (tt x) (tt y))
abbrev mfT (d : Nat) : Sop := s1 d (.mov (kb false))
abbrev mtT (d : Nat) : Sop := s1 d (.mov (kb true))
abbrev gmT (g : Nat) (w : Bool) (d x : Nat) : Sop := sg g w d (.mov (tt x))
abbrev glT (g : Nat) (w : Bool) (d x : Nat) : Sop := sg g w d (.load1 (tt x))
abbrev gfT (g : Nat) (w : Bool) (d f x : Nat) : Sop := sg g w d (.fieldAddr f (tt x))
abbrev gnT (g : Nat) (w : Bool) (d x : Nat) : Sop := sg g w d (.nilCheck (tt x))
abbrev paT (d x y : Nat) : Sop := s1 d (.pick (tt x) (tt y) (kb false))
abbrev poT (d x y : Nat) : Sop := s1 d (.pick (tt x) (kb true) (tt y))
abbrev loT (d n x : Nat) : Sop := s1 d (.loadN n (tt x))
abbrev caT (f x : Nat) : Iop := .call f [tt x]
abbrev cbT (f x y : Nat) : Iop := .call f [tt x, tt y]
abbrev ceT (f x y z : Nat) : Iop := .call f [tt x, tt y, tt z]
def annS : S → List Ann
  | .reg ops keep => [(keep, (ops.zipIdx.filter fun p => p.1.1).map (·.2), [])]
  | .seq a b => annS a ++ annS b
  | .cond _ a b => annS a ++ annS b
  | .blk _ b => annS b
  | .loop L b => (L, [], []) :: annS b
  | _ => []
def dq (P : Program) (f : Nat) (F : Fn) : Option Fn := decFn P f (annS F.body)
end Go.Vc
namespace Go.Proofs.YtjlnnljohemifaaGreat
open Go Go.Vc
theorem mixed : Tryz.prog.follows .mixedOrders = true := Tryz.checked.mixed
theorem ccT {f : Nat} {an : List Ann} {F : Vc.Fn} (d : decFn Tryz.prog f an = some F) {args : List Value} {H : Hp} {K : Value → Hp → Prop} (h : F.vc Tryz.prog args H K) : CallH Tryz.prog f args H K := callH_of mixed d h
abbrev n_law26_LengthsNames : Nat := 3
abbrev n_lengths_Lengths : Nat := 14
abbrev n_law26_lengthsAlive : Nat := 15
abbrev n_ref09_Same : Nat := 16
abbrev n_lengths_Cost : Nat := 18
abbrev n_lengths_Kraft : Nat := 20
abbrev n_lengths_Least : Nat := 22
abbrev n_gauge_Check : Nat := 51
abbrev n_lengths_fine : Nat := 52
abbrev n_pq_Open : Nat := 53
abbrev n_lengths_joined : Nat := 54
abbrev n_math_bits_Mul64 : Nat := 57
abbrev n_slices_Clone_int_int : Nat := 61
abbrev n_slices_Sort_int_int : Nat := 62
abbrev n_slices_ContainsFunc_int_int : Nat := 63
abbrev n_lengths_Least_1 : Nat := 64
abbrev n_cmp_Or_int : Nat := 65
abbrev n_cmp_Compare_int64 : Nat := 66
abbrev n_cmp_Compare_uint64 : Nat := 67
abbrev n_pq_Store_NewHeap : Nat := 69
abbrev n_pq_Store_ExtractMin : Nat := 72
abbrev n_names_New : Nat := 76
abbrev n_names_Names_Make : Nat := 77
abbrev n_names_Names_Root : Nat := 78
abbrev n_arena_New : Nat := 95
abbrev n_pq_open : Nat := 96
abbrev n_lengths_joined_1 : Nat := 97
abbrev n_pq_Store_Insert : Nat := 98
abbrev n_slices_IndexFunc_int_int : Nat := 102
abbrev n_cmp_isNaN_int64 : Nat := 103
abbrev n_cmp_isNaN_uint64 : Nat := 104
abbrev n_pq_Store_Min : Nat := 109
abbrev n_arena_Arena_Give : Nat := 110
abbrev n_names_Names_Last : Nat := 111
abbrev n_names_Names_made : Nat := 112
abbrev n_names_Names_Has : Nat := 113
abbrev n_pq_made_dary_Nest : Nat := 128
abbrev n_dary_New : Nat := 129
abbrev n_gauge_Arity : Nat := 130
abbrev n_pq_made_fibonacci_Nest : Nat := 135
abbrev n_fibonacci_New : Nat := 136
abbrev n_arena_Arena_Take : Nat := 143
abbrev n_pq_Store_first : Nat := 156
abbrev n_pq_Store_entry : Nat := 157
abbrev n_arena_Arena_Live : Nat := 158
abbrev n_cells_New : Nat := 165
abbrev n_sift_New : Nat := 166
abbrev n_ring_New : Nat := 168
abbrev n_fibonacci_fresh : Nat := 169
abbrev n_arena_Arena_pick : Nat := 171
abbrev n_arena_Arena_At : Nat := 178
abbrev n_sift_fine : Nat := 188
abbrev n_dary_Nest_Decrease : Nat := 214
abbrev n_dary_Nest_Delete : Nat := 215
abbrev n_cells_Cells_Entry : Nat := 216
abbrev n_dary_Nest_Extract : Nat := 217
abbrev n_cells_Cells_Has : Nat := 218
abbrev n_cells_Cells_Home : Nat := 219
abbrev n_dary_Nest_Insert : Nat := 220
abbrev n_cells_Cells_Len : Nat := 221
abbrev n_dary_Nest_Make : Nat := 222
abbrev n_dary_Nest_Min : Nat := 224
abbrev n_cells_Cells_Lower : Nat := 226
abbrev n_sift_Row_Raise : Nat := 227
abbrev n_cells_Cells_in : Nat := 228
abbrev n_sift_Row_Remove : Nat := 229
abbrev n_cells_Cells_Drop : Nat := 230
abbrev n_cells_Cells_Put : Nat := 231
abbrev n_sift_Row_Add : Nat := 232
abbrev n_cells_Cells_Make : Nat := 233
abbrev n_sift_Row_At : Nat := 234
abbrev n_entry_Less : Nat := 235
abbrev n_sift_Row_up : Nat := 236
abbrev n_cells_Cells_there : Nat := 237
abbrev n_sift_Row_down : Nat := 238
abbrev n_entry_Compare : Nat := 239
abbrev n_sift_Parent : Nat := 240
abbrev n_sift_Row_set : Nat := 241
abbrev n_sift_Row_first : Nat := 242
abbrev n_sift_Child : Nat := 243
abbrev n_cells_Cells_Ahead : Nat := 244
abbrev n_gauge_Meter_Count : Nat := 252
abbrev n_fibonacci_Nest_Decrease : Nat := 285
abbrev n_fibonacci_Nest_Extract : Nat := 287
abbrev n_fibonacci_Nest_Insert : Nat := 288
abbrev n_fibonacci_Nest_Make : Nat := 289
abbrev n_fibonacci_Nest_Min : Nat := 291
abbrev n_fibonacci_Nest_loosen : Nat := 292
abbrev n_fibonacci_Nest_raise : Nat := 293
abbrev n_ring_Rings_All : Nat := 294
abbrev n_ring_Rings_Part : Nat := 295
abbrev n_fibonacci_Nest_tidy : Nat := 296
abbrev n_fibonacci_Nest_root : Nat := 297
abbrev n_fibonacci_Nest_off : Nat := 298
abbrev n_fibonacci_Nest_cascade : Nat := 299
abbrev n_ring_Rings_Splice : Nat := 300
abbrev n_ring_Rings_has : Nat := 301
abbrev n_fibonacci_Nest_under : Nat := 302
abbrev n_ring_Rings_Next : Nat := 303
def s_law26_LengthsNames : Vc.Fn := ⟨0, [(.tmp 0)],
  (.seq (.reg [mfT 0] []) (.seq (.reg [s1 18 (.build [(.int .i64 0), (.int .i64 0)] [(0, (1, (ki 1)))]), s1 1 (.zero 23 [(.int .i64 0), (.int .i64 0)]), s0 (.store 2 (tt 1) (tt 18))] [1]) (.seq (.reg [loT 20 2 1, s1 21 (.call 14 [(tt 20), (.const (.slice none 0 0))]), mvT 19 21, exT 22 0 19, exT 23 1 19, mvT 2 22, mvT 3 23] [1, 3]) (.seq (.reg [loT 25 2 1, s1 26 (.lit 2 2 [(.int .i64 0), (.int .i64 0)] [(0, (1, (ki 1))), (1, (1, (ki 0)))]), s1 27 (cbT 14 25 26), mvT 24 27, exT 28 0 24, exT 29 1 24, mvT 4 28, mvT 5 29] [1, 3, 5]) (.seq (.reg [loT 31 2 1, s1 32 (.lit 2 2 [(.int .i64 0), (.int .i64 0)] [(0, (1, (ki 9223372036854775807))), (1, (1, (ki 1)))]), s1 33 (cbT 14 31 32), mvT 30 33, exT 34 0 30, exT 35 1 30, mvT 6 34, mvT 7 35] [1, 3, 5, 7]) (.seq (.reg [s1 37 (.build [(.int .i64 0), (.int .i64 0)] []), s1 38 (.call 14 [(tt 37), (.const (.slice none 0 0))]), mvT 36 38, exT 39 0 36, exT 40 1 36, mvT 8 39, mvT 9 40] [1, 3, 5, 7, 9]) (.seq (.reg [loT 42 2 1, s1 43 (.lit 2 1 [(.int .i64 0)] [(0, (1, (ki 7)))]), s1 44 (cbT 14 42 43), mvT 41 44, exT 45 0 41, exT 46 1 41, mvT 10 45, mvT 11 46] [1, 3, 5, 7, 9, 10, 11]) (.seq (.reg [s1 47 (.makeSlice 2 8 1 [(.int .i64 0)] (ki 4097) (ki 4097)), mvT 12 47] [1, 3, 5, 7, 9, 10, 11, 12]) (.seq (.seq (.reg [mvT 48 12, s1 49 (.lenS (tt 48)), mkT 50 0] [1, 3, 5, 7, 9, 10, 11, 12, 49, 50]) (.blk 0 (.loop [1, 3, 5, 7, 9, 10, 11, 12, 49, 50] (.seq (.reg [s1 51 (.bin .lss .int (tt 50) (tt 49))] [1, 3, 5, 7, 9, 10, 11, 12, 49, 50, 51]) (.seq (.cond (tt 51) .skip (.exit 0)) (.seq (.blk 1 (.seq (.reg [mvT 52 50, mvT 13 52] [1, 3, 5, 7, 9, 10, 11, 12, 13, 49, 50]) (.reg [mvT 53 12, mvT 54 13, iaT 55 1 53 54, s0 (.store 1 (tt 55) (ki 1))] [1, 3, 5, 7, 9, 10, 11, 12, 49, 50]))) (.reg [s1 56 (.bin .add .int (tt 50) (ki 1)), mvT 50 56] [1, 3, 5, 7, 9, 10, 11, 12, 49, 50]))))))) (.seq (.reg [loT 58 2 1, mvT 59 12, s1 60 (cbT 14 58 59), mvT 57 60, exT 61 0 57, exT 62 1 57, mvT 14 61, mvT 15 62] [1, 3, 5, 7, 9, 10, 11, 12, 15]) (.seq (.reg [loT 64 2 1, mvT 65 12, s1 66 (.slice 1 (tt 65) none (some (ki 4096)) none), s1 67 (cbT 14 64 66), mvT 63 67, exT 68 0 63, exT 69 1 63, mvT 16 68, mvT 17 69] [3, 5, 7, 9, 10, 11, 15, 16, 17]) (.seq (.reg [s1 70 (.call 15 []), mvT 71 70, s1 72 (.pick (tt 71) (kb true) (kb false)), mvT 73 72, gmT 73 true 74 3, sg 73 true 75 (.bin .eql .int (tt 74) (ki 201)), paT 76 73 75, mvT 77 76, gmT 77 true 78 5, sg 77 true 79 (.bin .eql .int (tt 78) (ki 201)), paT 80 77 79, mvT 81 80, gmT 81 true 82 7, sg 81 true 83 (.bin .eql .int (tt 82) (ki 201)), paT 84 81 83, mvT 85 84, gmT 85 true 86 9, sg 85 true 87 (.bin .eql .int (tt 86) (ki 21)), paT 88 85 87, mvT 89 88, gmT 89 true 90 15, sg 89 true 91 (.bin .eql .int (tt 90) (ki 201)), paT 92 89 91, mvT 93 92, gmT 93 true 94 11, sg 93 true 95 (.bin .eql .int (tt 94) (ki 0)), paT 96 93 95, mvT 97 96, gmT 97 true 98 10, sg 97 true 99 (.lit 3 1 [(.int .i64 0)] [(0, (1, (ki 1)))]), sg 97 true 100 (cbT 16 98 99), paT 101 97 100, mvT 102 101, gmT 102 true 103 17, sg 102 true 104 (.bin .eql .int (tt 103) (ki 0)), paT 105 102 104, mvT 106 105, gmT 106 true 107 16, sg 106 true 108 (.lenS (tt 107)), sg 106 true 109 (.bin .eql .int (tt 108) (ki 4096)), paT 110 106 109, mvT 111 110, gmT 111 true 112 16, sg 111 true 113 (.indexAddr 1 (tt 112) (ki 0)), glT 111 true 114 113, sg 111 true 115 (.bin .eql .int (tt 114) (ki 12)), paT 116 111 115, mvT 117 116, gmT 117 true 118 16, sg 117 true 119 (.indexAddr 1 (tt 118) (ki 4095)), glT 117 true 120 119, sg 117 true 121 (.bin .eql .int (tt 120) (ki 12)), paT 122 117 121, mvT 0 122] [0]) .ret))))))))))))⟩
theorem d_law26_LengthsNames : dq Tryz.prog 3 s_law26_LengthsNames = some s_law26_LengthsNames := by kernel_rfl
def s_lengths_Lengths : Vc.Fn := ⟨2, [(.tmp 4), (.tmp 5)],
  (.seq (.reg [s1 2 (.box 23 (tt 0)), s1 4 (.mov (.const (.slice none 0 0))), mkT 5 0] [1, 2]) (.seq (.seq (.reg [loT 13 2 2, s1 14 (caT 51 13), mvT 6 14] [1, 2, 6]) (.seq (.reg [mvT 15 6, s1 16 (.bin .neq .int (tt 15) (ki 0))] [1, 2, 6, 16]) (.cond (tt 16) (.seq (.reg [mvT 17 6, s1 4 (.mov (.const (.slice none 0 0))), mvT 5 17] [4, 5]) .ret) .skip))) (.seq (.seq (.reg [mvT 18 1, s1 19 (caT 52 18), s1 20 (.un .not (tt 19))] [1, 2, 20]) (.cond (tt 20) (.seq (.reg [s1 4 (.mov (.const (.slice none 0 0))), mkT 5 201] [4, 5]) .ret) .skip)) (.seq (.reg [mvT 21 1, s1 22 (.lenS (tt 21)), mvT 7 22] [1, 2, 7]) (.seq (.seq (.reg [mvT 23 7, s1 24 (.bin .eql .int (tt 23) (ki 1))] [1, 2, 7, 24]) (.cond (tt 24) (.seq (.reg [s1 25 (.lit 3 1 [(.int .i64 0)] [(0, (1, (ki 1)))]), mvT 4 25, mkT 5 0] [4, 5]) .ret) .skip)) (.seq (.reg [loT 27 2 2, mvT 28 7, s1 29 (.call 53 [(tt 27), (tt 28), (.const (.int .u32 4294967295))]), mvT 26 29, exT 30 0 26, exT 31 1 26, mvT 8 30, mvT 9 31] [1, 7, 8, 9]) (.seq (.seq (.reg [mvT 32 9, s1 33 (.bin .neq .int (tt 32) (ki 0))] [1, 7, 8, 9, 33]) (.cond (tt 33) (.seq (.reg [mvT 34 9, s1 4 (.mov (.const (.slice none 0 0))), mvT 5 34] [4, 5]) .ret) .skip)) (.seq (.reg [mvT 35 8, mvT 36 1, s1 37 (cbT 54 35 36), mvT 10 37] [7, 10]) (.seq (.reg [mvT 38 10, s1 39 (.lenS (tt 38)), s1 40 (.makeSlice 3 8 1 [(.int .i64 0)] (tt 39) (tt 39)), mvT 11 40] [7, 10, 11]) (.seq (.seq (.reg [mvT 41 10, s1 42 (.lenS (tt 41)), s1 43 (.bin .sub .int (tt 42) (ki 2)), mvT 12 43] [7, 10, 11, 12]) (.blk 0 (.loop [7, 10, 11, 12] (.seq (.seq (.reg [mvT 44 12, s1 45 (.bin .geq .int (tt 44) (ki 0))] [7, 10, 11, 12, 45]) (.cond (tt 45) .skip (.exit 0))) (.seq (.blk 1 (.reg [mvT 48 11, mvT 49 12, mvT 50 11, mvT 51 10, mvT 52 12, iaT 53 1 51 52, ldT 54 53, iaT 55 1 50 54, ldT 56 55, s1 57 (.bin .add .int (tt 56) (ki 1)), iaT 58 1 48 49, s0 (.store 1 (tt 58) (tt 57))] [7, 10, 11, 12])) (.reg [mvT 46 12, s1 47 (.bin .sub .int (tt 46) (ki 1)), mvT 12 47] [7, 10, 11, 12])))))) (.seq (.reg [mvT 59 11, mvT 60 7, mvT 61 7, s1 62 (.slice 1 (tt 59) none (some (tt 60)) (some (tt 61))), mvT 4 62, mkT 5 0] [4, 5]) .ret)))))))))))⟩
theorem d_lengths_Lengths : dq Tryz.prog 14 s_lengths_Lengths = some s_lengths_Lengths := by kernel_rfl
def s_law26_lengthsAlive : Vc.Fn := ⟨0, [(.tmp 0)],
  (.seq (.reg [mfT 0] []) (.seq (.reg [s1 4 (.build [(.int .i64 0), (.int .i64 0)] [(0, (1, (ki 5)))]), s1 5 (.lit 2 3 [(.int .i64 0), (.int .i64 0), (.int .i64 0)] [(0, (1, (ki 1))), (1, (1, (ki 1))), (2, (1, (ki 2)))]), s1 6 (cbT 14 4 5), mvT 3 6, exT 7 0 3, exT 8 1 3, mvT 1 7, mvT 2 8] [1, 2]) (.seq (.reg [mvT 9 2, s1 10 (.bin .eql .int (tt 9) (ki 0)), mvT 11 10, gmT 11 true 12 1, sg 11 true 13 (.lit 3 3 [(.int .i64 0), (.int .i64 0), (.int .i64 0)] [(0, (1, (ki 2))), (1, (1, (ki 2))), (2, (1, (ki 1)))]), sg 11 true 14 (cbT 16 12 13), paT 15 11 14, mvT 16 15, gmT 16 true 17 1, sg 16 true 18 (caT 20 17), sg 16 true 19 (.bin .eql .int (tt 18) (ki 0)), paT 20 16 19, mvT 21 20, sg 21 true 22 (.lit 2 3 [(.int .i64 0), (.int .i64 0), (.int .i64 0)] [(0, (1, (ki 1))), (1, (1, (ki 1))), (2, (1, (ki 2)))]), gmT 21 true 23 1, sg 21 true 24 (cbT 22 22 23), paT 25 21 24, mvT 0 25] [0]) .ret)))⟩
theorem d_law26_lengthsAlive : dq Tryz.prog 15 s_law26_lengthsAlive = some s_law26_lengthsAlive := by kernel_rfl
def s_ref09_Same : Vc.Fn := ⟨2, [(.tmp 4)],
  (.seq (.reg [mfT 4] [0, 1]) (.seq (.seq (.reg [mvT 6 0, s1 7 (.lenS (tt 6)), mvT 8 1, s1 9 (.lenS (tt 8)), s1 10 (.bin .neq .int (tt 7) (tt 9))] [0, 1, 10]) (.cond (tt 10) (.seq (.reg [mfT 4] [4]) .ret) .skip)) (.seq (.seq (.reg [mvT 11 0, s1 12 (.lenS (tt 11)), mkT 13 0] [0, 1, 12, 13]) (.blk 0 (.loop [0, 1, 12, 13] (.seq (.reg [s1 14 (.bin .lss .int (tt 13) (tt 12))] [0, 1, 12, 13, 14]) (.seq (.cond (tt 14) .skip (.exit 0)) (.seq (.blk 1 (.seq (.reg [mvT 15 13, mvT 5 15] [0, 1, 5, 12, 13]) (.seq (.reg [mvT 16 0, mvT 17 5, iaT 18 1 16 17, ldT 19 18, mvT 20 1, mvT 21 5, iaT 22 1 20 21, ldT 23 22, s1 24 (.bin .neq .int (tt 19) (tt 23))] [0, 1, 12, 13, 24]) (.cond (tt 24) (.seq (.reg [mfT 4] [4]) .ret) .skip)))) (.reg [s1 25 (.bin .add .int (tt 13) (ki 1)), mvT 13 25] [0, 1, 12, 13]))))))) (.seq (.reg [mtT 4] [4]) .ret))))⟩
theorem d_ref09_Same : dq Tryz.prog 16 s_ref09_Same = some s_ref09_Same := by kernel_rfl
def s_lengths_Cost : Vc.Fn := ⟨2, [(.agg 4 2), (.tmp 5)],
  (.seq (.reg [s1 4 (.zero 36 [(.int .i64 0), (.int .u64 0)]), mfT 5] [0, 1, 4]) (.seq (.seq (.reg [mvT 13 0, s1 14 (.lenS (tt 13)), mvT 15 1, s1 16 (.lenS (tt 15)), s1 17 (.bin .neq .int (tt 14) (tt 16)), mvT 18 17, gmT 18 false 19 0, sg 18 false 20 (.lenS (tt 19)), sg 18 false 21 (.bin .gtr .int (tt 20) (ki 4096)), poT 22 18 21] [0, 1, 4, 22]) (.cond (tt 22) (.seq (.reg [s1 23 (.build [(.int .i64 0), (.int .u64 0)] []), s0 (.store 2 (tt 4) (tt 23)), mfT 5] [4, 5]) .ret) .skip)) (.seq (.reg [s1 6 (.zero 36 [(.int .i64 0), (.int .u64 0)])] [0, 1, 4, 6]) (.seq (.seq (.reg [mvT 24 0, s1 25 (.lenS (tt 24)), mkT 26 0] [1, 4, 6, 24, 25, 26]) (.blk 0 (.loop [1, 4, 6, 24, 25, 26] (.seq (.reg [s1 27 (.bin .lss .int (tt 26) (tt 25))] [1, 4, 6, 24, 25, 26, 27]) (.seq (.cond (tt 27) .skip (.exit 0)) (.seq (.blk 1 (.seq (.reg [mvT 28 26, iaT 29 1 24 26, ldT 30 29, mvT 7 28, mvT 8 30] [1, 4, 6, 7, 8, 24, 25, 26]) (.seq (.seq (.reg [mvT 31 8, s1 32 (.bin .lss .int (tt 31) (ki 1)), mvT 33 32, gmT 33 false 34 1, gmT 33 false 35 7, sg 33 false 36 (.indexAddr 1 (tt 34) (tt 35)), glT 33 false 37 36, sg 33 false 38 (.bin .lss .int (tt 37) (ki 0)), poT 39 33 38, mvT 40 39, gmT 40 false 41 1, gmT 40 false 42 7, sg 40 false 43 (.indexAddr 1 (tt 41) (tt 42)), glT 40 false 44 43, sg 40 false 45 (.bin .gtr .int (tt 44) (ki 4096)), poT 46 40 45] [1, 4, 6, 7, 8, 24, 25, 26, 46]) (.cond (tt 46) (.seq (.reg [s1 47 (.build [(.int .i64 0), (.int .u64 0)] []), s0 (.store 2 (tt 4) (tt 47)), mfT 5] [4, 5]) .ret) .skip)) (.seq (.reg [mvT 49 8, s1 50 (.conv .u64 (tt 49)), mvT 51 1, mvT 52 7, iaT 53 1 51 52, ldT 54 53, s1 55 (.conv .u64 (tt 54)), s1 56 (cbT 57 50 55), mvT 48 56, exT 57 0 48, exT 58 1 48, mvT 9 57, mvT 10 58] [1, 4, 6, 9, 10, 24, 25, 26]) (.seq (.reg [faT 60 1 6, ldT 61 60, mvT 62 10, s1 63 (.ext 58 [(tt 61), (tt 62), (.const (.int .u64 0))]), mvT 59 63, exT 64 0 59, exT 65 1 59, mvT 11 64, mvT 12 65] [1, 4, 6, 9, 11, 12, 24, 25, 26]) (.reg [faT 66 0 6, ldT 67 66, mvT 68 9, mvT 69 12, s1 70 (.bin .add .int (tt 68) (tt 69)), s1 71 (.conv .i64 (tt 70)), s1 72 (.bin .add .int (tt 67) (tt 71)), mvT 73 11, s1 74 (.build [(.int .i64 0), (.int .u64 0)] [(0, (1, (tt 72))), (1, (1, (tt 73)))]), s0 (.store 2 (tt 6) (tt 74))] [1, 4, 6, 24, 25, 26])))))) (.reg [s1 75 (.bin .add .int (tt 26) (ki 1)), mvT 26 75] [1, 4, 6, 24, 25, 26]))))))) (.seq (.reg [loT 76 2 6, s0 (.store 2 (tt 4) (tt 76)), mtT 5] [4, 5]) .ret)))))⟩
theorem d_lengths_Cost : dq Tryz.prog 18 s_lengths_Cost = some s_lengths_Cost := by kernel_rfl
def s_lengths_Kraft : Vc.Fn := ⟨1, [(.tmp 2)],
  (.seq (.reg [mkT 2 0] [0]) (.seq (.reg [mvT 9 0, s1 10 (caT 61 9), mvT 3 10] [3]) (.seq (.seq (.reg [mvT 11 3, s1 12 (.lenS (tt 11)), mkT 13 0] [3, 12, 13]) (.blk 0 (.loop [3, 12, 13] (.seq (.reg [s1 14 (.bin .lss .int (tt 13) (tt 12))] [3, 12, 13, 14]) (.seq (.cond (tt 14) .skip (.exit 0)) (.seq (.blk 1 (.seq (.reg [mvT 15 13, mvT 4 15] [3, 4, 12, 13]) (.reg [mvT 16 3, mvT 17 4, mvT 18 3, mvT 19 4, iaT 20 1 18 19, ldT 21 20, s1 22 (.maxI [(tt 21), (ki 1)]), iaT 23 1 16 17, s0 (.store 1 (tt 23) (tt 22))] [3, 12, 13]))) (.reg [s1 24 (.bin .add .int (tt 13) (ki 1)), mvT 13 24] [3, 12, 13]))))))) (.seq (.reg [mvT 25 3, s1 26 (caT 62 25)] [3]) (.seq (.reg [mkT 5 1, mkT 6 0] [3, 5, 6]) (.seq (.seq (.reg [mvT 27 3, s1 28 (.lenS (tt 27)), mkT 29 0] [3, 5, 6, 27, 28, 29]) (.blk 2 (.loop [3, 5, 6, 27, 28, 29] (.seq (.reg [s1 30 (.bin .lss .int (tt 29) (tt 28))] [3, 5, 6, 27, 28, 29, 30]) (.seq (.cond (tt 30) .skip (.exit 2)) (.seq (.blk 3 (.seq (.reg [iaT 31 1 27 29, ldT 32 31, mvT 8 32] [3, 5, 6, 8, 27, 28, 29]) (.seq (.blk 4 (.loop [3, 5, 6, 8, 27, 28, 29] (.seq (.seq (.reg [mvT 33 6, mvT 34 8, s1 35 (.bin .lss .int (tt 33) (tt 34)), mvT 36 35, gmT 36 true 37 5, sg 36 true 38 (.bin .gtr .int (tt 37) (ki 0)), paT 39 36 38, mvT 40 39, gmT 40 true 41 5, gmT 40 true 42 3, sg 40 true 43 (.lenS (tt 42)), sg 40 true 44 (.bin .leq .int (tt 41) (tt 43)), paT 45 40 44] [3, 5, 6, 8, 27, 28, 29, 45]) (.cond (tt 45) .skip (.exit 4))) (.seq (.blk 5 (.reg [mvT 48 5, s1 49 (.bin .mul .int (tt 48) (ki 2)), mvT 5 49] [3, 5, 6, 8, 27, 28, 29])) (.reg [mvT 46 6, s1 47 (.bin .add .int (tt 46) (ki 1)), mvT 6 47] [3, 5, 6, 8, 27, 28, 29]))))) (.seq (.reg [mvT 50 8, mvT 6 50] [3, 5, 6, 27, 28, 29]) (.seq (.seq (.reg [mvT 51 5, s1 52 (.bin .eql .int (tt 51) (ki 0))] [3, 5, 6, 27, 28, 29, 52]) (.cond (tt 52) (.seq (.reg [mkT 2 1] [2]) .ret) .skip)) (.reg [mvT 53 5, s1 54 (.bin .sub .int (tt 53) (ki 1)), mvT 5 54] [3, 5, 6, 27, 28, 29])))))) (.reg [s1 55 (.bin .add .int (tt 29) (ki 1)), mvT 29 55] [3, 5, 6, 27, 28, 29]))))))) (.seq (.seq (.reg [mvT 56 5, s1 57 (.bin .eql .int (tt 56) (ki 0))] [57]) (.cond (tt 57) (.seq (.reg [mkT 2 0] [2]) .ret) .skip)) (.seq (.reg [s1 2 (.mov (ki (-1)))] [2]) .ret))))))))⟩
theorem d_lengths_Kraft : dq Tryz.prog 20 s_lengths_Kraft = some s_lengths_Kraft := by kernel_rfl
def s_lengths_Least : Vc.Fn := ⟨2, [(.tmp 4)],
  (.seq (.reg [mfT 4] [0, 1]) (.seq (.seq (.reg [mvT 11 0, s1 12 (caT 52 11), s1 13 (.un .not (tt 12)), mvT 14 13, gmT 14 false 15 0, sg 14 false 16 (.lenS (tt 15)), gmT 14 false 17 1, sg 14 false 18 (.lenS (tt 17)), sg 14 false 19 (.bin .neq .int (tt 16) (tt 18)), poT 20 14 19, mvT 21 20, gmT 21 false 22 1, sg 21 false 23 (.call 63 [(tt 22), (.func 64)]), poT 24 21 23, mvT 25 24, gmT 25 false 26 1, sg 25 false 27 (caT 20 26), sg 25 false 28 (.bin .gtr .int (tt 27) (ki 0)), poT 29 25 28] [0, 1, 29]) (.cond (tt 29) (.seq (.reg [mfT 4] [4]) .ret) .skip)) (.seq (.reg [s1 31 (.build [(.int .i64 0), (.int .i64 0)] [(0, (1, (ki 1)))]), mvT 32 0, s1 33 (cbT 14 31 32), mvT 30 33, exT 34 0 30, exT 35 1 30, mvT 5 34, mvT 6 35] [0, 1, 5, 6]) (.seq (.reg [mvT 37 0, mvT 38 1, s1 39 (cbT 18 37 38), mvT 36 39, exT 40 0 36, exT 41 1 36, s1 7 (.zero 36 [(.int .i64 0), (.int .u64 0)]), s0 (.store 2 (tt 7) (tt 40)), mvT 8 41] [0, 5, 6, 7, 8]) (.seq (.reg [mvT 43 0, mvT 44 5, s1 45 (cbT 18 43 44), mvT 42 45, exT 46 0 42, exT 47 1 42, s1 9 (.zero 36 [(.int .i64 0), (.int .u64 0)]), s0 (.store 2 (tt 9) (tt 46)), mvT 10 47] [6, 7, 8, 9, 10]) (.seq (.reg [mvT 48 6, s1 49 (.bin .eql .int (tt 48) (ki 0)), mvT 50 49, gmT 50 true 51 8, paT 52 50 51, mvT 53 52, gmT 53 true 54 10, paT 55 53 54, mvT 56 55, sg 56 true 57 (.loadN 2 (tt 7)), sg 56 true 58 (.loadN 2 (tt 9)), sg 56 true 59 (.bin .eql (.s [(0, (none, .int)), (1, (none, .int))]) (tt 57) (tt 58)), paT 60 56 59, mvT 4 60] [4]) .ret))))))⟩
theorem d_lengths_Least : dq Tryz.prog 22 s_lengths_Least = some s_lengths_Least := by kernel_rfl
end Go.Proofs.YtjlnnljohemifaaGreat
