/-
  The functions of the translation, read off: written by a program of ours; Lean's kernel checks each.
-/
import Derived.Test.YtkikanlkhkghcaaProg
import Derived.Test.YtkikanlkhkghcaaChecked
import Derived.Test.YtkikanlkhkghcaaFun
import Derived.Test.YtkikanlkhkghcaaA0
import Derived.Eval
import Derived.KernelRfl
set_option maxRecDepth 100000
namespace Go.Proofs.Ytkikanlkhkghcaa
open Go Go.Vc
/-- (*haycock/names.Names).Root -/
def s_names_Names_Root : Vc.Fn := ⟨2, [(.tmp 4), (.tmp 5)],
  (.seq (.reg [s1 4 (.mov (ki 0)), s1 5 (.mov (kb false))] [0, 1]) (.seq (.seq (.reg [s1 6 (.mov (tt 0)), s1 7 (.mov (tt 1)), s1 8 (.call 71 [(tt 6), (tt 7)]), s1 9 (.un .not (tt 8))] [0, 1, 9]) (.cond (tt 9) (.seq (.reg [s1 4 (.mov (ki 0)), s1 5 (.mov (kb false))] [4, 5]) .ret) .skip)) (.seq (.blk 0 (.loop [0, 1] (.seq (.seq (.reg [s1 10 (.mov (tt 0)), s1 11 (.nilCheck (tt 10)), s1 12 (.fieldAddr 0 (tt 11)), s1 13 (.load1 (tt 12)), s1 14 (.mov (tt 1)), s1 15 (.indexAddr 1 (tt 13) (tt 14)), s1 16 (.load1 (tt 15)), s1 17 (.mov (tt 1)), s1 18 (.bin .neq .int (tt 16) (tt 17))] [0, 1, 18]) (.cond (tt 18) .skip (.exit 0))) (.blk 1 (.seq (.reg [s1 19 (.mov (tt 0)), s1 20 (.nilCheck (tt 19)), s1 21 (.fieldAddr 0 (tt 20)), s1 22 (.load1 (tt 21)), s1 23 (.mov (tt 1)), s1 24 (.mov (tt 0)), s1 25 (.nilCheck (tt 24)), s1 26 (.fieldAddr 0 (tt 25)), s1 27 (.load1 (tt 26)), s1 28 (.mov (tt 0)), s1 29 (.nilCheck (tt 28)), s1 30 (.fieldAddr 0 (tt 29)), s1 31 (.load1 (tt 30)), s1 32 (.mov (tt 1)), s1 33 (.indexAddr 1 (tt 31) (tt 32)), s1 34 (.load1 (tt 33)), s1 35 (.indexAddr 1 (tt 27) (tt 34)), s1 36 (.load1 (tt 35)), s1 37 (.indexAddr 1 (tt 22) (tt 23)), s0 (.store 1 (tt 37) (tt 36))] [0, 1]) (.reg [s1 38 (.mov (tt 0)), s1 39 (.nilCheck (tt 38)), s1 40 (.fieldAddr 0 (tt 39)), s1 41 (.load1 (tt 40)), s1 42 (.mov (tt 1)), s1 43 (.indexAddr 1 (tt 41) (tt 42)), s1 44 (.load1 (tt 43)), s1 1 (.mov (tt 44))] [0, 1])))))) (.seq (.reg [s1 45 (.mov (tt 1)), s1 4 (.mov (tt 45)), s1 5 (.mov (kb true))] [4, 5]) .ret))))⟩
theorem d_names_Names_Root : decFn Try.prog 60 [([0, 1], []), ([0, 1, 9], []), ([4, 5], []), ([0, 1], []), ([0, 1, 18], []), ([0, 1], []), ([0, 1], []), ([4, 5], [])] = some s_names_Names_Root := by kernel_rfl
theorem c_names_Names_Root {args : List Value} {H : Hp} {K : Value → Hp → Prop} (h : s_names_Names_Root.vc Try.prog args H K) : CallH Try.prog 60 args H K := callH_of mixed d_names_Names_Root h

/-- haycock/haycockref05.Has -/
def s_ref05_Has : Vc.Fn := ⟨2, [(.tmp 4)],
  (.seq (.reg [s1 2 (.box 59 (tt 0)), s1 4 (.mov (kb false))] [1, 2]) (.seq (.reg [s1 5 (.mov (tt 1)), s1 6 (.bin .geq .int (tt 5) (ki 1)), s1 7 (.mov (tt 6)), sg 7 true 8 (.mov (tt 1)), sg 7 true 9 (.fieldAddr 0 (tt 2)), sg 7 true 10 (.load1 (tt 9)), sg 7 true 11 (.lenS (tt 10)), sg 7 true 12 (.bin .lss .int (tt 8) (tt 11)), s1 13 (.pick (tt 7) (tt 12) (kb false)), s1 14 (.mov (tt 13)), sg 14 true 15 (.fieldAddr 0 (tt 2)), sg 14 true 16 (.load1 (tt 15)), sg 14 true 17 (.mov (tt 1)), sg 14 true 18 (.indexAddr 1 (tt 16) (tt 17)), sg 14 true 19 (.load1 (tt 18)), s1 20 (.pick (tt 14) (tt 19) (kb false)), s1 4 (.mov (tt 20))] [4]) .ret))⟩
theorem d_ref05_Has : decFn Try.prog 61 [([1, 2], []), ([4], [])] = some s_ref05_Has := by kernel_rfl
theorem c_ref05_Has {args : List Value} {H : Hp} {K : Value → Hp → Prop} (h : s_ref05_Has.vc Try.prog args H K) : CallH Try.prog 61 args H K := callH_of mixed d_ref05_Has h

/-- haycock/haycockref05.with -/
def s_ref05_with : Vc.Fn := ⟨3, [(.agg 6 2)],
  (.seq (.reg [s1 3 (.box 59 (tt 0)), s1 5 (.box 100 (tt 2)), s1 6 (.zero 59 [(.slice none 0 0), (.slice none 0 0)])] [1, 3, 5, 6]) (.seq (.reg [s1 8 (.lit 100 0 [] []), s1 9 (.fieldAddr 1 (tt 3)), s1 10 (.load1 (tt 9)), s1 11 (.append 100 3 24 [(.int .i64 0), (.int .i64 0), (.int .u64 0)] (tt 8) (tt 10)), s1 7 (.mov (tt 11))] [1, 3, 5, 6, 7]) (.seq (.reg [s1 12 (.mov (tt 7)), s1 13 (.mov (tt 1)), s1 14 (.loadN 3 (tt 5)), s1 15 (.indexAddr 3 (tt 12) (tt 13)), s0 (.store 3 (tt 15) (tt 14))] [3, 6, 7]) (.seq (.reg [s1 16 (.fieldAddr 0 (tt 3)), s1 17 (.load1 (tt 16)), s1 18 (.mov (tt 7)), s1 19 (.build [(.slice none 0 0), (.slice none 0 0)] [(0, (1, (tt 17))), (1, (1, (tt 18)))]), s0 (.store 2 (tt 6) (tt 19))] [6]) .ret))))⟩
theorem d_ref05_with : decFn Try.prog 62 [([1, 3, 5, 6], []), ([1, 3, 5, 6, 7], []), ([3, 6, 7], []), ([6], [])] = some s_ref05_with := by kernel_rfl
theorem c_ref05_with {args : List Value} {H : Hp} {K : Value → Hp → Prop} (h : s_ref05_with.vc Try.prog args H K) : CallH Try.prog 62 args H K := callH_of mixed d_ref05_with h

/-- haycock/haycockref01.Less -/
def s_ref01_Less : Vc.Fn := ⟨2, [(.tmp 4)],
  (.seq (.reg [s1 2 (.box 40 (tt 0)), s1 3 (.box 40 (tt 1)), s1 4 (.mov (kb false))] [2, 3]) (.seq (.seq (.reg [s1 5 (.fieldAddr 0 (tt 2)), s1 6 (.load1 (tt 5)), s1 7 (.fieldAddr 0 (tt 3)), s1 8 (.load1 (tt 7)), s1 9 (.bin .neq .int (tt 6) (tt 8))] [2, 3, 9]) (.cond (tt 9) (.seq (.reg [s1 10 (.fieldAddr 0 (tt 2)), s1 11 (.load1 (tt 10)), s1 12 (.fieldAddr 0 (tt 3)), s1 13 (.load1 (tt 12)), s1 14 (.bin .lss .int (tt 11) (tt 13)), s1 4 (.mov (tt 14))] [4]) .ret) .skip)) (.seq (.reg [s1 15 (.fieldAddr 1 (tt 2)), s1 16 (.load1 (tt 15)), s1 17 (.fieldAddr 1 (tt 3)), s1 18 (.load1 (tt 17)), s1 19 (.bin .lss .int (tt 16) (tt 18)), s1 4 (.mov (tt 19))] [4]) .ret)))⟩
theorem d_ref01_Less : decFn Try.prog 63 [([2, 3], []), ([2, 3, 9], []), ([4], []), ([4], [])] = some s_ref01_Less := by kernel_rfl
theorem c_ref01_Less {args : List Value} {H : Hp} {K : Value → Hp → Prop} (h : s_ref01_Less.vc Try.prog args H K) : CallH Try.prog 63 args H K := callH_of mixed d_ref01_Less h

/-- haycock/entry.Less -/
def s_entry_Less : Vc.Fn := ⟨2, [(.tmp 4)],
  (.seq (.reg [s1 2 (.box 40 (tt 0)), s1 3 (.box 40 (tt 1)), s1 4 (.mov (kb false))] [2, 3]) (.seq (.reg [s1 5 (.loadN 2 (tt 2)), s1 6 (.loadN 2 (tt 3)), s1 7 (.call 66 [(tt 5), (tt 6)]), s1 8 (.bin .lss .int (tt 7) (ki 0)), s1 4 (.mov (tt 8))] [4]) .ret))⟩
theorem d_entry_Less : decFn Try.prog 64 [([2, 3], []), ([4], [])] = some s_entry_Less := by kernel_rfl
theorem c_entry_Less {args : List Value} {H : Hp} {K : Value → Hp → Prop} (h : s_entry_Less.vc Try.prog args H K) : CallH Try.prog 64 args H K := callH_of mixed d_entry_Less h

/-- (*haycock/gauge.Meter).Count -/
def s_gauge_Meter_Count : Vc.Fn := ⟨2, [],
  (.blk 0 (.seq (.reg [s1 13 (.mov (tt 1)), s1 14 (.bin .leq .int (tt 13) (ki 0)), s1 12 (.mov (tt 14))] [0, 1, 12]) (.cond (tt 12) .skip (.seq (.reg [s1 16 (.mov (tt 1)), s1 17 (.mov (tt 0)), s1 18 (.nilCheck (tt 17)), s1 19 (.fieldAddr 0 (tt 18)), s1 20 (.load1 (tt 19)), s1 21 (.bin .sub .int (ki 4611686018427387904) (tt 20)), s1 22 (.bin .gtr .int (tt 16) (tt 21)), s1 15 (.mov (tt 22))] [0, 1, 15]) (.cond (tt 15) (.reg [s1 23 (.mov (tt 0)), s1 24 (.nilCheck (tt 23)), s1 25 (.fieldAddr 0 (tt 24)), s0 (.store 1 (tt 25) (ki 4611686018427387904))] []) (.reg [s1 4 (.mov (tt 0)), s1 5 (.nilCheck (tt 4)), s1 6 (.fieldAddr 0 (tt 5)), s1 7 (.load1 (tt 6)), s1 8 (.mov (tt 1)), s1 9 (.bin .add .int (tt 7) (tt 8)), s1 10 (.nilCheck (tt 4)), s1 11 (.fieldAddr 0 (tt 10)), s0 (.store 1 (tt 11) (tt 9))] []))))))⟩
theorem d_gauge_Meter_Count : decFn Try.prog 65 [([0, 1, 12], []), ([0, 1, 15], []), ([], []), ([], [])] = some s_gauge_Meter_Count := by kernel_rfl
theorem c_gauge_Meter_Count {args : List Value} {H : Hp} {K : Value → Hp → Prop} (h : s_gauge_Meter_Count.vc Try.prog args H K) : CallH Try.prog 65 args H K := callH_of mixed d_gauge_Meter_Count h

/-- haycock/entry.Compare -/
def s_entry_Compare : Vc.Fn := ⟨2, [(.tmp 4)],
  (.seq (.reg [s1 2 (.box 40 (tt 0)), s1 3 (.box 40 (tt 1)), s1 4 (.mov (ki 0))] [2, 3]) (.seq (.reg [s1 5 (.fieldAddr 0 (tt 2)), s1 6 (.load1 (tt 5)), s1 7 (.fieldAddr 0 (tt 3)), s1 8 (.load1 (tt 7)), sq 9 (.call 74 [(tt 6), (tt 8)]), s1 10 (.fieldAddr 1 (tt 2)), s1 11 (.load1 (tt 10)), s1 12 (.fieldAddr 1 (tt 3)), s1 13 (.load1 (tt 12)), s1 14 (.call 75 [(tt 11), (tt 13)]), s1 15 (.lit 3 2 [(.int .i64 0), (.int .i64 0)] [(0, (1, (tt 9))), (1, (1, (tt 14)))]), s1 16 (.call 73 [(tt 15)]), s1 4 (.mov (tt 16))] [4]) .ret))⟩
theorem d_entry_Compare : decFn Try.prog 66 [([2, 3], []), ([4], [4])] = some s_entry_Compare := by kernel_rfl
theorem c_entry_Compare {args : List Value} {H : Hp} {K : Value → Hp → Prop} (h : s_entry_Compare.vc Try.prog args H K) : CallH Try.prog 66 args H K := callH_of mixed d_entry_Compare h

/-- haycock/haycockref05.Len -/
def s_ref05_Len : Vc.Fn := ⟨2, [(.tmp 4)],
  (.seq (.reg [s1 2 (.box 59 (tt 0)), s1 4 (.mov (ki 0))] [1, 2]) (.seq (.reg [s1 5 (.mov (ki 0))] [1, 2, 5]) (.seq (.seq (.reg [s1 8 (.fieldAddr 1 (tt 2)), s1 9 (.load1 (tt 8)), s1 10 (.lenS (tt 9)), s1 11 (.mov (ki 0))] [1, 5, 9, 10, 11]) (.blk 0 (.loop [1, 5, 9, 10, 11] (.seq (.reg [s1 12 (.bin .lss .int (tt 11) (tt 10))] [1, 5, 9, 10, 11, 12]) (.seq (.cond (tt 12) .skip (.exit 0)) (.seq (.blk 1 (.seq (.reg [s1 13 (.indexAddr 3 (tt 9) (tt 11)), s1 14 (.loadN 3 (tt 13)), s1 7 (.zero 100 [(.int .i64 0), (.int .i64 0), (.int .u64 0)]), s0 (.store 3 (tt 7) (tt 14))] [1, 5, 7, 9, 10, 11]) (.seq (.reg [s1 15 (.fieldAddr 0 (tt 7)), s1 16 (.load1 (tt 15)), s1 17 (.mov (tt 1)), s1 18 (.bin .eql .int (tt 16) (tt 17)), s1 19 (.mov (tt 18)), sg 19 true 20 (.mov (tt 1)), sg 19 true 21 (.bin .gtr .int (tt 20) (ki 0)), s1 22 (.pick (tt 19) (tt 21) (kb false))] [1, 5, 9, 10, 11, 22]) (.cond (tt 22) (.reg [s1 23 (.mov (tt 5)), s1 24 (.bin .add .int (tt 23) (ki 1)), s1 5 (.mov (tt 24))] [1, 5, 9, 10, 11]) .skip)))) (.reg [s1 25 (.bin .add .int (tt 11) (ki 1)), s1 11 (.mov (tt 25))] [1, 5, 9, 10, 11]))))))) (.seq (.reg [s1 26 (.mov (tt 5)), s1 4 (.mov (tt 26))] [4]) .ret))))⟩
theorem d_ref05_Len : decFn Try.prog 67 [([1, 2], []), ([1, 2, 5], []), ([1, 5, 9, 10, 11], []), ([1, 5, 9, 10, 11], []), ([1, 5, 9, 10, 11, 12], []), ([1, 5, 7, 9, 10, 11], []), ([1, 5, 9, 10, 11, 22], []), ([1, 5, 9, 10, 11], []), ([1, 5, 9, 10, 11], []), ([4], [])] = some s_ref05_Len := by kernel_rfl
theorem c_ref05_Len {args : List Value} {H : Hp} {K : Value → Hp → Prop} (h : s_ref05_Len.vc Try.prog args H K) : CallH Try.prog 67 args H K := callH_of mixed d_ref05_Len h

/-- (*haycock/sift.Row).up -/
def s_sift_Row_up : Vc.Fn := ⟨4, [(.tmp 8)],
  (.seq (.reg [s1 8 (.mov (ki 0))] [0, 1, 2, 3]) (.blk 0 (.loop [0, 1, 2, 3] (.blk 1 (.seq (.reg [s1 12 (.mov (tt 0)), s1 13 (.nilCheck (tt 12)), s1 14 (.fieldAddr 0 (tt 13)), s1 15 (.load1 (tt 14)), s1 16 (.mov (tt 2)), s1 17 (.call 18 [(tt 15), (tt 16)]), s1 11 (.mov (tt 17)), s1 18 (.extract 0 (tt 11)), s1 19 (.extract 1 (tt 11)), s1 9 (.mov (tt 18)), s1 10 (.mov (tt 19))] [0, 1, 2, 3, 9, 10]) (.seq (.seq (.reg [s1 20 (.mov (tt 10)), s1 21 (.un .not (tt 20)), s1 22 (.mov (tt 21)), sg 22 false 23 (.mov (tt 1)), sg 22 false 24 (.mov (tt 3)), sg 22 false 25 (.mov (tt 0)), sg 22 false 26 (.nilCheck (tt 25)), sg 22 false 27 (.fieldAddr 1 (tt 26)), sg 22 false 28 (.load1 (tt 27)), sg 22 false 29 (.mov (tt 9)), sg 22 false 30 (.indexAddr 1 (tt 28) (tt 29)), sg 22 false 31 (.load1 (tt 30)), sg 22 false 32 (.func (.method "Ahead") [(tt 23)] []), sg 22 false 33 (.nilCheck (tt 32)), sg 22 false 34 (.mov (tt 23)), sg 22 false 35 (.invoke (tt 34) "Ahead" [(tt 24), (tt 31)]), sg 22 false 36 (.un .not (tt 35)), s1 37 (.pick (tt 22) (kb true) (tt 36))] [0, 1, 2, 3, 9, 37]) (.cond (tt 37) (.seq (.reg [s1 38 (.mov (tt 0)), s1 39 (.mov (tt 2)), s1 40 (.mov (tt 3)), s1 41 (.call 76 [(tt 38), (tt 39), (tt 40)])] [2]) (.seq (.reg [s1 42 (.mov (tt 2)), s1 8 (.mov (tt 42))] [8]) .ret)) .skip)) (.seq (.reg [s1 43 (.mov (tt 0)), s1 44 (.mov (tt 2)), s1 45 (.mov (tt 0)), s1 46 (.nilCheck (tt 45)), s1 47 (.fieldAddr 1 (tt 46)), s1 48 (.load1 (tt 47)), s1 49 (.mov (tt 9)), s1 50 (.indexAddr 1 (tt 48) (tt 49)), s1 51 (.load1 (tt 50)), s1 52 (.call 76 [(tt 43), (tt 44), (tt 51)])] [0, 1, 3, 9]) (.reg [s1 53 (.mov (tt 9)), s1 2 (.mov (tt 53))] [0, 1, 2, 3]))))))))⟩
theorem d_sift_Row_up : decFn Try.prog 68 [([0, 1, 2, 3], []), ([0, 1, 2, 3], []), ([0, 1, 2, 3, 9, 10], []), ([0, 1, 2, 3, 9, 37], []), ([2], []), ([8], []), ([0, 1, 3, 9], []), ([0, 1, 2, 3], [])] = some s_sift_Row_up := by kernel_rfl
theorem c_sift_Row_up {args : List Value} {H : Hp} {K : Value → Hp → Prop} (h : s_sift_Row_up.vc Try.prog args H K) : CallH Try.prog 68 args H K := callH_of mixed d_sift_Row_up h

/-- (*haycock/sift.Row).down -/
def s_sift_Row_down : Vc.Fn := ⟨4, [],
  (.blk 0 (.loop [0, 1, 2, 3] (.blk 1 (.seq (.reg [s1 11 (.mov (tt 0)), s1 12 (.mov (tt 1)), s1 13 (.mov (tt 2)), s1 14 (.call 77 [(tt 11), (tt 12), (tt 13)]), s1 10 (.mov (tt 14)), s1 15 (.extract 0 (tt 10)), s1 16 (.extract 1 (tt 10)), s1 8 (.mov (tt 15)), s1 9 (.mov (tt 16))] [0, 1, 2, 3, 8, 9]) (.seq (.seq (.reg [s1 17 (.mov (tt 9)), s1 18 (.un .not (tt 17)), s1 19 (.mov (tt 18)), sg 19 false 20 (.mov (tt 1)), sg 19 false 21 (.mov (tt 0)), sg 19 false 22 (.nilCheck (tt 21)), sg 19 false 23 (.fieldAddr 1 (tt 22)), sg 19 false 24 (.load1 (tt 23)), sg 19 false 25 (.mov (tt 8)), sg 19 false 26 (.indexAddr 1 (tt 24) (tt 25)), sg 19 false 27 (.load1 (tt 26)), sg 19 false 28 (.mov (tt 3)), sg 19 false 29 (.func (.method "Ahead") [(tt 20)] []), sg 19 false 30 (.nilCheck (tt 29)), sg 19 false 31 (.mov (tt 20)), sg 19 false 32 (.invoke (tt 31) "Ahead" [(tt 27), (tt 28)]), sg 19 false 33 (.un .not (tt 32)), s1 34 (.pick (tt 19) (kb true) (tt 33))] [0, 1, 2, 3, 8, 34]) (.cond (tt 34) (.seq (.reg [s1 35 (.mov (tt 0)), s1 36 (.mov (tt 2)), s1 37 (.mov (tt 3)), s1 38 (.call 76 [(tt 35), (tt 36), (tt 37)])] []) .ret) .skip)) (.seq (.reg [s1 39 (.mov (tt 0)), s1 40 (.mov (tt 2)), s1 41 (.mov (tt 0)), s1 42 (.nilCheck (tt 41)), s1 43 (.fieldAddr 1 (tt 42)), s1 44 (.load1 (tt 43)), s1 45 (.mov (tt 8)), s1 46 (.indexAddr 1 (tt 44) (tt 45)), s1 47 (.load1 (tt 46)), s1 48 (.call 76 [(tt 39), (tt 40), (tt 47)])] [0, 1, 3, 8]) (.reg [s1 49 (.mov (tt 8)), s1 2 (.mov (tt 49))] [0, 1, 2, 3])))))))⟩
theorem d_sift_Row_down : decFn Try.prog 69 [([0, 1, 2, 3], []), ([0, 1, 2, 3, 8, 9], []), ([0, 1, 2, 3, 8, 34], []), ([], []), ([0, 1, 3, 8], []), ([0, 1, 2, 3], [])] = some s_sift_Row_down := by kernel_rfl
theorem c_sift_Row_down {args : List Value} {H : Hp} {K : Value → Hp → Prop} (h : s_sift_Row_down.vc Try.prog args H K) : CallH Try.prog 69 args H K := callH_of mixed d_sift_Row_down h

/-- slices.Clone[[]int,int] -/
def s_slices_Clone_int_int : Vc.Fn := ⟨1, [(.tmp 2)],
  (.seq (.reg [s1 2 (.mov (.const (.slice none 0 0)))] [0]) (.seq (.seq (.reg [s1 3 (.mov (tt 0)), s1 4 (.bin .eql .slc (tt 3) (.const (.slice none 0 0)))] [0, 4]) (.cond (tt 4) (.seq (.reg [s1 2 (.mov (.const (.slice none 0 0)))] [2]) .ret) .skip)) (.seq (.reg [s1 5 (.lit 3 0 [] []), s1 6 (.mov (tt 0)), s1 7 (.append 3 1 8 [(.int .i64 0)] (tt 5) (tt 6)), s1 2 (.mov (tt 7))] [2]) .ret)))⟩
theorem d_slices_Clone_int_int : decFn Try.prog 70 [([0], []), ([0, 4], []), ([2], []), ([2], [])] = some s_slices_Clone_int_int := by kernel_rfl
theorem c_slices_Clone_int_int {args : List Value} {H : Hp} {K : Value → Hp → Prop} (h : s_slices_Clone_int_int.vc Try.prog args H K) : CallH Try.prog 70 args H K := callH_of mixed d_slices_Clone_int_int h

/-- (*haycock/names.Names).made -/
def s_names_Names_made : Vc.Fn := ⟨2, [(.tmp 4)],
  (.seq (.reg [s1 4 (.mov (kb false))] [0, 1]) (.seq (.reg [s1 5 (.mov (tt 1)), s1 6 (.bin .gtr .int (tt 5) (ki 0)), s1 7 (.mov (tt 6)), sg 7 true 8 (.mov (tt 1)), sg 7 true 9 (.mov (tt 0)), sg 7 true 10 (.nilCheck (tt 9)), sg 7 true 11 (.fieldAddr 0 (tt 10)), sg 7 true 12 (.load1 (tt 11)), sg 7 true 13 (.lenS (tt 12)), sg 7 true 14 (.bin .lss .int (tt 8) (tt 13)), s1 15 (.pick (tt 7) (tt 14) (kb false)), s1 4 (.mov (tt 15))] [4]) .ret))⟩
theorem d_names_Names_made : decFn Try.prog 71 [([0, 1], []), ([4], [])] = some s_names_Names_made := by kernel_rfl
theorem c_names_Names_made {args : List Value} {H : Hp} {K : Value → Hp → Prop} (h : s_names_Names_made.vc Try.prog args H K) : CallH Try.prog 71 args H K := callH_of mixed d_names_Names_made h

/-- (*haycock/names.Names).Last -/
def s_names_Names_Last : Vc.Fn := ⟨1, [(.tmp 2)],
  (.seq (.reg [s1 2 (.mov (ki 0))] [0]) (.seq (.reg [s1 3 (.mov (tt 0)), s1 4 (.nilCheck (tt 3)), s1 5 (.fieldAddr 0 (tt 4)), s1 6 (.load1 (tt 5)), s1 7 (.lenS (tt 6)), s1 8 (.bin .sub .int (tt 7) (ki 1)), s1 2 (.mov (tt 8))] [2]) .ret))⟩
theorem d_names_Names_Last : decFn Try.prog 72 [([0], []), ([2], [])] = some s_names_Names_Last := by kernel_rfl
theorem c_names_Names_Last {args : List Value} {H : Hp} {K : Value → Hp → Prop} (h : s_names_Names_Last.vc Try.prog args H K) : CallH Try.prog 72 args H K := callH_of mixed d_names_Names_Last h

/-- cmp.Or[int] -/
def s_cmp_Or_int : Vc.Fn := ⟨1, [(.tmp 2)],
  (.seq (.reg [s1 2 (.mov (ki 0))] [0]) (.seq (.reg [s1 3 (.mov (ki 0))] [0, 3]) (.seq (.seq (.reg [s1 6 (.mov (tt 0)), s1 7 (.lenS (tt 6)), s1 8 (.mov (ki 0))] [3, 6, 7, 8]) (.blk 0 (.loop [3, 6, 7, 8] (.seq (.reg [s1 9 (.bin .lss .int (tt 8) (tt 7))] [3, 6, 7, 8, 9]) (.seq (.cond (tt 9) .skip (.exit 0)) (.seq (.blk 1 (.seq (.reg [s1 10 (.indexAddr 1 (tt 6) (tt 8)), s1 11 (.load1 (tt 10)), s1 5 (.mov (tt 11))] [3, 5, 6, 7, 8]) (.seq (.reg [s1 12 (.mov (tt 5)), s1 13 (.mov (tt 3)), s1 14 (.bin .neq .int (tt 12) (tt 13))] [3, 5, 6, 7, 8, 14]) (.cond (tt 14) (.seq (.reg [s1 15 (.mov (tt 5)), s1 2 (.mov (tt 15))] [2]) .ret) .skip)))) (.reg [s1 16 (.bin .add .int (tt 8) (ki 1)), s1 8 (.mov (tt 16))] [3, 6, 7, 8]))))))) (.seq (.reg [s1 17 (.mov (tt 3)), s1 2 (.mov (tt 17))] [2]) .ret))))⟩
theorem d_cmp_Or_int : decFn Try.prog 73 [([0], []), ([0, 3], []), ([3, 6, 7, 8], []), ([3, 6, 7, 8], []), ([3, 6, 7, 8, 9], []), ([3, 5, 6, 7, 8], []), ([3, 5, 6, 7, 8, 14], []), ([2], []), ([3, 6, 7, 8], []), ([2], [])] = some s_cmp_Or_int := by kernel_rfl
theorem c_cmp_Or_int {args : List Value} {H : Hp} {K : Value → Hp → Prop} (h : s_cmp_Or_int.vc Try.prog args H K) : CallH Try.prog 73 args H K := callH_of mixed d_cmp_Or_int h

/-- cmp.Compare[int64] -/
def s_cmp_Compare_int64 : Vc.Fn := ⟨2, [(.tmp 4)],
  (.seq (.reg [s1 4 (.mov (ki 0))] [0, 1]) (.seq (.reg [s1 7 (.mov (tt 0)), s1 8 (.call 78 [(tt 7)]), s1 5 (.mov (tt 8))] [0, 1, 5]) (.seq (.reg [s1 9 (.mov (tt 1)), s1 10 (.call 78 [(tt 9)]), s1 6 (.mov (tt 10))] [0, 1, 5, 6]) (.seq (.seq (.reg [s1 11 (.mov (tt 5))] [0, 1, 6, 11]) (.cond (tt 11) (.seq (.seq (.reg [s1 12 (.mov (tt 6))] [12]) (.cond (tt 12) (.seq (.reg [s1 4 (.mov (ki 0))] [4]) .ret) .skip)) (.seq (.reg [s1 4 (.mov (ki (-1)))] [4]) .ret)) .skip)) (.seq (.seq (.reg [s1 13 (.mov (tt 6))] [0, 1, 13]) (.cond (tt 13) (.seq (.reg [s1 4 (.mov (ki 1))] [4]) .ret) .skip)) (.seq (.seq (.reg [s1 14 (.mov (tt 0)), s1 15 (.mov (tt 1)), s1 16 (.bin .lss .int (tt 14) (tt 15))] [0, 1, 16]) (.cond (tt 16) (.seq (.reg [s1 4 (.mov (ki (-1)))] [4]) .ret) .skip)) (.seq (.seq (.reg [s1 17 (.mov (tt 0)), s1 18 (.mov (tt 1)), s1 19 (.bin .gtr .int (tt 17) (tt 18))] [19]) (.cond (tt 19) (.seq (.reg [s1 4 (.mov (ki 1))] [4]) .ret) .skip)) (.seq (.reg [s1 4 (.mov (ki 0))] [4]) .ret))))))))⟩
theorem d_cmp_Compare_int64 : decFn Try.prog 74 [([0, 1], []), ([0, 1, 5], []), ([0, 1, 5, 6], []), ([0, 1, 6, 11], []), ([12], []), ([4], []), ([4], []), ([0, 1, 13], []), ([4], []), ([0, 1, 16], []), ([4], []), ([19], []), ([4], []), ([4], [])] = some s_cmp_Compare_int64 := by kernel_rfl
theorem c_cmp_Compare_int64 {args : List Value} {H : Hp} {K : Value → Hp → Prop} (h : s_cmp_Compare_int64.vc Try.prog args H K) : CallH Try.prog 74 args H K := callH_of mixed d_cmp_Compare_int64 h

/-- cmp.Compare[uint64] -/
def s_cmp_Compare_uint64 : Vc.Fn := ⟨2, [(.tmp 4)],
  (.seq (.reg [s1 4 (.mov (ki 0))] [0, 1]) (.seq (.reg [s1 7 (.mov (tt 0)), s1 8 (.call 79 [(tt 7)]), s1 5 (.mov (tt 8))] [0, 1, 5]) (.seq (.reg [s1 9 (.mov (tt 1)), s1 10 (.call 79 [(tt 9)]), s1 6 (.mov (tt 10))] [0, 1, 5, 6]) (.seq (.seq (.reg [s1 11 (.mov (tt 5))] [0, 1, 6, 11]) (.cond (tt 11) (.seq (.seq (.reg [s1 12 (.mov (tt 6))] [12]) (.cond (tt 12) (.seq (.reg [s1 4 (.mov (ki 0))] [4]) .ret) .skip)) (.seq (.reg [s1 4 (.mov (ki (-1)))] [4]) .ret)) .skip)) (.seq (.seq (.reg [s1 13 (.mov (tt 6))] [0, 1, 13]) (.cond (tt 13) (.seq (.reg [s1 4 (.mov (ki 1))] [4]) .ret) .skip)) (.seq (.seq (.reg [s1 14 (.mov (tt 0)), s1 15 (.mov (tt 1)), s1 16 (.bin .lss .int (tt 14) (tt 15))] [0, 1, 16]) (.cond (tt 16) (.seq (.reg [s1 4 (.mov (ki (-1)))] [4]) .ret) .skip)) (.seq (.seq (.reg [s1 17 (.mov (tt 0)), s1 18 (.mov (tt 1)), s1 19 (.bin .gtr .int (tt 17) (tt 18))] [19]) (.cond (tt 19) (.seq (.reg [s1 4 (.mov (ki 1))] [4]) .ret) .skip)) (.seq (.reg [s1 4 (.mov (ki 0))] [4]) .ret))))))))⟩
theorem d_cmp_Compare_uint64 : decFn Try.prog 75 [([0, 1], []), ([0, 1, 5], []), ([0, 1, 5, 6], []), ([0, 1, 6, 11], []), ([12], []), ([4], []), ([4], []), ([0, 1, 13], []), ([4], []), ([0, 1, 16], []), ([4], []), ([19], []), ([4], []), ([4], [])] = some s_cmp_Compare_uint64 := by kernel_rfl
theorem c_cmp_Compare_uint64 {args : List Value} {H : Hp} {K : Value → Hp → Prop} (h : s_cmp_Compare_uint64.vc Try.prog args H K) : CallH Try.prog 75 args H K := callH_of mixed d_cmp_Compare_uint64 h

/-- (*haycock/sift.Row).set -/
def s_sift_Row_set : Vc.Fn := ⟨3, [],
  (.seq (.reg [s1 6 (.mov (tt 0)), s1 7 (.nilCheck (tt 6)), s1 8 (.fieldAddr 1 (tt 7)), s1 9 (.load1 (tt 8)), s1 10 (.mov (tt 1)), s1 11 (.mov (tt 2)), s1 12 (.indexAddr 1 (tt 9) (tt 10)), s0 (.store 1 (tt 12) (tt 11))] [0, 1, 2]) (.reg [s1 13 (.mov (tt 0)), s1 14 (.nilCheck (tt 13)), s1 15 (.fieldAddr 2 (tt 14)), s1 16 (.load1 (tt 15)), s1 17 (.mov (tt 2)), s1 18 (.mov (tt 1)), s0 (.update .int (tt 16) (tt 17) (tt 18))] []))⟩
theorem d_sift_Row_set : decFn Try.prog 76 [([0, 1, 2], []), ([], [])] = some s_sift_Row_set := by kernel_rfl
theorem c_sift_Row_set {args : List Value} {H : Hp} {K : Value → Hp → Prop} (h : s_sift_Row_set.vc Try.prog args H K) : CallH Try.prog 76 args H K := callH_of mixed d_sift_Row_set h

/-- (*haycock/sift.Row).first -/
def s_sift_Row_first : Vc.Fn := ⟨3, [(.tmp 6), (.tmp 7)],
  (.seq (.reg [s1 6 (.mov (ki 0)), s1 7 (.mov (kb false))] [0, 1, 2]) (.seq (.reg [s1 14 (.mov (tt 0)), s1 15 (.nilCheck (tt 14)), s1 16 (.fieldAddr 0 (tt 15)), s1 17 (.load1 (tt 16)), s1 18 (.mov (tt 2)), s1 19 (.call 20 [(tt 17), (tt 18), (ki 1)]), s1 13 (.mov (tt 19)), s1 20 (.extract 0 (tt 13)), s1 21 (.extract 1 (tt 13)), s1 8 (.mov (tt 20)), s1 9 (.mov (tt 21))] [0, 1, 2, 8, 9]) (.seq (.seq (.reg [s1 22 (.mov (tt 9)), s1 23 (.un .not (tt 22)), s1 24 (.mov (tt 23)), sg 24 false 25 (.mov (tt 8)), sg 24 false 26 (.mov (tt 0)), sg 24 false 27 (.nilCheck (tt 26)), sg 24 false 28 (.fieldAddr 1 (tt 27)), sg 24 false 29 (.load1 (tt 28)), sg 24 false 30 (.lenS (tt 29)), sg 24 false 31 (.bin .geq .int (tt 25) (tt 30)), s1 32 (.pick (tt 24) (kb true) (tt 31))] [0, 1, 2, 8, 32]) (.cond (tt 32) (.seq (.reg [s1 6 (.mov (ki 0)), s1 7 (.mov (kb false))] [6, 7]) .ret) .skip)) (.seq (.seq (.reg [s1 10 (.mov (ki 2))] [0, 1, 2, 8, 10]) (.blk 0 (.loop [0, 1, 2, 8, 10] (.seq (.seq (.reg [s1 33 (.mov (tt 10)), s1 34 (.mov (tt 0)), s1 35 (.nilCheck (tt 34)), s1 36 (.fieldAddr 0 (tt 35)), s1 37 (.load1 (tt 36)), s1 38 (.bin .leq .int (tt 33) (tt 37))] [0, 1, 2, 8, 10, 38]) (.cond (tt 38) .skip (.exit 0))) (.seq (.blk 1 (.seq (.reg [s1 42 (.mov (tt 0)), s1 43 (.nilCheck (tt 42)), s1 44 (.fieldAddr 0 (tt 43)), s1 45 (.load1 (tt 44)), s1 46 (.mov (tt 2)), s1 47 (.mov (tt 10)), s1 48 (.call 20 [(tt 45), (tt 46), (tt 47)]), s1 41 (.mov (tt 48)), s1 49 (.extract 0 (tt 41)), s1 50 (.extract 1 (tt 41)), s1 11 (.mov (tt 49)), s1 12 (.mov (tt 50))] [0, 1, 2, 8, 10, 11]) (.seq (.reg [s1 51 (.mov (tt 11)), s1 52 (.mov (tt 0)), s1 53 (.nilCheck (tt 52)), s1 54 (.fieldAddr 1 (tt 53)), s1 55 (.load1 (tt 54)), s1 56 (.lenS (tt 55)), s1 57 (.bin .lss .int (tt 51) (tt 56)), s1 58 (.mov (tt 57)), sg 58 true 59 (.mov (tt 1)), sg 58 true 60 (.mov (tt 0)), sg 58 true 61 (.nilCheck (tt 60)), sg 58 true 62 (.fieldAddr 1 (tt 61)), sg 58 true 63 (.load1 (tt 62)), sg 58 true 64 (.mov (tt 11)), sg 58 true 65 (.indexAddr 1 (tt 63) (tt 64)), sg 58 true 66 (.load1 (tt 65)), sg 58 true 67 (.mov (tt 0)), sg 58 true 68 (.nilCheck (tt 67)), sg 58 true 69 (.fieldAddr 1 (tt 68)), sg 58 true 70 (.load1 (tt 69)), sg 58 true 71 (.mov (tt 8)), sg 58 true 72 (.indexAddr 1 (tt 70) (tt 71)), sg 58 true 73 (.load1 (tt 72)), sg 58 true 74 (.func (.method "Ahead") [(tt 59)] []), sg 58 true 75 (.nilCheck (tt 74)), sg 58 true 76 (.mov (tt 59)), sg 58 true 77 (.invoke (tt 76) "Ahead" [(tt 66), (tt 73)]), s1 78 (.pick (tt 58) (tt 77) (kb false))] [0, 1, 2, 8, 10, 11, 78]) (.cond (tt 78) (.reg [s1 79 (.mov (tt 11)), s1 8 (.mov (tt 79))] [0, 1, 2, 8, 10]) .skip)))) (.reg [s1 39 (.mov (tt 10)), s1 40 (.bin .add .int (tt 39) (ki 1)), s1 10 (.mov (tt 40))] [0, 1, 2, 8, 10])))))) (.seq (.reg [s1 80 (.mov (tt 8)), s1 6 (.mov (tt 80)), s1 7 (.mov (kb true))] [6, 7]) .ret)))))⟩
theorem d_sift_Row_first : decFn Try.prog 77 [([0, 1, 2], []), ([0, 1, 2, 8, 9], []), ([0, 1, 2, 8, 32], []), ([6, 7], []), ([0, 1, 2, 8, 10], []), ([0, 1, 2, 8, 10], []), ([0, 1, 2, 8, 10, 38], []), ([0, 1, 2, 8, 10, 11], []), ([0, 1, 2, 8, 10, 11, 78], []), ([0, 1, 2, 8, 10], []), ([0, 1, 2, 8, 10], []), ([6, 7], [])] = some s_sift_Row_first := by kernel_rfl
theorem c_sift_Row_first {args : List Value} {H : Hp} {K : Value → Hp → Prop} (h : s_sift_Row_first.vc Try.prog args H K) : CallH Try.prog 77 args H K := callH_of mixed d_sift_Row_first h

/-- cmp.isNaN[int64] -/
def s_cmp_isNaN_int64 : Vc.Fn := ⟨1, [(.tmp 2)],
  (.seq (.reg [s1 2 (.mov (kb false))] [0]) (.seq (.reg [s1 3 (.mov (tt 0)), s1 4 (.mov (tt 0)), s1 5 (.bin .neq .int (tt 3) (tt 4)), s1 2 (.mov (tt 5))] [2]) .ret))⟩
theorem d_cmp_isNaN_int64 : decFn Try.prog 78 [([0], []), ([2], [])] = some s_cmp_isNaN_int64 := by kernel_rfl
theorem c_cmp_isNaN_int64 {args : List Value} {H : Hp} {K : Value → Hp → Prop} (h : s_cmp_isNaN_int64.vc Try.prog args H K) : CallH Try.prog 78 args H K := callH_of mixed d_cmp_isNaN_int64 h

/-- cmp.isNaN[uint64] -/
def s_cmp_isNaN_uint64 : Vc.Fn := ⟨1, [(.tmp 2)],
  (.seq (.reg [s1 2 (.mov (kb false))] [0]) (.seq (.reg [s1 3 (.mov (tt 0)), s1 4 (.mov (tt 0)), s1 5 (.bin .neq .int (tt 3) (tt 4)), s1 2 (.mov (tt 5))] [2]) .ret))⟩
theorem d_cmp_isNaN_uint64 : decFn Try.prog 79 [([0], []), ([2], [])] = some s_cmp_isNaN_uint64 := by kernel_rfl
theorem c_cmp_isNaN_uint64 {args : List Value} {H : Hp} {K : Value → Hp → Prop} (h : s_cmp_isNaN_uint64.vc Try.prog args H K) : CallH Try.prog 79 args H K := callH_of mixed d_cmp_isNaN_uint64 h

/-- (*haycock/haycocklaw07.keys).Ahead -/
def s_law07_keys_Ahead : Vc.Fn := ⟨3, [(.tmp 6)],
  (.seq (.reg [s1 6 (.mov (kb false))] [0, 1, 2]) (.seq (.reg [s1 7 (.mov (tt 0)), s1 8 (.nilCheck (tt 7)), s1 9 (.fieldAddr 1 (tt 8)), s1 10 (.load1 (tt 9)), s1 11 (.bin .add .int (tt 10) (ki 1)), s1 12 (.nilCheck (tt 7)), s1 13 (.fieldAddr 1 (tt 12)), s0 (.store 1 (tt 13) (tt 11))] [0, 1, 2]) (.seq (.reg [s1 14 (.mov (tt 0)), s1 15 (.mov (tt 1)), s1 16 (.mov (tt 2)), s1 17 (.call 45 [(tt 14), (tt 15), (tt 16)]), s1 6 (.mov (tt 17))] [6]) .ret)))⟩
theorem d_law07_keys_Ahead : decFn Try.prog 97 [([0, 1, 2], []), ([0, 1, 2], []), ([6], [])] = some s_law07_keys_Ahead := by kernel_rfl
theorem c_law07_keys_Ahead {args : List Value} {H : Hp} {K : Value → Hp → Prop} (h : s_law07_keys_Ahead.vc Try.prog args H K) : CallH Try.prog 97 args H K := callH_of mixed d_law07_keys_Ahead h

end Go.Proofs.Ytkikanlkhkghcaa
