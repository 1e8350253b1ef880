/- Facts about the types and functions of the program: sizes, values at the beginning, where fields lie. No condition: lemmas alone. -/
import Derived.Test.YtlaommikkfojfaaGreatDoorChecked
import Derived.Test.YtlaommikkfojfaaGreatDoorFlDraw
import Derived.KernelRfl
namespace Go.Proofs
open Go Go.Fl
set_option maxRecDepth 100000
theorem Tryz.et1 : ElemT Tryz.prog 1 1 8 (.nilFunc) := .of (by kernel_rfl) rfl (by decide) rfl
theorem Tryz.et2 : ElemT Tryz.prog 2 1 8 (.int .i64 (0)) := .of (by kernel_rfl) rfl (by decide) rfl
theorem Tryz.et3 : ElemT Tryz.prog 3 1 8 (.int .i64 (0)) := .of (by kernel_rfl) rfl (by decide) rfl
theorem Tryz.et4 : ElemT Tryz.prog 4 1 1 (.bool false) := .of (by kernel_rfl) rfl (by decide) rfl
theorem Tryz.et5 : ElemT Tryz.prog 5 1 1 (.int .u8 (0)) := .of (by kernel_rfl) rfl (by decide) rfl
theorem Tryz.et6 : ElemT Tryz.prog 6 1 1 (.int .u8 (0)) := .of (by kernel_rfl) rfl (by decide) rfl
theorem Tryz.et7 : ElemT Tryz.prog 7 4 24 (.agg #[.int .i64 (0), .int .i64 (0), .bool false, .int .u8 (0)]) := .of (by kernel_rfl) rfl (by decide) rfl
theorem Tryz.fo7_0 : FieldOff Tryz.prog 7 0 0 := ⟨_, _, Tryz.underlying7, rfl, rfl, 1, by decide, Tryz.sizeOf2⟩
theorem Tryz.fo7_1 : FieldOff Tryz.prog 7 1 1 := ⟨_, _, Tryz.underlying7, rfl, rfl, 1, by decide, Tryz.sizeOf3⟩
theorem Tryz.fo7_2 : FieldOff Tryz.prog 7 2 2 := ⟨_, _, Tryz.underlying7, rfl, rfl, 1, by decide, Tryz.sizeOf4⟩
theorem Tryz.fo7_3 : FieldOff Tryz.prog 7 3 3 := ⟨_, _, Tryz.underlying7, rfl, rfl, 1, by decide, Tryz.sizeOf6⟩
theorem Tryz.pl7 : Places Tryz.prog 7 (.agg #[.int .i64 (0), .int .i64 (0), .bool false, .int .u8 (0)]) [(0, 1), (1, 1), (2, 1), (3, 1)] := ⟨Tryz.zeroValue7, _, Tryz.underlying7, fun w => by simp only [Array.mapM_eq_mapM_toList, List.mapM_cons, List.mapM_nil, Sem.run_map, Sem.run_bind, Result.andThen_ok, Sem.run_pure, Tryz.sizeOf2, Tryz.sizeOf3, Tryz.sizeOf4, Tryz.sizeOf6]⟩
theorem Tryz.et8 : ElemT Tryz.prog 8 4 24 (.agg #[.int .i64 (0), .int .i64 (0), .bool false, .int .u8 (0)]) := .of (by kernel_rfl) rfl (by decide) rfl
theorem Tryz.fo8_0 : FieldOff Tryz.prog 8 0 0 := ⟨_, _, Tryz.underlying8, rfl, rfl, 1, by decide, Tryz.sizeOf2⟩
theorem Tryz.fo8_1 : FieldOff Tryz.prog 8 1 1 := ⟨_, _, Tryz.underlying8, rfl, rfl, 1, by decide, Tryz.sizeOf3⟩
theorem Tryz.fo8_2 : FieldOff Tryz.prog 8 2 2 := ⟨_, _, Tryz.underlying8, rfl, rfl, 1, by decide, Tryz.sizeOf4⟩
theorem Tryz.fo8_3 : FieldOff Tryz.prog 8 3 3 := ⟨_, _, Tryz.underlying8, rfl, rfl, 1, by decide, Tryz.sizeOf6⟩
theorem Tryz.pl8 : Places Tryz.prog 8 (.agg #[.int .i64 (0), .int .i64 (0), .bool false, .int .u8 (0)]) [(0, 1), (1, 1), (2, 1), (3, 1)] := ⟨Tryz.zeroValue8, _, Tryz.underlying8, fun w => by simp only [Array.mapM_eq_mapM_toList, List.mapM_cons, List.mapM_nil, Sem.run_map, Sem.run_bind, Result.andThen_ok, Sem.run_pure, Tryz.sizeOf2, Tryz.sizeOf3, Tryz.sizeOf4, Tryz.sizeOf6]⟩
theorem Tryz.et9 : ElemT Tryz.prog 9 1 16 (.string ⟨#[]⟩) := .of (by kernel_rfl) rfl (by decide) rfl
theorem Tryz.et10 : ElemT Tryz.prog 10 1 16 (.string ⟨#[]⟩) := .of (by kernel_rfl) rfl (by decide) rfl
theorem Tryz.et11 : ElemT Tryz.prog 11 1 16 (.string ⟨#[]⟩) := .of (by kernel_rfl) rfl (by decide) rfl
theorem Tryz.et12 : ElemT Tryz.prog 12 1 8 (.int .u64 (0)) := .of (by kernel_rfl) rfl (by decide) rfl
theorem Tryz.et13 : ElemT Tryz.prog 13 2 24 (.agg #[.string ⟨#[]⟩, .int .u64 (0)]) := .of (by kernel_rfl) rfl (by decide) rfl
theorem Tryz.fo13_0 : FieldOff Tryz.prog 13 0 0 := ⟨_, _, Tryz.underlying13, rfl, rfl, 1, by decide, Tryz.sizeOf9⟩
theorem Tryz.fo13_1 : FieldOff Tryz.prog 13 1 1 := ⟨_, _, Tryz.underlying13, rfl, rfl, 1, by decide, Tryz.sizeOf12⟩
theorem Tryz.pl13 : Places Tryz.prog 13 (.agg #[.string ⟨#[]⟩, .int .u64 (0)]) [(0, 1), (1, 1)] := ⟨Tryz.zeroValue13, _, Tryz.underlying13, fun w => by simp only [Array.mapM_eq_mapM_toList, List.mapM_cons, List.mapM_nil, Sem.run_map, Sem.run_bind, Result.andThen_ok, Sem.run_pure, Tryz.sizeOf9, Tryz.sizeOf12]⟩
theorem Tryz.et14 : ElemT Tryz.prog 14 2 24 (.agg #[.string ⟨#[]⟩, .int .u64 (0)]) := .of (by kernel_rfl) rfl (by decide) rfl
theorem Tryz.fo14_0 : FieldOff Tryz.prog 14 0 0 := ⟨_, _, Tryz.underlying14, rfl, rfl, 1, by decide, Tryz.sizeOf9⟩
theorem Tryz.fo14_1 : FieldOff Tryz.prog 14 1 1 := ⟨_, _, Tryz.underlying14, rfl, rfl, 1, by decide, Tryz.sizeOf12⟩
theorem Tryz.pl14 : Places Tryz.prog 14 (.agg #[.string ⟨#[]⟩, .int .u64 (0)]) [(0, 1), (1, 1)] := ⟨Tryz.zeroValue14, _, Tryz.underlying14, fun w => by simp only [Array.mapM_eq_mapM_toList, List.mapM_cons, List.mapM_nil, Sem.run_map, Sem.run_bind, Result.andThen_ok, Sem.run_pure, Tryz.sizeOf9, Tryz.sizeOf12]⟩
theorem Tryz.et15 : ElemT Tryz.prog 15 1 8 (.pointer none) := .of (by kernel_rfl) rfl (by decide) rfl
theorem Tryz.et16 : ElemT Tryz.prog 16 1 8 (.pointer none) := .of (by kernel_rfl) rfl (by decide) rfl
theorem Tryz.et17 : ElemT Tryz.prog 17 1 8 (.pointer none) := .of (by kernel_rfl) rfl (by decide) rfl
theorem Tryz.et18 : ElemT Tryz.prog 18 1 8 (.agg #[.pointer none]) := .of (by kernel_rfl) rfl (by decide) rfl
theorem Tryz.fo18_0 : FieldOff Tryz.prog 18 0 0 := ⟨_, _, Tryz.underlying18, rfl, rfl, 1, by decide, Tryz.sizeOf17⟩
theorem Tryz.pl18 : Places Tryz.prog 18 (.agg #[.pointer none]) [(0, 1)] := ⟨Tryz.zeroValue18, _, Tryz.underlying18, fun w => by simp only [Array.mapM_eq_mapM_toList, List.mapM_cons, List.mapM_nil, Sem.run_map, Sem.run_bind, Result.andThen_ok, Sem.run_pure, Tryz.sizeOf17]⟩
theorem Tryz.et19 : ElemT Tryz.prog 19 1 8 (.agg #[.pointer none]) := .of (by kernel_rfl) rfl (by decide) rfl
theorem Tryz.fo19_0 : FieldOff Tryz.prog 19 0 0 := ⟨_, _, Tryz.underlying19, rfl, rfl, 1, by decide, Tryz.sizeOf17⟩
theorem Tryz.pl19 : Places Tryz.prog 19 (.agg #[.pointer none]) [(0, 1)] := ⟨Tryz.zeroValue19, _, Tryz.underlying19, fun w => by simp only [Array.mapM_eq_mapM_toList, List.mapM_cons, List.mapM_nil, Sem.run_map, Sem.run_bind, Result.andThen_ok, Sem.run_pure, Tryz.sizeOf17]⟩
theorem Tryz.et21 : ElemT Tryz.prog 21 1 4 (.int .i32 (0)) := .of (by kernel_rfl) rfl (by decide) rfl
theorem Tryz.et22 : ElemT Tryz.prog 22 1 24 (.slice none 0 0) := .of (by kernel_rfl) rfl (by decide) rfl
theorem Tryz.et23 : ElemT Tryz.prog 23 1 8 (.int .i64 (0)) := .of (by kernel_rfl) rfl (by decide) rfl
theorem Tryz.et25 : ElemT Tryz.prog 25 1 8 (.nilFunc) := .of (by kernel_rfl) rfl (by decide) rfl
theorem Tryz.et26 : ElemT Tryz.prog 26 1 24 (.slice none 0 0) := .of (by kernel_rfl) rfl (by decide) rfl
theorem Tryz.et28 : ElemT Tryz.prog 28 1 8 (.nilFunc) := .of (by kernel_rfl) rfl (by decide) rfl
theorem Tryz.et29 : ElemT Tryz.prog 29 1 8 (.nilFunc) := .of (by kernel_rfl) rfl (by decide) rfl
theorem Tryz.et30 : ElemT Tryz.prog 30 1 8 (.nilFunc) := .of (by kernel_rfl) rfl (by decide) rfl
theorem Tryz.et31 : ElemT Tryz.prog 31 1 8 (.nilFunc) := .of (by kernel_rfl) rfl (by decide) rfl
theorem Tryz.et32 : ElemT Tryz.prog 32 1 8 (.pointer none) := .of (by kernel_rfl) rfl (by decide) rfl
theorem Tryz.et34 : ElemT Tryz.prog 34 1 8 (.nilFunc) := .of (by kernel_rfl) rfl (by decide) rfl
theorem Tryz.et35 : ElemT Tryz.prog 35 1 8 (.nilFunc) := .of (by kernel_rfl) rfl (by decide) rfl
theorem Tryz.et36 : ElemT Tryz.prog 36 1 24 (.agg #[.slice none 0 0]) := .of (by kernel_rfl) rfl (by decide) rfl
theorem Tryz.fo36_0 : FieldOff Tryz.prog 36 0 0 := ⟨_, _, Tryz.underlying36, rfl, rfl, 1, by decide, Tryz.sizeOf22⟩
theorem Tryz.pl36 : Places Tryz.prog 36 (.agg #[.slice none 0 0]) [(0, 1)] := ⟨Tryz.zeroValue36, _, Tryz.underlying36, fun w => by simp only [Array.mapM_eq_mapM_toList, List.mapM_cons, List.mapM_nil, Sem.run_map, Sem.run_bind, Result.andThen_ok, Sem.run_pure, Tryz.sizeOf22]⟩
theorem Tryz.et37 : ElemT Tryz.prog 37 1 24 (.agg #[.slice none 0 0]) := .of (by kernel_rfl) rfl (by decide) rfl
theorem Tryz.fo37_0 : FieldOff Tryz.prog 37 0 0 := ⟨_, _, Tryz.underlying37, rfl, rfl, 1, by decide, Tryz.sizeOf22⟩
theorem Tryz.pl37 : Places Tryz.prog 37 (.agg #[.slice none 0 0]) [(0, 1)] := ⟨Tryz.zeroValue37, _, Tryz.underlying37, fun w => by simp only [Array.mapM_eq_mapM_toList, List.mapM_cons, List.mapM_nil, Sem.run_map, Sem.run_bind, Result.andThen_ok, Sem.run_pure, Tryz.sizeOf22]⟩
theorem Tryz.et39 : ElemT Tryz.prog 39 1 8 (.nilFunc) := .of (by kernel_rfl) rfl (by decide) rfl
theorem Tryz.et40 : ElemT Tryz.prog 40 1 8 (.nilFunc) := .of (by kernel_rfl) rfl (by decide) rfl
theorem Tryz.et41 : ElemT Tryz.prog 41 1 8 (.nilFunc) := .of (by kernel_rfl) rfl (by decide) rfl
theorem Tryz.et42 : ElemT Tryz.prog 42 1 8 (.nilFunc) := .of (by kernel_rfl) rfl (by decide) rfl
theorem Tryz.et43 : ElemT Tryz.prog 43 1 8 (.nilFunc) := .of (by kernel_rfl) rfl (by decide) rfl
theorem Tryz.et44 : ElemT Tryz.prog 44 1 8 (.nilFunc) := .of (by kernel_rfl) rfl (by decide) rfl
theorem Tryz.et45 : ElemT Tryz.prog 45 1 8 (.nilFunc) := .of (by kernel_rfl) rfl (by decide) rfl
theorem Tryz.et46 : ElemT Tryz.prog 46 1 8 (.nilFunc) := .of (by kernel_rfl) rfl (by decide) rfl
theorem Tryz.et47 : ElemT Tryz.prog 47 1 8 (.nilFunc) := .of (by kernel_rfl) rfl (by decide) rfl
theorem Tryz.et48 : ElemT Tryz.prog 48 1 8 (.map none) := .of (by kernel_rfl) rfl (by decide) rfl
theorem Tryz.et49 : ElemT Tryz.prog 49 1 8 (.map none) := .of (by kernel_rfl) rfl (by decide) rfl
theorem Tryz.et50 : ElemT Tryz.prog 50 5 56 (.agg #[.slice none 0 0, .map none, .map none, .map none, .map none]) := .of (by kernel_rfl) rfl (by decide) rfl
theorem Tryz.fo50_0 : FieldOff Tryz.prog 50 0 0 := ⟨_, _, Tryz.underlying50, rfl, rfl, 1, by decide, Tryz.sizeOf22⟩
theorem Tryz.fo50_1 : FieldOff Tryz.prog 50 1 1 := ⟨_, _, Tryz.underlying50, rfl, rfl, 1, by decide, Tryz.sizeOf48⟩
theorem Tryz.fo50_2 : FieldOff Tryz.prog 50 2 2 := ⟨_, _, Tryz.underlying50, rfl, rfl, 1, by decide, Tryz.sizeOf48⟩
theorem Tryz.fo50_3 : FieldOff Tryz.prog 50 3 3 := ⟨_, _, Tryz.underlying50, rfl, rfl, 1, by decide, Tryz.sizeOf49⟩
theorem Tryz.fo50_4 : FieldOff Tryz.prog 50 4 4 := ⟨_, _, Tryz.underlying50, rfl, rfl, 1, by decide, Tryz.sizeOf49⟩
theorem Tryz.pl50 : Places Tryz.prog 50 (.agg #[.slice none 0 0, .map none, .map none, .map none, .map none]) [(0, 1), (1, 1), (2, 1), (3, 1), (4, 1)] := ⟨Tryz.zeroValue50, _, Tryz.underlying50, fun w => by simp only [Array.mapM_eq_mapM_toList, List.mapM_cons, List.mapM_nil, Sem.run_map, Sem.run_bind, Result.andThen_ok, Sem.run_pure, Tryz.sizeOf22, Tryz.sizeOf48, Tryz.sizeOf49]⟩
theorem Tryz.et51 : ElemT Tryz.prog 51 5 56 (.agg #[.slice none 0 0, .map none, .map none, .map none, .map none]) := .of (by kernel_rfl) rfl (by decide) rfl
theorem Tryz.fo51_0 : FieldOff Tryz.prog 51 0 0 := ⟨_, _, Tryz.underlying51, rfl, rfl, 1, by decide, Tryz.sizeOf22⟩
theorem Tryz.fo51_1 : FieldOff Tryz.prog 51 1 1 := ⟨_, _, Tryz.underlying51, rfl, rfl, 1, by decide, Tryz.sizeOf48⟩
theorem Tryz.fo51_2 : FieldOff Tryz.prog 51 2 2 := ⟨_, _, Tryz.underlying51, rfl, rfl, 1, by decide, Tryz.sizeOf48⟩
theorem Tryz.fo51_3 : FieldOff Tryz.prog 51 3 3 := ⟨_, _, Tryz.underlying51, rfl, rfl, 1, by decide, Tryz.sizeOf49⟩
theorem Tryz.fo51_4 : FieldOff Tryz.prog 51 4 4 := ⟨_, _, Tryz.underlying51, rfl, rfl, 1, by decide, Tryz.sizeOf49⟩
theorem Tryz.pl51 : Places Tryz.prog 51 (.agg #[.slice none 0 0, .map none, .map none, .map none, .map none]) [(0, 1), (1, 1), (2, 1), (3, 1), (4, 1)] := ⟨Tryz.zeroValue51, _, Tryz.underlying51, fun w => by simp only [Array.mapM_eq_mapM_toList, List.mapM_cons, List.mapM_nil, Sem.run_map, Sem.run_bind, Result.andThen_ok, Sem.run_pure, Tryz.sizeOf22, Tryz.sizeOf48, Tryz.sizeOf49]⟩
theorem Tryz.et52 : ElemT Tryz.prog 52 1 24 (.slice none 0 0) := .of (by kernel_rfl) rfl (by decide) rfl
theorem Tryz.et53 : ElemT Tryz.prog 53 1 24 (.slice none 0 0) := .of (by kernel_rfl) rfl (by decide) rfl
theorem Tryz.et54 : ElemT Tryz.prog 54 5 80 (.agg #[.int .i64 (0), .int .i64 (0), .slice none 0 0, .string ⟨#[]⟩, .slice none 0 0]) := .of (by kernel_rfl) rfl (by decide) rfl
theorem Tryz.fo54_0 : FieldOff Tryz.prog 54 0 0 := ⟨_, _, Tryz.underlying54, rfl, rfl, 1, by decide, Tryz.sizeOf3⟩
theorem Tryz.fo54_1 : FieldOff Tryz.prog 54 1 1 := ⟨_, _, Tryz.underlying54, rfl, rfl, 1, by decide, Tryz.sizeOf3⟩
theorem Tryz.fo54_2 : FieldOff Tryz.prog 54 2 2 := ⟨_, _, Tryz.underlying54, rfl, rfl, 1, by decide, Tryz.sizeOf52⟩
theorem Tryz.fo54_3 : FieldOff Tryz.prog 54 3 3 := ⟨_, _, Tryz.underlying54, rfl, rfl, 1, by decide, Tryz.sizeOf9⟩
theorem Tryz.fo54_4 : FieldOff Tryz.prog 54 4 4 := ⟨_, _, Tryz.underlying54, rfl, rfl, 1, by decide, Tryz.sizeOf53⟩
theorem Tryz.pl54 : Places Tryz.prog 54 (.agg #[.int .i64 (0), .int .i64 (0), .slice none 0 0, .string ⟨#[]⟩, .slice none 0 0]) [(0, 1), (1, 1), (2, 1), (3, 1), (4, 1)] := ⟨Tryz.zeroValue54, _, Tryz.underlying54, fun w => by simp only [Array.mapM_eq_mapM_toList, List.mapM_cons, List.mapM_nil, Sem.run_map, Sem.run_bind, Result.andThen_ok, Sem.run_pure, Tryz.sizeOf3, Tryz.sizeOf9, Tryz.sizeOf52, Tryz.sizeOf53]⟩
theorem Tryz.et55 : ElemT Tryz.prog 55 5 80 (.agg #[.int .i64 (0), .int .i64 (0), .slice none 0 0, .string ⟨#[]⟩, .slice none 0 0]) := .of (by kernel_rfl) rfl (by decide) rfl
theorem Tryz.fo55_0 : FieldOff Tryz.prog 55 0 0 := ⟨_, _, Tryz.underlying55, rfl, rfl, 1, by decide, Tryz.sizeOf3⟩
theorem Tryz.fo55_1 : FieldOff Tryz.prog 55 1 1 := ⟨_, _, Tryz.underlying55, rfl, rfl, 1, by decide, Tryz.sizeOf3⟩
theorem Tryz.fo55_2 : FieldOff Tryz.prog 55 2 2 := ⟨_, _, Tryz.underlying55, rfl, rfl, 1, by decide, Tryz.sizeOf52⟩
theorem Tryz.fo55_3 : FieldOff Tryz.prog 55 3 3 := ⟨_, _, Tryz.underlying55, rfl, rfl, 1, by decide, Tryz.sizeOf9⟩
theorem Tryz.fo55_4 : FieldOff Tryz.prog 55 4 4 := ⟨_, _, Tryz.underlying55, rfl, rfl, 1, by decide, Tryz.sizeOf53⟩
theorem Tryz.pl55 : Places Tryz.prog 55 (.agg #[.int .i64 (0), .int .i64 (0), .slice none 0 0, .string ⟨#[]⟩, .slice none 0 0]) [(0, 1), (1, 1), (2, 1), (3, 1), (4, 1)] := ⟨Tryz.zeroValue55, _, Tryz.underlying55, fun w => by simp only [Array.mapM_eq_mapM_toList, List.mapM_cons, List.mapM_nil, Sem.run_map, Sem.run_bind, Result.andThen_ok, Sem.run_pure, Tryz.sizeOf3, Tryz.sizeOf9, Tryz.sizeOf52, Tryz.sizeOf53]⟩
theorem Tryz.et56 : ElemT Tryz.prog 56 1 8 (.nilFunc) := .of (by kernel_rfl) rfl (by decide) rfl
theorem Tryz.et57 : ElemT Tryz.prog 57 1 8 (.nilFunc) := .of (by kernel_rfl) rfl (by decide) rfl
theorem Tryz.et58 : ElemT Tryz.prog 58 1 8 (.nilFunc) := .of (by kernel_rfl) rfl (by decide) rfl
theorem Tryz.et59 : ElemT Tryz.prog 59 1 8 (.nilFunc) := .of (by kernel_rfl) rfl (by decide) rfl
theorem Tryz.et60 : ElemT Tryz.prog 60 1 8 (.nilFunc) := .of (by kernel_rfl) rfl (by decide) rfl
theorem Tryz.et61 : ElemT Tryz.prog 61 1 8 (.nilFunc) := .of (by kernel_rfl) rfl (by decide) rfl
theorem Tryz.et62 : ElemT Tryz.prog 62 1 8 (.nilFunc) := .of (by kernel_rfl) rfl (by decide) rfl
theorem Tryz.et64 : ElemT Tryz.prog 64 1 8 (.nilFunc) := .of (by kernel_rfl) rfl (by decide) rfl
theorem Tryz.et65 : ElemT Tryz.prog 65 1 8 (.pointer none) := .of (by kernel_rfl) rfl (by decide) rfl
theorem Tryz.et66 : ElemT Tryz.prog 66 1 8 (.nilFunc) := .of (by kernel_rfl) rfl (by decide) rfl
theorem Tryz.et67 : ElemT Tryz.prog 67 1 8 (.nilFunc) := .of (by kernel_rfl) rfl (by decide) rfl
theorem Tryz.et68 : ElemT Tryz.prog 68 1 8 (.nilFunc) := .of (by kernel_rfl) rfl (by decide) rfl
theorem Tryz.et69 : ElemT Tryz.prog 69 1 8 (.map none) := .of (by kernel_rfl) rfl (by decide) rfl
theorem Tryz.et70 : ElemT Tryz.prog 70 1 8 (.nilFunc) := .of (by kernel_rfl) rfl (by decide) rfl
theorem Tryz.et71 : ElemT Tryz.prog 71 1 8 (.nilFunc) := .of (by kernel_rfl) rfl (by decide) rfl
theorem Tryz.et72 : ElemT Tryz.prog 72 1 8 (.nilFunc) := .of (by kernel_rfl) rfl (by decide) rfl
theorem Tryz.et73 : ElemT Tryz.prog 73 1 24 (.slice none 0 0) := .of (by kernel_rfl) rfl (by decide) rfl
theorem Tryz.et74 : ElemT Tryz.prog 74 1 8 (.nilFunc) := .of (by kernel_rfl) rfl (by decide) rfl
theorem Tryz.et75 : ElemT Tryz.prog 75 1 8 (.pointer none) := .of (by kernel_rfl) rfl (by decide) rfl
theorem Tryz.et76 : ElemT Tryz.prog 76 2 32 (.agg #[.pointer none, .slice none 0 0]) := .of (by kernel_rfl) rfl (by decide) rfl
theorem Tryz.fo76_0 : FieldOff Tryz.prog 76 0 0 := ⟨_, _, Tryz.underlying76, rfl, rfl, 1, by decide, Tryz.sizeOf75⟩
theorem Tryz.fo76_1 : FieldOff Tryz.prog 76 1 1 := ⟨_, _, Tryz.underlying76, rfl, rfl, 1, by decide, Tryz.sizeOf73⟩
theorem Tryz.pl76 : Places Tryz.prog 76 (.agg #[.pointer none, .slice none 0 0]) [(0, 1), (1, 1)] := ⟨Tryz.zeroValue76, _, Tryz.underlying76, fun w => by simp only [Array.mapM_eq_mapM_toList, List.mapM_cons, List.mapM_nil, Sem.run_map, Sem.run_bind, Result.andThen_ok, Sem.run_pure, Tryz.sizeOf73, Tryz.sizeOf75]⟩
theorem Tryz.et77 : ElemT Tryz.prog 77 2 32 (.agg #[.pointer none, .slice none 0 0]) := .of (by kernel_rfl) rfl (by decide) rfl
theorem Tryz.fo77_0 : FieldOff Tryz.prog 77 0 0 := ⟨_, _, Tryz.underlying77, rfl, rfl, 1, by decide, Tryz.sizeOf75⟩
theorem Tryz.fo77_1 : FieldOff Tryz.prog 77 1 1 := ⟨_, _, Tryz.underlying77, rfl, rfl, 1, by decide, Tryz.sizeOf73⟩
theorem Tryz.pl77 : Places Tryz.prog 77 (.agg #[.pointer none, .slice none 0 0]) [(0, 1), (1, 1)] := ⟨Tryz.zeroValue77, _, Tryz.underlying77, fun w => by simp only [Array.mapM_eq_mapM_toList, List.mapM_cons, List.mapM_nil, Sem.run_map, Sem.run_bind, Result.andThen_ok, Sem.run_pure, Tryz.sizeOf73, Tryz.sizeOf75]⟩
theorem Tryz.et78 : ElemT Tryz.prog 78 1 8 (.nilFunc) := .of (by kernel_rfl) rfl (by decide) rfl
theorem Tryz.et82 : ElemT Tryz.prog 82 1 8 (.nilFunc) := .of (by kernel_rfl) rfl (by decide) rfl
theorem Tryz.et83 : ElemT Tryz.prog 83 1 8 (.nilFunc) := .of (by kernel_rfl) rfl (by decide) rfl
theorem Tryz.et84 : ElemT Tryz.prog 84 1 8 (.nilFunc) := .of (by kernel_rfl) rfl (by decide) rfl
theorem Tryz.et85 : ElemT Tryz.prog 85 1 8 (.nilFunc) := .of (by kernel_rfl) rfl (by decide) rfl
theorem Tryz.et86 : ElemT Tryz.prog 86 1 8 (.nilFunc) := .of (by kernel_rfl) rfl (by decide) rfl
theorem Tryz.et87 : ElemT Tryz.prog 87 1 24 (.slice none 0 0) := .of (by kernel_rfl) rfl (by decide) rfl
theorem Tryz.et88 : ElemT Tryz.prog 88 5 64 (.agg #[.int .i64 (0), .int .i64 (0), .int .i64 (0), .string ⟨#[]⟩, .slice none 0 0]) := .of (by kernel_rfl) rfl (by decide) rfl
theorem Tryz.fo88_0 : FieldOff Tryz.prog 88 0 0 := ⟨_, _, Tryz.underlying88, rfl, rfl, 1, by decide, Tryz.sizeOf3⟩
theorem Tryz.fo88_1 : FieldOff Tryz.prog 88 1 1 := ⟨_, _, Tryz.underlying88, rfl, rfl, 1, by decide, Tryz.sizeOf3⟩
theorem Tryz.fo88_2 : FieldOff Tryz.prog 88 2 2 := ⟨_, _, Tryz.underlying88, rfl, rfl, 1, by decide, Tryz.sizeOf3⟩
theorem Tryz.fo88_3 : FieldOff Tryz.prog 88 3 3 := ⟨_, _, Tryz.underlying88, rfl, rfl, 1, by decide, Tryz.sizeOf9⟩
theorem Tryz.fo88_4 : FieldOff Tryz.prog 88 4 4 := ⟨_, _, Tryz.underlying88, rfl, rfl, 1, by decide, Tryz.sizeOf87⟩
theorem Tryz.pl88 : Places Tryz.prog 88 (.agg #[.int .i64 (0), .int .i64 (0), .int .i64 (0), .string ⟨#[]⟩, .slice none 0 0]) [(0, 1), (1, 1), (2, 1), (3, 1), (4, 1)] := ⟨Tryz.zeroValue88, _, Tryz.underlying88, fun w => by simp only [Array.mapM_eq_mapM_toList, List.mapM_cons, List.mapM_nil, Sem.run_map, Sem.run_bind, Result.andThen_ok, Sem.run_pure, Tryz.sizeOf3, Tryz.sizeOf9, Tryz.sizeOf87]⟩
theorem Tryz.et89 : ElemT Tryz.prog 89 5 64 (.agg #[.int .i64 (0), .int .i64 (0), .int .i64 (0), .string ⟨#[]⟩, .slice none 0 0]) := .of (by kernel_rfl) rfl (by decide) rfl
theorem Tryz.fo89_0 : FieldOff Tryz.prog 89 0 0 := ⟨_, _, Tryz.underlying89, rfl, rfl, 1, by decide, Tryz.sizeOf3⟩
theorem Tryz.fo89_1 : FieldOff Tryz.prog 89 1 1 := ⟨_, _, Tryz.underlying89, rfl, rfl, 1, by decide, Tryz.sizeOf3⟩
theorem Tryz.fo89_2 : FieldOff Tryz.prog 89 2 2 := ⟨_, _, Tryz.underlying89, rfl, rfl, 1, by decide, Tryz.sizeOf3⟩
theorem Tryz.fo89_3 : FieldOff Tryz.prog 89 3 3 := ⟨_, _, Tryz.underlying89, rfl, rfl, 1, by decide, Tryz.sizeOf9⟩
theorem Tryz.fo89_4 : FieldOff Tryz.prog 89 4 4 := ⟨_, _, Tryz.underlying89, rfl, rfl, 1, by decide, Tryz.sizeOf87⟩
theorem Tryz.pl89 : Places Tryz.prog 89 (.agg #[.int .i64 (0), .int .i64 (0), .int .i64 (0), .string ⟨#[]⟩, .slice none 0 0]) [(0, 1), (1, 1), (2, 1), (3, 1), (4, 1)] := ⟨Tryz.zeroValue89, _, Tryz.underlying89, fun w => by simp only [Array.mapM_eq_mapM_toList, List.mapM_cons, List.mapM_nil, Sem.run_map, Sem.run_bind, Result.andThen_ok, Sem.run_pure, Tryz.sizeOf3, Tryz.sizeOf9, Tryz.sizeOf87]⟩
theorem Tryz.et90 : ElemT Tryz.prog 90 6 80 (.agg #[.string ⟨#[]⟩, .int .i64 (0), .int .i64 (0), .int .i64 (0), .string ⟨#[]⟩, .slice none 0 0]) := .of (by kernel_rfl) rfl (by decide) rfl
theorem Tryz.fo90_0 : FieldOff Tryz.prog 90 0 0 := ⟨_, _, Tryz.underlying90, rfl, rfl, 1, by decide, Tryz.sizeOf9⟩
theorem Tryz.fo90_1 : FieldOff Tryz.prog 90 1 1 := ⟨_, _, Tryz.underlying90, rfl, rfl, 5, by decide, Tryz.sizeOf89⟩
theorem Tryz.pl90 : Places Tryz.prog 90 (.agg #[.string ⟨#[]⟩, .int .i64 (0), .int .i64 (0), .int .i64 (0), .string ⟨#[]⟩, .slice none 0 0]) [(0, 1), (1, 5)] := ⟨Tryz.zeroValue90, _, Tryz.underlying90, fun w => by simp only [Array.mapM_eq_mapM_toList, List.mapM_cons, List.mapM_nil, Sem.run_map, Sem.run_bind, Result.andThen_ok, Sem.run_pure, Tryz.sizeOf9, Tryz.sizeOf89]⟩
theorem Tryz.et91 : ElemT Tryz.prog 91 6 80 (.agg #[.string ⟨#[]⟩, .int .i64 (0), .int .i64 (0), .int .i64 (0), .string ⟨#[]⟩, .slice none 0 0]) := .of (by kernel_rfl) rfl (by decide) rfl
theorem Tryz.fo91_0 : FieldOff Tryz.prog 91 0 0 := ⟨_, _, Tryz.underlying91, rfl, rfl, 1, by decide, Tryz.sizeOf9⟩
theorem Tryz.fo91_1 : FieldOff Tryz.prog 91 1 1 := ⟨_, _, Tryz.underlying91, rfl, rfl, 5, by decide, Tryz.sizeOf89⟩
theorem Tryz.pl91 : Places Tryz.prog 91 (.agg #[.string ⟨#[]⟩, .int .i64 (0), .int .i64 (0), .int .i64 (0), .string ⟨#[]⟩, .slice none 0 0]) [(0, 1), (1, 5)] := ⟨Tryz.zeroValue91, _, Tryz.underlying91, fun w => by simp only [Array.mapM_eq_mapM_toList, List.mapM_cons, List.mapM_nil, Sem.run_map, Sem.run_bind, Result.andThen_ok, Sem.run_pure, Tryz.sizeOf9, Tryz.sizeOf89]⟩
theorem Tryz.et92 : ElemT Tryz.prog 92 1 8 (.nilFunc) := .of (by kernel_rfl) rfl (by decide) rfl
theorem Tryz.et93 : ElemT Tryz.prog 93 1 8 (.nilFunc) := .of (by kernel_rfl) rfl (by decide) rfl
theorem Tryz.et94 : ElemT Tryz.prog 94 1 8 (.nilFunc) := .of (by kernel_rfl) rfl (by decide) rfl
theorem Tryz.et95 : ElemT Tryz.prog 95 1 8 (.nilFunc) := .of (by kernel_rfl) rfl (by decide) rfl
theorem Tryz.et96 : ElemT Tryz.prog 96 1 8 (.nilFunc) := .of (by kernel_rfl) rfl (by decide) rfl
theorem Tryz.et97 : ElemT Tryz.prog 97 1 8 (.nilFunc) := .of (by kernel_rfl) rfl (by decide) rfl
theorem Tryz.et99 : ElemT Tryz.prog 99 1 8 (.nilFunc) := .of (by kernel_rfl) rfl (by decide) rfl
theorem Tryz.et100 : ElemT Tryz.prog 100 1 8 (.nilFunc) := .of (by kernel_rfl) rfl (by decide) rfl
theorem Tryz.et101 : ElemT Tryz.prog 101 1 8 (.nilFunc) := .of (by kernel_rfl) rfl (by decide) rfl
theorem Tryz.et102 : ElemT Tryz.prog 102 1 8 (.nilFunc) := .of (by kernel_rfl) rfl (by decide) rfl
theorem Tryz.et103 : ElemT Tryz.prog 103 1 8 (.pointer none) := .of (by kernel_rfl) rfl (by decide) rfl
theorem Tryz.et104 : ElemT Tryz.prog 104 1 8 (.map none) := .of (by kernel_rfl) rfl (by decide) rfl
theorem Tryz.et105 : ElemT Tryz.prog 105 1 8 (.nilFunc) := .of (by kernel_rfl) rfl (by decide) rfl
theorem Tryz.et106 : ElemT Tryz.prog 106 1 8 (.nilFunc) := .of (by kernel_rfl) rfl (by decide) rfl
theorem Tryz.et107 : ElemT Tryz.prog 107 1 8 (.nilFunc) := .of (by kernel_rfl) rfl (by decide) rfl
theorem Tryz.et108 : ElemT Tryz.prog 108 1 8 (.int .u64 (0)) := .of (by kernel_rfl) rfl (by decide) rfl
theorem Tryz.et109 : ElemT Tryz.prog 109 1 8 (.nilFunc) := .of (by kernel_rfl) rfl (by decide) rfl
theorem Tryz.et111 : ElemT Tryz.prog 111 1 8 (.nilFunc) := .of (by kernel_rfl) rfl (by decide) rfl
theorem Tryz.et112 : ElemT Tryz.prog 112 1 8 (.nilFunc) := .of (by kernel_rfl) rfl (by decide) rfl
theorem Tryz.et114 : ElemT Tryz.prog 114 1 8 (.nilFunc) := .of (by kernel_rfl) rfl (by decide) rfl
theorem Tryz.et115 : ElemT Tryz.prog 115 1 8 (.nilFunc) := .of (by kernel_rfl) rfl (by decide) rfl
theorem Tryz.et116 : ElemT Tryz.prog 116 1 8 (.nilFunc) := .of (by kernel_rfl) rfl (by decide) rfl
theorem Tryz.et117 : ElemT Tryz.prog 117 1 8 (.nilFunc) := .of (by kernel_rfl) rfl (by decide) rfl
theorem Tryz.et118 : ElemT Tryz.prog 118 1 8 (.nilFunc) := .of (by kernel_rfl) rfl (by decide) rfl
theorem Tryz.et119 : ElemT Tryz.prog 119 1 8 (.int .i64 (0)) := .of (by kernel_rfl) rfl (by decide) rfl
theorem Tryz.et121 : ElemT Tryz.prog 121 1 8 (.nilFunc) := .of (by kernel_rfl) rfl (by decide) rfl
theorem Tryz.et122 : ElemT Tryz.prog 122 1 8 (.nilFunc) := .of (by kernel_rfl) rfl (by decide) rfl
theorem Tryz.et123 : ElemT Tryz.prog 123 1 8 (.nilFunc) := .of (by kernel_rfl) rfl (by decide) rfl
theorem Tryz.et124 : ElemT Tryz.prog 124 1 8 (.nilFunc) := .of (by kernel_rfl) rfl (by decide) rfl
theorem Tryz.et125 : ElemT Tryz.prog 125 1 8 (.nilFunc) := .of (by kernel_rfl) rfl (by decide) rfl
theorem Tryz.et126 : ElemT Tryz.prog 126 1 8 (.nilFunc) := .of (by kernel_rfl) rfl (by decide) rfl
theorem Tryz.et127 : ElemT Tryz.prog 127 1 4 (.int .u32 (0)) := .of (by kernel_rfl) rfl (by decide) rfl
theorem Tryz.et128 : ElemT Tryz.prog 128 1 8 (.nilFunc) := .of (by kernel_rfl) rfl (by decide) rfl
theorem Tryz.et129 : ElemT Tryz.prog 129 1 8 (.int .u64 (0)) := .of (by kernel_rfl) rfl (by decide) rfl
theorem Tryz.et130 : ElemT Tryz.prog 130 1 8 (.nilFunc) := .of (by kernel_rfl) rfl (by decide) rfl
theorem Tryz.et131 : ElemT Tryz.prog 131 1 8 (.nilFunc) := .of (by kernel_rfl) rfl (by decide) rfl
theorem Tryz.et132 : ElemT Tryz.prog 132 1 8 (.int .u64 (0)) := .of (by kernel_rfl) rfl (by decide) rfl
theorem Tryz.et133 : ElemT Tryz.prog 133 1 8 (.nilFunc) := .of (by kernel_rfl) rfl (by decide) rfl
theorem Tryz.et134 : ElemT Tryz.prog 134 1 8 (.nilFunc) := .of (by kernel_rfl) rfl (by decide) rfl
theorem Tryz.et135 : ElemT Tryz.prog 135 1 8 (.nilFunc) := .of (by kernel_rfl) rfl (by decide) rfl
theorem Tryz.et136 : ElemT Tryz.prog 136 1 8 (.pointer none) := .of (by kernel_rfl) rfl (by decide) rfl
theorem Tryz.et137 : ElemT Tryz.prog 137 1 8 (.nilFunc) := .of (by kernel_rfl) rfl (by decide) rfl
theorem Tryz.et138 : ElemT Tryz.prog 138 1 8 (.nilFunc) := .of (by kernel_rfl) rfl (by decide) rfl
theorem Tryz.et139 : ElemT Tryz.prog 139 256 256 (.agg #[.int .u8 (0), .int .u8 (0), .int .u8 (0), .int .u8 (0), .int .u8 (0), .int .u8 (0), .int .u8 (0), .int .u8 (0), .int .u8 (0), .int .u8 (0), .int .u8 (0), .int .u8 (0), .int .u8 (0), .int .u8 (0), .int .u8 (0), .int .u8 (0), .int .u8 (0), .int .u8 (0), .int .u8 (0), .int .u8 (0), .int .u8 (0), .int .u8 (0), .int .u8 (0), .int .u8 (0), .int .u8 (0), .int .u8 (0), .int .u8 (0), .int .u8 (0), .int .u8 (0), .int .u8 (0), .int .u8 (0), .int .u8 (0), .int .u8 (0), .int .u8 (0), .int .u8 (0), .int .u8 (0), .int .u8 (0), .int .u8 (0), .int .u8 (0), .int .u8 (0), .int .u8 (0), .int .u8 (0), .int .u8 (0), .int .u8 (0), .int .u8 (0), .int .u8 (0), .int .u8 (0), .int .u8 (0), .int .u8 (0), .int .u8 (0), .int .u8 (0), .int .u8 (0), .int .u8 (0), .int .u8 (0), .int .u8 (0), .int .u8 (0), .int .u8 (0), .int .u8 (0), .int .u8 (0), .int .u8 (0), .int .u8 (0), .int .u8 (0), .int .u8 (0), .int .u8 (0), .int .u8 (0), .int .u8 (0), .int .u8 (0), .int .u8 (0), .int .u8 (0), .int .u8 (0), .int .u8 (0), .int .u8 (0), .int .u8 (0), .int .u8 (0), .int .u8 (0), .int .u8 (0), .int .u8 (0), .int .u8 (0), .int .u8 (0), .int .u8 (0), .int .u8 (0), .int .u8 (0), .int .u8 (0), .int .u8 (0), .int .u8 (0), .int .u8 (0), .int .u8 (0), .int .u8 (0), .int .u8 (0), .int .u8 (0), .int .u8 (0), .int .u8 (0), .int .u8 (0), .int .u8 (0), .int .u8 (0), .int .u8 (0), .int .u8 (0), .int .u8 (0), .int .u8 (0), .int .u8 (0), .int .u8 (0), .int .u8 (0), .int .u8 (0), .int .u8 (0), .int .u8 (0), .int .u8 (0), .int .u8 (0), .int .u8 (0), .int .u8 (0), .int .u8 (0), .int .u8 (0), .int .u8 (0), .int .u8 (0), .int .u8 (0), .int .u8 (0), .int .u8 (0), .int .u8 (0), .int .u8 (0), .int .u8 (0), .int .u8 (0), .int .u8 (0), .int .u8 (0), .int .u8 (0), .int .u8 (0), .int .u8 (0), .int .u8 (0), .int .u8 (0), .int .u8 (0), .int .u8 (0), .int .u8 (0), .int .u8 (0), .int .u8 (0), .int .u8 (0), .int .u8 (0), .int .u8 (0), .int .u8 (0), .int .u8 (0), .int .u8 (0), .int .u8 (0), .int .u8 (0), .int .u8 (0), .int .u8 (0), .int .u8 (0), .int .u8 (0), .int .u8 (0), .int .u8 (0), .int .u8 (0), .int .u8 (0), .int .u8 (0), .int .u8 (0), .int .u8 (0), .int .u8 (0), .int .u8 (0), .int .u8 (0), .int .u8 (0), .int .u8 (0), .int .u8 (0), .int .u8 (0), .int .u8 (0), .int .u8 (0), .int .u8 (0), .int .u8 (0), .int .u8 (0), .int .u8 (0), .int .u8 (0), .int .u8 (0), .int .u8 (0), .int .u8 (0), .int .u8 (0), .int .u8 (0), .int .u8 (0), .int .u8 (0), .int .u8 (0), .int .u8 (0), .int .u8 (0), .int .u8 (0), .int .u8 (0), .int .u8 (0), .int .u8 (0), .int .u8 (0), .int .u8 (0), .int .u8 (0), .int .u8 (0), .int .u8 (0), .int .u8 (0), .int .u8 (0), .int .u8 (0), .int .u8 (0), .int .u8 (0), .int .u8 (0), .int .u8 (0), .int .u8 (0), .int .u8 (0), .int .u8 (0), .int .u8 (0), .int .u8 (0), .int .u8 (0), .int .u8 (0), .int .u8 (0), .int .u8 (0), .int .u8 (0), .int .u8 (0), .int .u8 (0), .int .u8 (0), .int .u8 (0), .int .u8 (0), .int .u8 (0), .int .u8 (0), .int .u8 (0), .int .u8 (0), .int .u8 (0), .int .u8 (0), .int .u8 (0), .int .u8 (0), .int .u8 (0), .int .u8 (0), .int .u8 (0), .int .u8 (0), .int .u8 (0), .int .u8 (0), .int .u8 (0), .int .u8 (0), .int .u8 (0), .int .u8 (0), .int .u8 (0), .int .u8 (0), .int .u8 (0), .int .u8 (0), .int .u8 (0), .int .u8 (0), .int .u8 (0), .int .u8 (0), .int .u8 (0), .int .u8 (0), .int .u8 (0), .int .u8 (0), .int .u8 (0), .int .u8 (0), .int .u8 (0), .int .u8 (0), .int .u8 (0), .int .u8 (0), .int .u8 (0), .int .u8 (0), .int .u8 (0), .int .u8 (0), .int .u8 (0), .int .u8 (0), .int .u8 (0), .int .u8 (0), .int .u8 (0), .int .u8 (0), .int .u8 (0), .int .u8 (0), .int .u8 (0), .int .u8 (0)]) := .of (by kernel_rfl) rfl (by decide) rfl
theorem Tryz.et140 : ElemT Tryz.prog 140 2 2 (.agg #[.int .u8 (0), .int .u8 (0)]) := .of (by kernel_rfl) rfl (by decide) rfl
theorem Tryz.fo140_0 : FieldOff Tryz.prog 140 0 0 := ⟨_, _, Tryz.underlying140, rfl, rfl, 1, by decide, Tryz.sizeOf5⟩
theorem Tryz.fo140_1 : FieldOff Tryz.prog 140 1 1 := ⟨_, _, Tryz.underlying140, rfl, rfl, 1, by decide, Tryz.sizeOf5⟩
theorem Tryz.pl140 : Places Tryz.prog 140 (.agg #[.int .u8 (0), .int .u8 (0)]) [(0, 1), (1, 1)] := ⟨Tryz.zeroValue140, _, Tryz.underlying140, fun w => by simp only [Array.mapM_eq_mapM_toList, List.mapM_cons, List.mapM_nil, Sem.run_map, Sem.run_bind, Result.andThen_ok, Sem.run_pure, Tryz.sizeOf5]⟩
theorem Tryz.et141 : ElemT Tryz.prog 141 2 2 (.agg #[.int .u8 (0), .int .u8 (0)]) := .of (by kernel_rfl) rfl (by decide) rfl
theorem Tryz.fo141_0 : FieldOff Tryz.prog 141 0 0 := ⟨_, _, Tryz.underlying141, rfl, rfl, 1, by decide, Tryz.sizeOf5⟩
theorem Tryz.fo141_1 : FieldOff Tryz.prog 141 1 1 := ⟨_, _, Tryz.underlying141, rfl, rfl, 1, by decide, Tryz.sizeOf5⟩
theorem Tryz.pl141 : Places Tryz.prog 141 (.agg #[.int .u8 (0), .int .u8 (0)]) [(0, 1), (1, 1)] := ⟨Tryz.zeroValue141, _, Tryz.underlying141, fun w => by simp only [Array.mapM_eq_mapM_toList, List.mapM_cons, List.mapM_nil, Sem.run_map, Sem.run_bind, Result.andThen_ok, Sem.run_pure, Tryz.sizeOf5]⟩
theorem Tryz.et142 : ElemT Tryz.prog 142 32 32 (.agg #[.int .u8 (0), .int .u8 (0), .int .u8 (0), .int .u8 (0), .int .u8 (0), .int .u8 (0), .int .u8 (0), .int .u8 (0), .int .u8 (0), .int .u8 (0), .int .u8 (0), .int .u8 (0), .int .u8 (0), .int .u8 (0), .int .u8 (0), .int .u8 (0), .int .u8 (0), .int .u8 (0), .int .u8 (0), .int .u8 (0), .int .u8 (0), .int .u8 (0), .int .u8 (0), .int .u8 (0), .int .u8 (0), .int .u8 (0), .int .u8 (0), .int .u8 (0), .int .u8 (0), .int .u8 (0), .int .u8 (0), .int .u8 (0)]) := .of (by kernel_rfl) rfl (by decide) rfl
theorem Tryz.et144 : ElemT Tryz.prog 144 1 8 (.nilFunc) := .of (by kernel_rfl) rfl (by decide) rfl
theorem Tryz.et145 : ElemT Tryz.prog 145 1 8 (.pointer none) := .of (by kernel_rfl) rfl (by decide) rfl
theorem Tryz.et147 : ElemT Tryz.prog 147 1 8 (.nilFunc) := .of (by kernel_rfl) rfl (by decide) rfl
theorem Tryz.et148 : ElemT Tryz.prog 148 1 8 (.nilFunc) := .of (by kernel_rfl) rfl (by decide) rfl
theorem Tryz.et149 : ElemT Tryz.prog 149 1 8 (.nilFunc) := .of (by kernel_rfl) rfl (by decide) rfl
theorem Tryz.et150 : ElemT Tryz.prog 150 1 8 (.nilFunc) := .of (by kernel_rfl) rfl (by decide) rfl
theorem Tryz.et151 : ElemT Tryz.prog 151 1 8 (.nilFunc) := .of (by kernel_rfl) rfl (by decide) rfl
theorem Tryz.et152 : ElemT Tryz.prog 152 256 256 (.agg #[.bool false, .bool false, .bool false, .bool false, .bool false, .bool false, .bool false, .bool false, .bool false, .bool false, .bool false, .bool false, .bool false, .bool false, .bool false, .bool false, .bool false, .bool false, .bool false, .bool false, .bool false, .bool false, .bool false, .bool false, .bool false, .bool false, .bool false, .bool false, .bool false, .bool false, .bool false, .bool false, .bool false, .bool false, .bool false, .bool false, .bool false, .bool false, .bool false, .bool false, .bool false, .bool false, .bool false, .bool false, .bool false, .bool false, .bool false, .bool false, .bool false, .bool false, .bool false, .bool false, .bool false, .bool false, .bool false, .bool false, .bool false, .bool false, .bool false, .bool false, .bool false, .bool false, .bool false, .bool false, .bool false, .bool false, .bool false, .bool false, .bool false, .bool false, .bool false, .bool false, .bool false, .bool false, .bool false, .bool false, .bool false, .bool false, .bool false, .bool false, .bool false, .bool false, .bool false, .bool false, .bool false, .bool false, .bool false, .bool false, .bool false, .bool false, .bool false, .bool false, .bool false, .bool false, .bool false, .bool false, .bool false, .bool false, .bool false, .bool false, .bool false, .bool false, .bool false, .bool false, .bool false, .bool false, .bool false, .bool false, .bool false, .bool false, .bool false, .bool false, .bool false, .bool false, .bool false, .bool false, .bool false, .bool false, .bool false, .bool false, .bool false, .bool false, .bool false, .bool false, .bool false, .bool false, .bool false, .bool false, .bool false, .bool false, .bool false, .bool false, .bool false, .bool false, .bool false, .bool false, .bool false, .bool false, .bool false, .bool false, .bool false, .bool false, .bool false, .bool false, .bool false, .bool false, .bool false, .bool false, .bool false, .bool false, .bool false, .bool false, .bool false, .bool false, .bool false, .bool false, .bool false, .bool false, .bool false, .bool false, .bool false, .bool false, .bool false, .bool false, .bool false, .bool false, .bool false, .bool false, .bool false, .bool false, .bool false, .bool false, .bool false, .bool false, .bool false, .bool false, .bool false, .bool false, .bool false, .bool false, .bool false, .bool false, .bool false, .bool false, .bool false, .bool false, .bool false, .bool false, .bool false, .bool false, .bool false, .bool false, .bool false, .bool false, .bool false, .bool false, .bool false, .bool false, .bool false, .bool false, .bool false, .bool false, .bool false, .bool false, .bool false, .bool false, .bool false, .bool false, .bool false, .bool false, .bool false, .bool false, .bool false, .bool false, .bool false, .bool false, .bool false, .bool false, .bool false, .bool false, .bool false, .bool false, .bool false, .bool false, .bool false, .bool false, .bool false, .bool false, .bool false, .bool false, .bool false, .bool false, .bool false, .bool false, .bool false, .bool false, .bool false, .bool false, .bool false, .bool false, .bool false, .bool false, .bool false, .bool false, .bool false, .bool false, .bool false, .bool false, .bool false, .bool false, .bool false, .bool false, .bool false, .bool false, .bool false, .bool false]) := .of (by kernel_rfl) rfl (by decide) rfl
theorem Tryz.et153 : ElemT Tryz.prog 153 256 256 (.agg #[.bool false, .bool false, .bool false, .bool false, .bool false, .bool false, .bool false, .bool false, .bool false, .bool false, .bool false, .bool false, .bool false, .bool false, .bool false, .bool false, .bool false, .bool false, .bool false, .bool false, .bool false, .bool false, .bool false, .bool false, .bool false, .bool false, .bool false, .bool false, .bool false, .bool false, .bool false, .bool false, .bool false, .bool false, .bool false, .bool false, .bool false, .bool false, .bool false, .bool false, .bool false, .bool false, .bool false, .bool false, .bool false, .bool false, .bool false, .bool false, .bool false, .bool false, .bool false, .bool false, .bool false, .bool false, .bool false, .bool false, .bool false, .bool false, .bool false, .bool false, .bool false, .bool false, .bool false, .bool false, .bool false, .bool false, .bool false, .bool false, .bool false, .bool false, .bool false, .bool false, .bool false, .bool false, .bool false, .bool false, .bool false, .bool false, .bool false, .bool false, .bool false, .bool false, .bool false, .bool false, .bool false, .bool false, .bool false, .bool false, .bool false, .bool false, .bool false, .bool false, .bool false, .bool false, .bool false, .bool false, .bool false, .bool false, .bool false, .bool false, .bool false, .bool false, .bool false, .bool false, .bool false, .bool false, .bool false, .bool false, .bool false, .bool false, .bool false, .bool false, .bool false, .bool false, .bool false, .bool false, .bool false, .bool false, .bool false, .bool false, .bool false, .bool false, .bool false, .bool false, .bool false, .bool false, .bool false, .bool false, .bool false, .bool false, .bool false, .bool false, .bool false, .bool false, .bool false, .bool false, .bool false, .bool false, .bool false, .bool false, .bool false, .bool false, .bool false, .bool false, .bool false, .bool false, .bool false, .bool false, .bool false, .bool false, .bool false, .bool false, .bool false, .bool false, .bool false, .bool false, .bool false, .bool false, .bool false, .bool false, .bool false, .bool false, .bool false, .bool false, .bool false, .bool false, .bool false, .bool false, .bool false, .bool false, .bool false, .bool false, .bool false, .bool false, .bool false, .bool false, .bool false, .bool false, .bool false, .bool false, .bool false, .bool false, .bool false, .bool false, .bool false, .bool false, .bool false, .bool false, .bool false, .bool false, .bool false, .bool false, .bool false, .bool false, .bool false, .bool false, .bool false, .bool false, .bool false, .bool false, .bool false, .bool false, .bool false, .bool false, .bool false, .bool false, .bool false, .bool false, .bool false, .bool false, .bool false, .bool false, .bool false, .bool false, .bool false, .bool false, .bool false, .bool false, .bool false, .bool false, .bool false, .bool false, .bool false, .bool false, .bool false, .bool false, .bool false, .bool false, .bool false, .bool false, .bool false, .bool false, .bool false, .bool false, .bool false, .bool false, .bool false, .bool false, .bool false, .bool false, .bool false, .bool false, .bool false, .bool false, .bool false, .bool false, .bool false, .bool false, .bool false, .bool false, .bool false, .bool false, .bool false, .bool false, .bool false, .bool false]) := .of (by kernel_rfl) rfl (by decide) rfl
theorem Tryz.et155 : ElemT Tryz.prog 155 1 8 (.nilFunc) := .of (by kernel_rfl) rfl (by decide) rfl
theorem Tryz.et156 : ElemT Tryz.prog 156 1 8 (.nilFunc) := .of (by kernel_rfl) rfl (by decide) rfl
theorem Tryz.et157 : ElemT Tryz.prog 157 1 8 (.nilFunc) := .of (by kernel_rfl) rfl (by decide) rfl
theorem Tryz.et158 : ElemT Tryz.prog 158 1 8 (.pointer none) := .of (by kernel_rfl) rfl (by decide) rfl
theorem Tryz.et159 : ElemT Tryz.prog 159 4 40 (.agg #[.pointer none, .pointer none, .pointer none, .string ⟨#[]⟩]) := .of (by kernel_rfl) rfl (by decide) rfl
theorem Tryz.fo159_0 : FieldOff Tryz.prog 159 0 0 := ⟨_, _, Tryz.underlying159, rfl, rfl, 1, by decide, Tryz.sizeOf17⟩
theorem Tryz.fo159_1 : FieldOff Tryz.prog 159 1 1 := ⟨_, _, Tryz.underlying159, rfl, rfl, 1, by decide, Tryz.sizeOf17⟩
theorem Tryz.fo159_2 : FieldOff Tryz.prog 159 2 2 := ⟨_, _, Tryz.underlying159, rfl, rfl, 1, by decide, Tryz.sizeOf17⟩
theorem Tryz.fo159_3 : FieldOff Tryz.prog 159 3 3 := ⟨_, _, Tryz.underlying159, rfl, rfl, 1, by decide, Tryz.sizeOf9⟩
theorem Tryz.pl159 : Places Tryz.prog 159 (.agg #[.pointer none, .pointer none, .pointer none, .string ⟨#[]⟩]) [(0, 1), (1, 1), (2, 1), (3, 1)] := ⟨Tryz.zeroValue159, _, Tryz.underlying159, fun w => by simp only [Array.mapM_eq_mapM_toList, List.mapM_cons, List.mapM_nil, Sem.run_map, Sem.run_bind, Result.andThen_ok, Sem.run_pure, Tryz.sizeOf9, Tryz.sizeOf17]⟩
theorem Tryz.et160 : ElemT Tryz.prog 160 4 40 (.agg #[.pointer none, .pointer none, .pointer none, .string ⟨#[]⟩]) := .of (by kernel_rfl) rfl (by decide) rfl
theorem Tryz.fo160_0 : FieldOff Tryz.prog 160 0 0 := ⟨_, _, Tryz.underlying160, rfl, rfl, 1, by decide, Tryz.sizeOf17⟩
theorem Tryz.fo160_1 : FieldOff Tryz.prog 160 1 1 := ⟨_, _, Tryz.underlying160, rfl, rfl, 1, by decide, Tryz.sizeOf17⟩
theorem Tryz.fo160_2 : FieldOff Tryz.prog 160 2 2 := ⟨_, _, Tryz.underlying160, rfl, rfl, 1, by decide, Tryz.sizeOf17⟩
theorem Tryz.fo160_3 : FieldOff Tryz.prog 160 3 3 := ⟨_, _, Tryz.underlying160, rfl, rfl, 1, by decide, Tryz.sizeOf9⟩
theorem Tryz.pl160 : Places Tryz.prog 160 (.agg #[.pointer none, .pointer none, .pointer none, .string ⟨#[]⟩]) [(0, 1), (1, 1), (2, 1), (3, 1)] := ⟨Tryz.zeroValue160, _, Tryz.underlying160, fun w => by simp only [Array.mapM_eq_mapM_toList, List.mapM_cons, List.mapM_nil, Sem.run_map, Sem.run_bind, Result.andThen_ok, Sem.run_pure, Tryz.sizeOf9, Tryz.sizeOf17]⟩
theorem Tryz.et164 : ElemT Tryz.prog 164 1 8 (.nilFunc) := .of (by kernel_rfl) rfl (by decide) rfl
theorem Tryz.et165 : ElemT Tryz.prog 165 1 1 (.int .u8 (0)) := .of (by kernel_rfl) rfl (by decide) rfl
theorem Tryz.et166 : ElemT Tryz.prog 166 1 1 (.int .u8 (0)) := .of (by kernel_rfl) rfl (by decide) rfl
theorem Tryz.et167 : ElemT Tryz.prog 167 1 8 (.nilFunc) := .of (by kernel_rfl) rfl (by decide) rfl
theorem Tryz.et168 : ElemT Tryz.prog 168 1 4 (.int .i32 (0)) := .of (by kernel_rfl) rfl (by decide) rfl
theorem Tryz.et169 : ElemT Tryz.prog 169 1 4 (.int .i32 (0)) := .of (by kernel_rfl) rfl (by decide) rfl
theorem Tryz.et170 : ElemT Tryz.prog 170 11 48 (.agg #[.int .u64 (0), .int .u64 (0), .int .u32 (0), .int .u8 (0), .int .u8 (0), .int .u8 (0), .int .u8 (0), .nilFunc, .pointer none, .int .i32 (0), .int .i32 (0)]) := .of (by kernel_rfl) rfl (by decide) rfl
theorem Tryz.fo170_0 : FieldOff Tryz.prog 170 0 0 := ⟨_, _, Tryz.underlying170, rfl, rfl, 1, by decide, Tryz.sizeOf12⟩
theorem Tryz.fo170_1 : FieldOff Tryz.prog 170 1 1 := ⟨_, _, Tryz.underlying170, rfl, rfl, 1, by decide, Tryz.sizeOf12⟩
theorem Tryz.fo170_2 : FieldOff Tryz.prog 170 2 2 := ⟨_, _, Tryz.underlying170, rfl, rfl, 1, by decide, Tryz.sizeOf127⟩
theorem Tryz.fo170_3 : FieldOff Tryz.prog 170 3 3 := ⟨_, _, Tryz.underlying170, rfl, rfl, 1, by decide, Tryz.sizeOf165⟩
theorem Tryz.fo170_4 : FieldOff Tryz.prog 170 4 4 := ⟨_, _, Tryz.underlying170, rfl, rfl, 1, by decide, Tryz.sizeOf5⟩
theorem Tryz.fo170_5 : FieldOff Tryz.prog 170 5 5 := ⟨_, _, Tryz.underlying170, rfl, rfl, 1, by decide, Tryz.sizeOf5⟩
theorem Tryz.fo170_6 : FieldOff Tryz.prog 170 6 6 := ⟨_, _, Tryz.underlying170, rfl, rfl, 1, by decide, Tryz.sizeOf166⟩
theorem Tryz.fo170_7 : FieldOff Tryz.prog 170 7 7 := ⟨_, _, Tryz.underlying170, rfl, rfl, 1, by decide, Tryz.sizeOf167⟩
theorem Tryz.fo170_8 : FieldOff Tryz.prog 170 8 8 := ⟨_, _, Tryz.underlying170, rfl, rfl, 1, by decide, Tryz.sizeOf103⟩
theorem Tryz.fo170_9 : FieldOff Tryz.prog 170 9 9 := ⟨_, _, Tryz.underlying170, rfl, rfl, 1, by decide, Tryz.sizeOf168⟩
theorem Tryz.fo170_10 : FieldOff Tryz.prog 170 10 10 := ⟨_, _, Tryz.underlying170, rfl, rfl, 1, by decide, Tryz.sizeOf169⟩
theorem Tryz.pl170 : Places Tryz.prog 170 (.agg #[.int .u64 (0), .int .u64 (0), .int .u32 (0), .int .u8 (0), .int .u8 (0), .int .u8 (0), .int .u8 (0), .nilFunc, .pointer none, .int .i32 (0), .int .i32 (0)]) [(0, 1), (1, 1), (2, 1), (3, 1), (4, 1), (5, 1), (6, 1), (7, 1), (8, 1), (9, 1), (10, 1)] := ⟨Tryz.zeroValue170, _, Tryz.underlying170, fun w => by simp only [Array.mapM_eq_mapM_toList, List.mapM_cons, List.mapM_nil, Sem.run_map, Sem.run_bind, Result.andThen_ok, Sem.run_pure, Tryz.sizeOf5, Tryz.sizeOf12, Tryz.sizeOf103, Tryz.sizeOf127, Tryz.sizeOf165, Tryz.sizeOf166, Tryz.sizeOf167, Tryz.sizeOf168, Tryz.sizeOf169]⟩
theorem Tryz.et171 : ElemT Tryz.prog 171 11 48 (.agg #[.int .u64 (0), .int .u64 (0), .int .u32 (0), .int .u8 (0), .int .u8 (0), .int .u8 (0), .int .u8 (0), .nilFunc, .pointer none, .int .i32 (0), .int .i32 (0)]) := .of (by kernel_rfl) rfl (by decide) rfl
theorem Tryz.fo171_0 : FieldOff Tryz.prog 171 0 0 := ⟨_, _, Tryz.underlying171, rfl, rfl, 1, by decide, Tryz.sizeOf12⟩
theorem Tryz.fo171_1 : FieldOff Tryz.prog 171 1 1 := ⟨_, _, Tryz.underlying171, rfl, rfl, 1, by decide, Tryz.sizeOf12⟩
theorem Tryz.fo171_2 : FieldOff Tryz.prog 171 2 2 := ⟨_, _, Tryz.underlying171, rfl, rfl, 1, by decide, Tryz.sizeOf127⟩
theorem Tryz.fo171_3 : FieldOff Tryz.prog 171 3 3 := ⟨_, _, Tryz.underlying171, rfl, rfl, 1, by decide, Tryz.sizeOf165⟩
theorem Tryz.fo171_4 : FieldOff Tryz.prog 171 4 4 := ⟨_, _, Tryz.underlying171, rfl, rfl, 1, by decide, Tryz.sizeOf5⟩
theorem Tryz.fo171_5 : FieldOff Tryz.prog 171 5 5 := ⟨_, _, Tryz.underlying171, rfl, rfl, 1, by decide, Tryz.sizeOf5⟩
theorem Tryz.fo171_6 : FieldOff Tryz.prog 171 6 6 := ⟨_, _, Tryz.underlying171, rfl, rfl, 1, by decide, Tryz.sizeOf166⟩
theorem Tryz.fo171_7 : FieldOff Tryz.prog 171 7 7 := ⟨_, _, Tryz.underlying171, rfl, rfl, 1, by decide, Tryz.sizeOf167⟩
theorem Tryz.fo171_8 : FieldOff Tryz.prog 171 8 8 := ⟨_, _, Tryz.underlying171, rfl, rfl, 1, by decide, Tryz.sizeOf103⟩
theorem Tryz.fo171_9 : FieldOff Tryz.prog 171 9 9 := ⟨_, _, Tryz.underlying171, rfl, rfl, 1, by decide, Tryz.sizeOf168⟩
theorem Tryz.fo171_10 : FieldOff Tryz.prog 171 10 10 := ⟨_, _, Tryz.underlying171, rfl, rfl, 1, by decide, Tryz.sizeOf169⟩
theorem Tryz.pl171 : Places Tryz.prog 171 (.agg #[.int .u64 (0), .int .u64 (0), .int .u32 (0), .int .u8 (0), .int .u8 (0), .int .u8 (0), .int .u8 (0), .nilFunc, .pointer none, .int .i32 (0), .int .i32 (0)]) [(0, 1), (1, 1), (2, 1), (3, 1), (4, 1), (5, 1), (6, 1), (7, 1), (8, 1), (9, 1), (10, 1)] := ⟨Tryz.zeroValue171, _, Tryz.underlying171, fun w => by simp only [Array.mapM_eq_mapM_toList, List.mapM_cons, List.mapM_nil, Sem.run_map, Sem.run_bind, Result.andThen_ok, Sem.run_pure, Tryz.sizeOf5, Tryz.sizeOf12, Tryz.sizeOf103, Tryz.sizeOf127, Tryz.sizeOf165, Tryz.sizeOf166, Tryz.sizeOf167, Tryz.sizeOf168, Tryz.sizeOf169]⟩
theorem Tryz.en2 : Enters Tryz.prog 2 := fun a w => Tryz.call2 a w
theorem Tryz.en3 : Enters Tryz.prog 3 := fun a w => Tryz.call3 a w
theorem Tryz.en4 : Enters Tryz.prog 4 := fun a w => Tryz.call4 a w
theorem Tryz.en5 : Enters Tryz.prog 5 := fun a w => Tryz.call5 a w
theorem Tryz.en6 : Enters Tryz.prog 6 := fun a w => Tryz.call6 a w
theorem Tryz.en7 : Enters Tryz.prog 7 := fun a w => Tryz.call7 a w
theorem Tryz.en8 : Enters Tryz.prog 8 := fun a w => Tryz.call8 a w
theorem Tryz.en9 : Enters Tryz.prog 9 := fun a w => Tryz.call9 a w
theorem Tryz.en10 : Enters Tryz.prog 10 := fun a w => Tryz.call10 a w
theorem Tryz.en11 : Enters Tryz.prog 11 := fun a w => Tryz.call11 a w
theorem Tryz.en12 : Enters Tryz.prog 12 := fun a w => Tryz.call12 a w
theorem Tryz.en13 : Enters Tryz.prog 13 := fun a w => Tryz.call13 a w
theorem Tryz.en14 : Enters Tryz.prog 14 := fun a w => Tryz.call14 a w
theorem Tryz.en15 : Enters Tryz.prog 15 := fun a w => Tryz.call15 a w
theorem Tryz.en16 : Enters Tryz.prog 16 := fun a w => Tryz.call16 a w
theorem Tryz.en17 : Enters Tryz.prog 17 := fun a w => Tryz.call17 a w
theorem Tryz.en18 : Enters Tryz.prog 18 := fun a w => Tryz.call18 a w
theorem Tryz.en19 : Enters Tryz.prog 19 := fun a w => Tryz.call19 a w
theorem Tryz.en20 : Enters Tryz.prog 20 := fun a w => Tryz.call20 a w
theorem Tryz.en21 : Enters Tryz.prog 21 := fun a w => Tryz.call21 a w
theorem Tryz.en22 : Enters Tryz.prog 22 := fun a w => Tryz.call22 a w
theorem Tryz.en23 : Enters Tryz.prog 23 := fun a w => Tryz.call23 a w
theorem Tryz.en24 : Enters Tryz.prog 24 := fun a w => Tryz.call24 a w
theorem Tryz.en25 : Enters Tryz.prog 25 := fun a w => Tryz.call25 a w
theorem Tryz.en26 : Enters Tryz.prog 26 := fun a w => Tryz.call26 a w
theorem Tryz.en27 : Enters Tryz.prog 27 := fun a w => Tryz.call27 a w
theorem Tryz.en28 : Enters Tryz.prog 28 := fun a w => Tryz.call28 a w
theorem Tryz.en29 : Enters Tryz.prog 29 := fun a w => Tryz.call29 a w
theorem Tryz.en30 : Enters Tryz.prog 30 := fun a w => Tryz.call30 a w
theorem Tryz.en31 : Enters Tryz.prog 31 := fun a w => Tryz.call31 a w
theorem Tryz.en32 : Enters Tryz.prog 32 := fun a w => Tryz.call32 a w
theorem Tryz.en33 : Enters Tryz.prog 33 := fun a w => Tryz.call33 a w
theorem Tryz.en34 : Enters Tryz.prog 34 := fun a w => Tryz.call34 a w
theorem Tryz.en35 : Enters Tryz.prog 35 := fun a w => Tryz.call35 a w
theorem Tryz.en36 : Enters Tryz.prog 36 := fun a w => Tryz.call36 a w
theorem Tryz.en37 : Enters Tryz.prog 37 := fun a w => Tryz.call37 a w
theorem Tryz.en38 : Enters Tryz.prog 38 := fun a w => Tryz.call38 a w
theorem Tryz.en39 : Enters Tryz.prog 39 := fun a w => Tryz.call39 a w
theorem Tryz.en40 : Enters Tryz.prog 40 := fun a w => Tryz.call40 a w
theorem Tryz.en41 : Enters Tryz.prog 41 := fun a w => Tryz.call41 a w
theorem Tryz.en42 : Enters Tryz.prog 42 := fun a w => Tryz.call42 a w
theorem Tryz.en43 : Enters Tryz.prog 43 := fun a w => Tryz.call43 a w
theorem Tryz.en44 : Enters Tryz.prog 44 := fun a w => Tryz.call44 a w
theorem Tryz.en45 : Enters Tryz.prog 45 := fun a w => Tryz.call45 a w
theorem Tryz.en46 : Enters Tryz.prog 46 := fun a w => Tryz.call46 a w
theorem Tryz.en47 : Enters Tryz.prog 47 := fun a w => Tryz.call47 a w
theorem Tryz.en48 : Enters Tryz.prog 48 := fun a w => Tryz.call48 a w
theorem Tryz.en49 : Enters Tryz.prog 49 := fun a w => Tryz.call49 a w
theorem Tryz.en50 : Enters Tryz.prog 50 := fun a w => Tryz.call50 a w
theorem Tryz.en51 : Enters Tryz.prog 51 := fun a w => Tryz.call51 a w
theorem Tryz.en52 : Enters Tryz.prog 52 := fun a w => Tryz.call52 a w
theorem Tryz.en53 : Enters Tryz.prog 53 := fun a w => Tryz.call53 a w
theorem Tryz.en54 : Enters Tryz.prog 54 := fun a w => Tryz.call54 a w
theorem Tryz.en55 : Enters Tryz.prog 55 := fun a w => Tryz.call55 a w
theorem Tryz.en56 : Enters Tryz.prog 56 := fun a w => Tryz.call56 a w
theorem Tryz.en57 : Enters Tryz.prog 57 := fun a w => Tryz.call57 a w
theorem Tryz.en58 : Enters Tryz.prog 58 := fun a w => Tryz.call58 a w
theorem Tryz.en59 : Enters Tryz.prog 59 := fun a w => Tryz.call59 a w
theorem Tryz.en60 : Enters Tryz.prog 60 := fun a w => Tryz.call60 a w
theorem Tryz.en61 : Enters Tryz.prog 61 := fun a w => Tryz.call61 a w
theorem Tryz.en62 : Enters Tryz.prog 62 := fun a w => Tryz.call62 a w
theorem Tryz.en63 : Enters Tryz.prog 63 := fun a w => Tryz.call63 a w
theorem Tryz.en64 : Enters Tryz.prog 64 := fun a w => Tryz.call64 a w
theorem Tryz.en65 : Enters Tryz.prog 65 := fun a w => Tryz.call65 a w
theorem Tryz.en66 : Enters Tryz.prog 66 := fun a w => Tryz.call66 a w
theorem Tryz.en67 : Enters Tryz.prog 67 := fun a w => Tryz.call67 a w
theorem Tryz.en68 : Enters Tryz.prog 68 := fun a w => Tryz.call68 a w
theorem Tryz.en69 : Enters Tryz.prog 69 := fun a w => Tryz.call69 a w
theorem Tryz.en70 : Enters Tryz.prog 70 := fun a w => Tryz.call70 a w
theorem Tryz.en71 : Enters Tryz.prog 71 := fun a w => Tryz.call71 a w
theorem Tryz.en72 : Enters Tryz.prog 72 := fun a w => Tryz.call72 a w
theorem Tryz.en73 : Enters Tryz.prog 73 := fun a w => Tryz.call73 a w
theorem Tryz.en74 : Enters Tryz.prog 74 := fun a w => Tryz.call74 a w
theorem Tryz.en75 : Enters Tryz.prog 75 := fun a w => Tryz.call75 a w
theorem Tryz.en76 : Enters Tryz.prog 76 := fun a w => Tryz.call76 a w
theorem Tryz.en77 : Enters Tryz.prog 77 := fun a w => Tryz.call77 a w
theorem Tryz.en79 : Enters Tryz.prog 79 := fun a w => Tryz.call79 a w
theorem Tryz.en82 : Enters Tryz.prog 82 := fun a w => Tryz.call82 a w
theorem Tryz.en83 : Enters Tryz.prog 83 := fun a w => Tryz.call83 a w
theorem Tryz.en84 : Enters Tryz.prog 84 := fun a w => Tryz.call84 a w
theorem Tryz.en85 : Enters Tryz.prog 85 := fun a w => Tryz.call85 a w
theorem Tryz.en86 : Enters Tryz.prog 86 := fun a w => Tryz.call86 a w
theorem Tryz.en87 : Enters Tryz.prog 87 := fun a w => Tryz.call87 a w
theorem Tryz.en88 : Enters Tryz.prog 88 := fun a w => Tryz.call88 a w
theorem Tryz.en89 : Enters Tryz.prog 89 := fun a w => Tryz.call89 a w
theorem Tryz.en90 : Enters Tryz.prog 90 := fun a w => Tryz.call90 a w
theorem Tryz.en91 : Enters Tryz.prog 91 := fun a w => Tryz.call91 a w
theorem Tryz.en92 : Enters Tryz.prog 92 := fun a w => Tryz.call92 a w
theorem Tryz.en93 : Enters Tryz.prog 93 := fun a w => Tryz.call93 a w
theorem Tryz.en94 : Enters Tryz.prog 94 := fun a w => Tryz.call94 a w
theorem Tryz.en95 : Enters Tryz.prog 95 := fun a w => Tryz.call95 a w
theorem Tryz.en96 : Enters Tryz.prog 96 := fun a w => Tryz.call96 a w
theorem Tryz.en97 : Enters Tryz.prog 97 := fun a w => Tryz.call97 a w
theorem Tryz.en98 : Enters Tryz.prog 98 := fun a w => Tryz.call98 a w
theorem Tryz.en99 : Enters Tryz.prog 99 := fun a w => Tryz.call99 a w
theorem Tryz.en100 : Enters Tryz.prog 100 := fun a w => Tryz.call100 a w
theorem Tryz.en101 : Enters Tryz.prog 101 := fun a w => Tryz.call101 a w
theorem Tryz.en103 : Enters Tryz.prog 103 := fun a w => Tryz.call103 a w
theorem Tryz.en104 : Enters Tryz.prog 104 := fun a w => Tryz.call104 a w
theorem Tryz.en105 : Enters Tryz.prog 105 := fun a w => Tryz.call105 a w
theorem Tryz.en106 : Enters Tryz.prog 106 := fun a w => Tryz.call106 a w
theorem Tryz.en107 : Enters Tryz.prog 107 := fun a w => Tryz.call107 a w
theorem Tryz.en108 : Enters Tryz.prog 108 := fun a w => Tryz.call108 a w
theorem Tryz.en109 : Enters Tryz.prog 109 := fun a w => Tryz.call109 a w
theorem Tryz.en110 : Enters Tryz.prog 110 := fun a w => Tryz.call110 a w
theorem Tryz.en111 : Enters Tryz.prog 111 := fun a w => Tryz.call111 a w
theorem Tryz.en112 : Enters Tryz.prog 112 := fun a w => Tryz.call112 a w
theorem Tryz.en114 : Enters Tryz.prog 114 := fun a w => Tryz.call114 a w
theorem Tryz.en115 : Enters Tryz.prog 115 := fun a w => Tryz.call115 a w
theorem Tryz.en116 : Enters Tryz.prog 116 := fun a w => Tryz.call116 a w
theorem Tryz.en117 : Enters Tryz.prog 117 := fun a w => Tryz.call117 a w
theorem Tryz.en118 : Enters Tryz.prog 118 := fun a w => Tryz.call118 a w
theorem Tryz.en119 : Enters Tryz.prog 119 := fun a w => Tryz.call119 a w
theorem Tryz.en120 : Enters Tryz.prog 120 := fun a w => Tryz.call120 a w
theorem Tryz.en121 : Enters Tryz.prog 121 := fun a w => Tryz.call121 a w
theorem Tryz.en122 : Enters Tryz.prog 122 := fun a w => Tryz.call122 a w
theorem Tryz.en123 : Enters Tryz.prog 123 := fun a w => Tryz.call123 a w
theorem Tryz.en124 : Enters Tryz.prog 124 := fun a w => Tryz.call124 a w
theorem Tryz.en125 : Enters Tryz.prog 125 := fun a w => Tryz.call125 a w
theorem Tryz.en126 : Enters Tryz.prog 126 := fun a w => Tryz.call126 a w
theorem Tryz.en149 : Enters Tryz.prog 149 := fun a w => Tryz.call149 a w
theorem Tryz.exC78 (s : List UInt8) (c : Int) : ExtV Tryz.prog 78 #[str s, .int .u8 c] (.int .i64 (countB s c)) := ext_countB Tryz.func78 (by kernel_rfl) (by kernel_rfl) (by kernel_rfl) (by kernel_rfl) s c
theorem Tryz.exI113 (s : List UInt8) (c : Int) : ExtV Tryz.prog 113 #[str s, .int .u8 c] (.int .i64 (indexB s c)) := ext_indexB Tryz.func113 (by kernel_rfl) (by kernel_rfl) (by kernel_rfl) (by kernel_rfl) s c
end Go.Proofs
