/-
  Closed facts on types, fields and functions of the translation; no condition.
-/
import Derived.Test.YtbeiciinppmekaaSx11
import Derived.Test.YtbeiciinppmekaaProg
namespace Go.Proofs.Ytbeiciinppmekaa
open Go Go.Sx Go.Proofs
theorem mixed : Try.prog.follows .mixedOrders = true := by kernel_rfl
theorem a1 : aggB Try.prog 1 = some false := by kernel_rfl
theorem z1 : szB Try.prog 1 = some 1 := by kernel_rfl
theorem a2 : aggB Try.prog 2 = some false := by kernel_rfl
theorem z2 : szB Try.prog 2 = some 1 := by kernel_rfl
theorem a3 : aggB Try.prog 3 = some false := by kernel_rfl
theorem z3 : szB Try.prog 3 = some 1 := by kernel_rfl
theorem by3 : byB Try.prog 3 = some 8 := by kernel_rfl
theorem ze3 : zeB Try.prog 3 = some (.int .i64 0) := by kernel_rfl
theorem a4 : aggB Try.prog 4 = some false := by kernel_rfl
theorem z4 : szB Try.prog 4 = some 1 := by kernel_rfl
theorem a5 : aggB Try.prog 5 = some false := by kernel_rfl
theorem z5 : szB Try.prog 5 = some 1 := by kernel_rfl
theorem by5 : byB Try.prog 5 = some 1 := by kernel_rfl
theorem ze5 : zeB Try.prog 5 = some (.int .u8 0) := by kernel_rfl
theorem a22 : aggB Try.prog 22 = some false := by kernel_rfl
theorem a27 : aggB Try.prog 27 = some false := by kernel_rfl
theorem a36 : aggB Try.prog 36 = some false := by kernel_rfl
theorem z36 : szB Try.prog 36 = some 1 := by kernel_rfl
theorem a37 : aggB Try.prog 37 = some false := by kernel_rfl
theorem z37 : szB Try.prog 37 = some 1 := by kernel_rfl
theorem a38 : aggB Try.prog 38 = some true := by kernel_rfl
theorem z38 : szB Try.prog 38 = some 3 := by kernel_rfl
theorem ze38 : zeB Try.prog 38 = some (.agg #[.int .u8 0, .int .u8 0, .int .u8 0]) := by kernel_rfl
theorem a40 : aggB Try.prog 40 = some true := by kernel_rfl
theorem z40 : szB Try.prog 40 = some 10 := by kernel_rfl
theorem by40 : byB Try.prog 40 = some 20 := by kernel_rfl
theorem ze40 : zeB Try.prog 40 = some (.agg #[.int .u16 0, .int .u32 0, .int .u16 0, .int .u8 0, .int .u8 0, .int .u8 0, .bool false, .int .u8 0, .int .u8 0, .int .u8 0]) := by kernel_rfl
theorem si40 : Try.prog.stoodInHeld 40 = false := by kernel_rfl
theorem eg40 : Try.prog.eqGuardType Try.prog.depth 40 = false := by kernel_rfl
theorem pl40 : plB Try.prog 40 = some [(0, 1), (1, 1), (2, 1), (3, 1), (4, 1), (5, 1), (6, 1), (7, 3)] := by kernel_rfl
theorem fl40_0 : fldB Try.prog 40 0 = some (0, 1) := by kernel_rfl
theorem fl40_1 : fldB Try.prog 40 1 = some (1, 1) := by kernel_rfl
theorem fl40_2 : fldB Try.prog 40 2 = some (2, 1) := by kernel_rfl
theorem fl40_3 : fldB Try.prog 40 3 = some (3, 1) := by kernel_rfl
theorem fl40_4 : fldB Try.prog 40 4 = some (4, 1) := by kernel_rfl
theorem fl40_5 : fldB Try.prog 40 5 = some (5, 1) := by kernel_rfl
theorem fl40_6 : fldB Try.prog 40 6 = some (6, 1) := by kernel_rfl
theorem fl40_7 : fldB Try.prog 40 7 = some (7, 3) := by kernel_rfl
theorem a53 : aggB Try.prog 53 = some false := by kernel_rfl
theorem z53 : szB Try.prog 53 = some 1 := by kernel_rfl
theorem by53 : byB Try.prog 53 = some 24 := by kernel_rfl
theorem ze53 : zeB Try.prog 53 = some (.slice none 0 0) := by kernel_rfl
theorem ze76 : zeB Try.prog 76 = some (.agg #[.slice none 0 0, .int .i64 0]) := by kernel_rfl
theorem pl76 : plB Try.prog 76 = some [(0, 1), (1, 1)] := by kernel_rfl
theorem fl76_0 : fldB Try.prog 76 0 = some (0, 1) := by kernel_rfl
theorem fl76_1 : fldB Try.prog 76 1 = some (1, 1) := by kernel_rfl
theorem z77 : szB Try.prog 77 = some 4 := by kernel_rfl
theorem ze77 : zeB Try.prog 77 = some (.agg #[.int .u8 0, .int .u8 0, .int .u8 0, .int .u8 0]) := by kernel_rfl
theorem ze81 : zeB Try.prog 81 = some (.agg #[.int .i64 0, .slice none 0 0, .slice none 0 0, .int .i64 0, .int .i64 0, .int .u8 0, .bool false]) := by kernel_rfl
theorem pl81 : plB Try.prog 81 = some [(0, 1), (1, 1), (2, 1), (3, 1), (4, 1), (5, 1), (6, 1)] := by kernel_rfl
theorem fl81_0 : fldB Try.prog 81 0 = some (0, 1) := by kernel_rfl
theorem fl81_1 : fldB Try.prog 81 1 = some (1, 1) := by kernel_rfl
theorem fl81_2 : fldB Try.prog 81 2 = some (2, 1) := by kernel_rfl
theorem fl81_3 : fldB Try.prog 81 3 = some (3, 1) := by kernel_rfl
theorem fl81_4 : fldB Try.prog 81 4 = some (4, 1) := by kernel_rfl
theorem fl81_5 : fldB Try.prog 81 5 = some (5, 1) := by kernel_rfl
theorem fl81_6 : fldB Try.prog 81 6 = some (6, 1) := by kernel_rfl
theorem a83 : aggB Try.prog 83 = some false := by kernel_rfl
theorem z83 : szB Try.prog 83 = some 1 := by kernel_rfl
theorem z85 : szB Try.prog 85 = some 13 := by kernel_rfl
theorem ze85 : zeB Try.prog 85 = some (.agg #[.pointer none, .int .i64 0, .int .i64 0, .bool false, .int .i64 0, .int .i64 0, .int .i64 0, .int .u16 0, .slice none 0 0, .bool false, .int .u16 0, .bool false, .bool false]) := by kernel_rfl
theorem pl85 : plB Try.prog 85 = some [(0, 1), (1, 1), (2, 1), (3, 1), (4, 1), (5, 1), (6, 1), (7, 1), (8, 1), (9, 1), (10, 1), (11, 1), (12, 1)] := by kernel_rfl
theorem fl85_0 : fldB Try.prog 85 0 = some (0, 1) := by kernel_rfl
theorem fl85_1 : fldB Try.prog 85 1 = some (1, 1) := by kernel_rfl
theorem fl85_2 : fldB Try.prog 85 2 = some (2, 1) := by kernel_rfl
theorem fl85_3 : fldB Try.prog 85 3 = some (3, 1) := by kernel_rfl
theorem fl85_4 : fldB Try.prog 85 4 = some (4, 1) := by kernel_rfl
theorem fl85_5 : fldB Try.prog 85 5 = some (5, 1) := by kernel_rfl
theorem fl85_6 : fldB Try.prog 85 6 = some (6, 1) := by kernel_rfl
theorem fl85_7 : fldB Try.prog 85 7 = some (7, 1) := by kernel_rfl
theorem fl85_8 : fldB Try.prog 85 8 = some (8, 1) := by kernel_rfl
theorem fl85_9 : fldB Try.prog 85 9 = some (9, 1) := by kernel_rfl
theorem fl85_12 : fldB Try.prog 85 12 = some (12, 1) := by kernel_rfl
theorem a90 : aggB Try.prog 90 = some true := by kernel_rfl
theorem z90 : szB Try.prog 90 = some 11 := by kernel_rfl
theorem by90 : byB Try.prog 90 = some 32 := by kernel_rfl
theorem ze90 : zeB Try.prog 90 = some (.agg #[.int .i64 0, .int .u16 0, .int .u32 0, .int .u16 0, .int .u8 0, .int .u8 0, .int .u8 0, .bool false, .int .u8 0, .int .u8 0, .int .u8 0]) := by kernel_rfl
theorem pl90 : plB Try.prog 90 = some [(0, 1), (1, 10)] := by kernel_rfl
theorem fl90_0 : fldB Try.prog 90 0 = some (0, 1) := by kernel_rfl
theorem fl90_1 : fldB Try.prog 90 1 = some (1, 10) := by kernel_rfl
theorem a96 : aggB Try.prog 96 = some true := by kernel_rfl
theorem z96 : szB Try.prog 96 = some 3 := by kernel_rfl
theorem by96 : byB Try.prog 96 = some 24 := by kernel_rfl
theorem ze96 : zeB Try.prog 96 = some (.agg #[.int .i64 0, .int .i64 0, .int .u16 0]) := by kernel_rfl
theorem pl96 : plB Try.prog 96 = some [(0, 1), (1, 1), (2, 1)] := by kernel_rfl
theorem fl96_0 : fldB Try.prog 96 0 = some (0, 1) := by kernel_rfl
theorem fl96_1 : fldB Try.prog 96 1 = some (1, 1) := by kernel_rfl
theorem fl96_2 : fldB Try.prog 96 2 = some (2, 1) := by kernel_rfl
theorem z112 : szB Try.prog 112 = some 8 := by kernel_rfl
theorem ze112 : zeB Try.prog 112 = some (.agg #[.int .u8 0, .int .u8 0, .int .u8 0, .int .u8 0, .int .u8 0, .int .u8 0, .int .u8 0, .int .u8 0]) := by kernel_rfl
theorem cal6 : calB Try.prog 6 = true := by kernel_rfl
theorem cal7 : calB Try.prog 7 = true := by kernel_rfl
theorem cal8 : calB Try.prog 8 = true := by kernel_rfl
theorem cal9 : calB Try.prog 9 = true := by kernel_rfl
theorem cal10 : calB Try.prog 10 = true := by kernel_rfl
theorem cal11 : calB Try.prog 11 = true := by kernel_rfl
theorem cal12 : calB Try.prog 12 = true := by kernel_rfl
theorem cal13 : calB Try.prog 13 = true := by kernel_rfl
theorem cal14 : calB Try.prog 14 = true := by kernel_rfl
theorem cal15 : calB Try.prog 15 = true := by kernel_rfl
theorem cal16 : calB Try.prog 16 = true := by kernel_rfl
theorem cal17 : calB Try.prog 17 = true := by kernel_rfl
theorem cal18 : calB Try.prog 18 = true := by kernel_rfl
theorem cal19 : calB Try.prog 19 = true := by kernel_rfl
theorem cal20 : calB Try.prog 20 = true := by kernel_rfl
theorem cal21 : calB Try.prog 21 = true := by kernel_rfl
theorem cal23 : calB Try.prog 23 = true := by kernel_rfl
theorem cal36 : calB Try.prog 36 = true := by kernel_rfl
theorem cal37 : calB Try.prog 37 = true := by kernel_rfl
theorem cal38 : calB Try.prog 38 = true := by kernel_rfl
theorem cal39 : calB Try.prog 39 = true := by kernel_rfl
theorem cal40 : calB Try.prog 40 = true := by kernel_rfl
theorem cal41 : calB Try.prog 41 = true := by kernel_rfl
theorem cal42 : calB Try.prog 42 = true := by kernel_rfl
theorem cal43 : calB Try.prog 43 = true := by kernel_rfl
theorem cal44 : calB Try.prog 44 = true := by kernel_rfl
theorem cal45 : calB Try.prog 45 = true := by kernel_rfl
theorem cal46 : calB Try.prog 46 = true := by kernel_rfl
theorem cal47 : calB Try.prog 47 = true := by kernel_rfl
theorem cal48 : calB Try.prog 48 = true := by kernel_rfl
theorem cal49 : calB Try.prog 49 = true := by kernel_rfl
theorem cal50 : calB Try.prog 50 = true := by kernel_rfl
theorem cal51 : calB Try.prog 51 = true := by kernel_rfl
theorem cal52 : calB Try.prog 52 = true := by kernel_rfl
theorem cal53 : calB Try.prog 53 = true := by kernel_rfl
theorem cal54 : calB Try.prog 54 = true := by kernel_rfl
theorem cal69 : calB Try.prog 69 = true := by kernel_rfl
theorem cal72 : calB Try.prog 72 = true := by kernel_rfl
theorem cal73 : calB Try.prog 73 = true := by kernel_rfl
theorem cal74 : calB Try.prog 74 = true := by kernel_rfl
theorem cal75 : calB Try.prog 75 = true := by kernel_rfl
theorem cal76 : calB Try.prog 76 = true := by kernel_rfl
theorem cal77 : calB Try.prog 77 = true := by kernel_rfl
theorem cal78 : calB Try.prog 78 = true := by kernel_rfl
theorem cal87 : calB Try.prog 87 = true := by kernel_rfl
theorem cal90 : calB Try.prog 90 = true := by kernel_rfl
theorem cal91 : calB Try.prog 91 = true := by kernel_rfl
theorem cal92 : calB Try.prog 92 = true := by kernel_rfl
theorem cal93 : calB Try.prog 93 = true := by kernel_rfl
theorem cal94 : calB Try.prog 94 = true := by kernel_rfl
theorem cal95 : calB Try.prog 95 = true := by kernel_rfl
theorem cal97 : calB Try.prog 97 = true := by kernel_rfl
theorem cal99 : calB Try.prog 99 = true := by kernel_rfl
end Go.Proofs.Ytbeiciinppmekaa
