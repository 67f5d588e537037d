/- Closed facts of the translation, by a program of this work. -/
import Derived.Test.YtikodfclemgfoaaDoorSbAuto
import Derived.Test.YtikodfclemgfoaaDoorProg
set_option linter.all false
namespace Go.Proofs.YtikodfclemgfoaaDoor
open Go.Sb
instance fk1 : KInfo Go.Proofs.Tryd.prog 1 [.nilFunc] 1 8 := ⟨by show _ = _; kernel_rfl⟩
instance fk2 : KSize Go.Proofs.Tryd.prog 1 1 := ⟨by show _ = _; kernel_rfl⟩
instance fk3 : KOne Go.Proofs.Tryd.prog 1 := ⟨by show _ = _; kernel_rfl⟩
instance fk4 : KUnd Go.Proofs.Tryd.prog 2 (.int .i64) := ⟨by show _ = _; kernel_rfl⟩
instance fk5 : KSome Go.Proofs.Tryd.prog 2 := ⟨by show _ = _; kernel_rfl⟩
instance fk6 : KInfo Go.Proofs.Tryd.prog 2 [.int .i64 0] 1 8 := ⟨by show _ = _; kernel_rfl⟩
instance fk7 : KSize Go.Proofs.Tryd.prog 2 1 := ⟨by show _ = _; kernel_rfl⟩
instance fk8 : KOne Go.Proofs.Tryd.prog 2 := ⟨by show _ = _; kernel_rfl⟩
instance fk9 : KZero Go.Proofs.Tryd.prog 2 (.int .i64 0) := ⟨by show _ = _; kernel_rfl⟩
instance fk10 : KConc Go.Proofs.Tryd.prog 2 := ⟨by show _ = _; kernel_rfl⟩
instance fk11 : KUnd Go.Proofs.Tryd.prog 3 (.int .i64) := ⟨by show _ = _; kernel_rfl⟩
instance fk12 : KSome Go.Proofs.Tryd.prog 3 := ⟨by show _ = _; kernel_rfl⟩
instance fk13 : KInfo Go.Proofs.Tryd.prog 3 [.int .i64 0] 1 8 := ⟨by show _ = _; kernel_rfl⟩
instance fk14 : KSize Go.Proofs.Tryd.prog 3 1 := ⟨by show _ = _; kernel_rfl⟩
instance fk15 : KOne Go.Proofs.Tryd.prog 3 := ⟨by show _ = _; kernel_rfl⟩
instance fk16 : KZero Go.Proofs.Tryd.prog 3 (.int .i64 0) := ⟨by show _ = _; kernel_rfl⟩
instance fk17 : KConc Go.Proofs.Tryd.prog 3 := ⟨by show _ = _; kernel_rfl⟩
instance fk18 : KUnd Go.Proofs.Tryd.prog 4 (.bool) := ⟨by show _ = _; kernel_rfl⟩
instance fk19 : KSome Go.Proofs.Tryd.prog 4 := ⟨by show _ = _; kernel_rfl⟩
instance fk20 : KInfo Go.Proofs.Tryd.prog 4 [.bool false] 1 1 := ⟨by show _ = _; kernel_rfl⟩
instance fk21 : KSize Go.Proofs.Tryd.prog 4 1 := ⟨by show _ = _; kernel_rfl⟩
instance fk22 : KOne Go.Proofs.Tryd.prog 4 := ⟨by show _ = _; kernel_rfl⟩
instance fk23 : KZero Go.Proofs.Tryd.prog 4 (.bool false) := ⟨by show _ = _; kernel_rfl⟩
instance fk24 : KConc Go.Proofs.Tryd.prog 4 := ⟨by show _ = _; kernel_rfl⟩
instance fk25 : KUnd Go.Proofs.Tryd.prog 5 (.int .u8) := ⟨by show _ = _; kernel_rfl⟩
instance fk26 : KSome Go.Proofs.Tryd.prog 5 := ⟨by show _ = _; kernel_rfl⟩
instance fk27 : KInfo Go.Proofs.Tryd.prog 5 [.int .u8 0] 1 1 := ⟨by show _ = _; kernel_rfl⟩
instance fk28 : KSize Go.Proofs.Tryd.prog 5 1 := ⟨by show _ = _; kernel_rfl⟩
instance fk29 : KOne Go.Proofs.Tryd.prog 5 := ⟨by show _ = _; kernel_rfl⟩
instance fk30 : KZero Go.Proofs.Tryd.prog 5 (.int .u8 0) := ⟨by show _ = _; kernel_rfl⟩
instance fk31 : KConc Go.Proofs.Tryd.prog 5 := ⟨by show _ = _; kernel_rfl⟩
instance fk32 : KUnd Go.Proofs.Tryd.prog 6 (.int .u8) := ⟨by show _ = _; kernel_rfl⟩
instance fk33 : KSome Go.Proofs.Tryd.prog 6 := ⟨by show _ = _; kernel_rfl⟩
instance fk34 : KInfo Go.Proofs.Tryd.prog 6 [.int .u8 0] 1 1 := ⟨by show _ = _; kernel_rfl⟩
instance fk35 : KSize Go.Proofs.Tryd.prog 6 1 := ⟨by show _ = _; kernel_rfl⟩
instance fk36 : KOne Go.Proofs.Tryd.prog 6 := ⟨by show _ = _; kernel_rfl⟩
instance fk37 : KZero Go.Proofs.Tryd.prog 6 (.int .u8 0) := ⟨by show _ = _; kernel_rfl⟩
instance fk38 : KConc Go.Proofs.Tryd.prog 6 := ⟨by show _ = _; kernel_rfl⟩
instance fk39 : KSome Go.Proofs.Tryd.prog 7 := ⟨by show _ = _; kernel_rfl⟩
instance fk40 : KInfo Go.Proofs.Tryd.prog 7 [.int .i64 0, .int .i64 0, .bool false, .int .u8 0] 4 24 := ⟨by show _ = _; kernel_rfl⟩
instance fk41 : KSize Go.Proofs.Tryd.prog 7 4 := ⟨by show _ = _; kernel_rfl⟩
instance fk42 : KAgg Go.Proofs.Tryd.prog 7 4 := ⟨by show _ = _; kernel_rfl⟩
instance fk43 : KStruct Go.Proofs.Tryd.prog 7 [.int .i64 0, .int .i64 0, .bool false, .int .u8 0] [(0, 1), (1, 1), (2, 1), (3, 1)] := ⟨by show _ = _; kernel_rfl⟩
instance fk44 : KFieldOff Go.Proofs.Tryd.prog 7 0 0 := ⟨by show _ = _; kernel_rfl⟩
instance fk45 : KField1 Go.Proofs.Tryd.prog 7 0 0 1 := ⟨by show _ = _; kernel_rfl⟩
instance fk46 : KFieldOff Go.Proofs.Tryd.prog 7 1 1 := ⟨by show _ = _; kernel_rfl⟩
instance fk47 : KField1 Go.Proofs.Tryd.prog 7 1 1 1 := ⟨by show _ = _; kernel_rfl⟩
instance fk48 : KFieldOff Go.Proofs.Tryd.prog 7 2 2 := ⟨by show _ = _; kernel_rfl⟩
instance fk49 : KField1 Go.Proofs.Tryd.prog 7 2 2 1 := ⟨by show _ = _; kernel_rfl⟩
instance fk50 : KFieldOff Go.Proofs.Tryd.prog 7 3 3 := ⟨by show _ = _; kernel_rfl⟩
instance fk51 : KField1 Go.Proofs.Tryd.prog 7 3 3 1 := ⟨by show _ = _; kernel_rfl⟩
instance fk52 : KConc Go.Proofs.Tryd.prog 7 := ⟨by show _ = _; kernel_rfl⟩
instance fk53 : KSome Go.Proofs.Tryd.prog 8 := ⟨by show _ = _; kernel_rfl⟩
instance fk54 : KInfo Go.Proofs.Tryd.prog 8 [.int .i64 0, .int .i64 0, .bool false, .int .u8 0] 4 24 := ⟨by show _ = _; kernel_rfl⟩
instance fk55 : KSize Go.Proofs.Tryd.prog 8 4 := ⟨by show _ = _; kernel_rfl⟩
instance fk56 : KAgg Go.Proofs.Tryd.prog 8 4 := ⟨by show _ = _; kernel_rfl⟩
instance fk57 : KStruct Go.Proofs.Tryd.prog 8 [.int .i64 0, .int .i64 0, .bool false, .int .u8 0] [(0, 1), (1, 1), (2, 1), (3, 1)] := ⟨by show _ = _; kernel_rfl⟩
instance fk58 : KFieldOff Go.Proofs.Tryd.prog 8 0 0 := ⟨by show _ = _; kernel_rfl⟩
instance fk59 : KField1 Go.Proofs.Tryd.prog 8 0 0 1 := ⟨by show _ = _; kernel_rfl⟩
instance fk60 : KFieldOff Go.Proofs.Tryd.prog 8 1 1 := ⟨by show _ = _; kernel_rfl⟩
instance fk61 : KField1 Go.Proofs.Tryd.prog 8 1 1 1 := ⟨by show _ = _; kernel_rfl⟩
instance fk62 : KFieldOff Go.Proofs.Tryd.prog 8 2 2 := ⟨by show _ = _; kernel_rfl⟩
instance fk63 : KField1 Go.Proofs.Tryd.prog 8 2 2 1 := ⟨by show _ = _; kernel_rfl⟩
instance fk64 : KFieldOff Go.Proofs.Tryd.prog 8 3 3 := ⟨by show _ = _; kernel_rfl⟩
instance fk65 : KField1 Go.Proofs.Tryd.prog 8 3 3 1 := ⟨by show _ = _; kernel_rfl⟩
instance fk66 : KConc Go.Proofs.Tryd.prog 8 := ⟨by show _ = _; kernel_rfl⟩
instance fk67 : KUnd Go.Proofs.Tryd.prog 9 (.string) := ⟨by show _ = _; kernel_rfl⟩
instance fk68 : KSome Go.Proofs.Tryd.prog 9 := ⟨by show _ = _; kernel_rfl⟩
instance fk69 : KInfo Go.Proofs.Tryd.prog 9 [.string ⟨⟨[]⟩⟩] 1 16 := ⟨by show _ = _; kernel_rfl⟩
instance fk70 : KSize Go.Proofs.Tryd.prog 9 1 := ⟨by show _ = _; kernel_rfl⟩
instance fk71 : KOne Go.Proofs.Tryd.prog 9 := ⟨by show _ = _; kernel_rfl⟩
instance fk72 : KZero Go.Proofs.Tryd.prog 9 (.string ⟨⟨[]⟩⟩) := ⟨by show _ = _; kernel_rfl⟩
instance fk73 : KConc Go.Proofs.Tryd.prog 9 := ⟨by show _ = _; kernel_rfl⟩
instance fk74 : KUnd Go.Proofs.Tryd.prog 10 (.string) := ⟨by show _ = _; kernel_rfl⟩
instance fk75 : KSome Go.Proofs.Tryd.prog 10 := ⟨by show _ = _; kernel_rfl⟩
instance fk76 : KInfo Go.Proofs.Tryd.prog 10 [.string ⟨⟨[]⟩⟩] 1 16 := ⟨by show _ = _; kernel_rfl⟩
instance fk77 : KSize Go.Proofs.Tryd.prog 10 1 := ⟨by show _ = _; kernel_rfl⟩
instance fk78 : KOne Go.Proofs.Tryd.prog 10 := ⟨by show _ = _; kernel_rfl⟩
instance fk79 : KZero Go.Proofs.Tryd.prog 10 (.string ⟨⟨[]⟩⟩) := ⟨by show _ = _; kernel_rfl⟩
instance fk80 : KConc Go.Proofs.Tryd.prog 10 := ⟨by show _ = _; kernel_rfl⟩
instance fk81 : KUnd Go.Proofs.Tryd.prog 11 (.string) := ⟨by show _ = _; kernel_rfl⟩
instance fk82 : KSome Go.Proofs.Tryd.prog 11 := ⟨by show _ = _; kernel_rfl⟩
instance fk83 : KInfo Go.Proofs.Tryd.prog 11 [.string ⟨⟨[]⟩⟩] 1 16 := ⟨by show _ = _; kernel_rfl⟩
instance fk84 : KSize Go.Proofs.Tryd.prog 11 1 := ⟨by show _ = _; kernel_rfl⟩
instance fk85 : KOne Go.Proofs.Tryd.prog 11 := ⟨by show _ = _; kernel_rfl⟩
instance fk86 : KZero Go.Proofs.Tryd.prog 11 (.string ⟨⟨[]⟩⟩) := ⟨by show _ = _; kernel_rfl⟩
instance fk87 : KConc Go.Proofs.Tryd.prog 11 := ⟨by show _ = _; kernel_rfl⟩
instance fk88 : KUnd Go.Proofs.Tryd.prog 12 (.int .u64) := ⟨by show _ = _; kernel_rfl⟩
instance fk89 : KSome Go.Proofs.Tryd.prog 12 := ⟨by show _ = _; kernel_rfl⟩
instance fk90 : KInfo Go.Proofs.Tryd.prog 12 [.int .u64 0] 1 8 := ⟨by show _ = _; kernel_rfl⟩
instance fk91 : KSize Go.Proofs.Tryd.prog 12 1 := ⟨by show _ = _; kernel_rfl⟩
instance fk92 : KOne Go.Proofs.Tryd.prog 12 := ⟨by show _ = _; kernel_rfl⟩
instance fk93 : KZero Go.Proofs.Tryd.prog 12 (.int .u64 0) := ⟨by show _ = _; kernel_rfl⟩
instance fk94 : KConc Go.Proofs.Tryd.prog 12 := ⟨by show _ = _; kernel_rfl⟩
instance fk95 : KSome Go.Proofs.Tryd.prog 13 := ⟨by show _ = _; kernel_rfl⟩
instance fk96 : KInfo Go.Proofs.Tryd.prog 13 [.string ⟨⟨[]⟩⟩, .int .u64 0] 2 24 := ⟨by show _ = _; kernel_rfl⟩
instance fk97 : KSize Go.Proofs.Tryd.prog 13 2 := ⟨by show _ = _; kernel_rfl⟩
instance fk98 : KAgg Go.Proofs.Tryd.prog 13 2 := ⟨by show _ = _; kernel_rfl⟩
instance fk99 : KStruct Go.Proofs.Tryd.prog 13 [.string ⟨⟨[]⟩⟩, .int .u64 0] [(0, 1), (1, 1)] := ⟨by show _ = _; kernel_rfl⟩
instance fk100 : KFieldOff Go.Proofs.Tryd.prog 13 0 0 := ⟨by show _ = _; kernel_rfl⟩
instance fk101 : KField1 Go.Proofs.Tryd.prog 13 0 0 1 := ⟨by show _ = _; kernel_rfl⟩
instance fk102 : KFieldOff Go.Proofs.Tryd.prog 13 1 1 := ⟨by show _ = _; kernel_rfl⟩
instance fk103 : KField1 Go.Proofs.Tryd.prog 13 1 1 1 := ⟨by show _ = _; kernel_rfl⟩
instance fk104 : KConc Go.Proofs.Tryd.prog 13 := ⟨by show _ = _; kernel_rfl⟩
instance fk105 : KSome Go.Proofs.Tryd.prog 14 := ⟨by show _ = _; kernel_rfl⟩
instance fk106 : KInfo Go.Proofs.Tryd.prog 14 [.string ⟨⟨[]⟩⟩, .int .u64 0] 2 24 := ⟨by show _ = _; kernel_rfl⟩
instance fk107 : KSize Go.Proofs.Tryd.prog 14 2 := ⟨by show _ = _; kernel_rfl⟩
instance fk108 : KAgg Go.Proofs.Tryd.prog 14 2 := ⟨by show _ = _; kernel_rfl⟩
instance fk109 : KStruct Go.Proofs.Tryd.prog 14 [.string ⟨⟨[]⟩⟩, .int .u64 0] [(0, 1), (1, 1)] := ⟨by show _ = _; kernel_rfl⟩
instance fk110 : KFieldOff Go.Proofs.Tryd.prog 14 0 0 := ⟨by show _ = _; kernel_rfl⟩
instance fk111 : KField1 Go.Proofs.Tryd.prog 14 0 0 1 := ⟨by show _ = _; kernel_rfl⟩
instance fk112 : KFieldOff Go.Proofs.Tryd.prog 14 1 1 := ⟨by show _ = _; kernel_rfl⟩
instance fk113 : KField1 Go.Proofs.Tryd.prog 14 1 1 1 := ⟨by show _ = _; kernel_rfl⟩
instance fk114 : KConc Go.Proofs.Tryd.prog 14 := ⟨by show _ = _; kernel_rfl⟩
instance fk115 : KUnd Go.Proofs.Tryd.prog 15 (.pointer 151) := ⟨by show _ = _; kernel_rfl⟩
instance fk116 : KSome Go.Proofs.Tryd.prog 15 := ⟨by show _ = _; kernel_rfl⟩
instance fk117 : KInfo Go.Proofs.Tryd.prog 15 [.pointer none] 1 8 := ⟨by show _ = _; kernel_rfl⟩
instance fk118 : KSize Go.Proofs.Tryd.prog 15 1 := ⟨by show _ = _; kernel_rfl⟩
instance fk119 : KOne Go.Proofs.Tryd.prog 15 := ⟨by show _ = _; kernel_rfl⟩
instance fk120 : KZero Go.Proofs.Tryd.prog 15 (.pointer none) := ⟨by show _ = _; kernel_rfl⟩
instance fk121 : KConc Go.Proofs.Tryd.prog 15 := ⟨by show _ = _; kernel_rfl⟩
instance fk122 : KUnd Go.Proofs.Tryd.prog 16 (.pointer 154) := ⟨by show _ = _; kernel_rfl⟩
instance fk123 : KSome Go.Proofs.Tryd.prog 16 := ⟨by show _ = _; kernel_rfl⟩
instance fk124 : KInfo Go.Proofs.Tryd.prog 16 [.pointer none] 1 8 := ⟨by show _ = _; kernel_rfl⟩
instance fk125 : KSize Go.Proofs.Tryd.prog 16 1 := ⟨by show _ = _; kernel_rfl⟩
instance fk126 : KOne Go.Proofs.Tryd.prog 16 := ⟨by show _ = _; kernel_rfl⟩
instance fk127 : KZero Go.Proofs.Tryd.prog 16 (.pointer none) := ⟨by show _ = _; kernel_rfl⟩
instance fk128 : KConc Go.Proofs.Tryd.prog 16 := ⟨by show _ = _; kernel_rfl⟩
instance fk129 : KUnd Go.Proofs.Tryd.prog 17 (.pointer 163) := ⟨by show _ = _; kernel_rfl⟩
instance fk130 : KSome Go.Proofs.Tryd.prog 17 := ⟨by show _ = _; kernel_rfl⟩
instance fk131 : KInfo Go.Proofs.Tryd.prog 17 [.pointer none] 1 8 := ⟨by show _ = _; kernel_rfl⟩
instance fk132 : KSize Go.Proofs.Tryd.prog 17 1 := ⟨by show _ = _; kernel_rfl⟩
instance fk133 : KOne Go.Proofs.Tryd.prog 17 := ⟨by show _ = _; kernel_rfl⟩
instance fk134 : KZero Go.Proofs.Tryd.prog 17 (.pointer none) := ⟨by show _ = _; kernel_rfl⟩
instance fk135 : KConc Go.Proofs.Tryd.prog 17 := ⟨by show _ = _; kernel_rfl⟩
instance fk136 : KSome Go.Proofs.Tryd.prog 18 := ⟨by show _ = _; kernel_rfl⟩
instance fk137 : KInfo Go.Proofs.Tryd.prog 18 [.pointer none] 1 8 := ⟨by show _ = _; kernel_rfl⟩
instance fk138 : KSize Go.Proofs.Tryd.prog 18 1 := ⟨by show _ = _; kernel_rfl⟩
instance fk139 : KAgg Go.Proofs.Tryd.prog 18 1 := ⟨by show _ = _; kernel_rfl⟩
instance fk140 : KStruct Go.Proofs.Tryd.prog 18 [.pointer none] [(0, 1)] := ⟨by show _ = _; kernel_rfl⟩
instance fk141 : KFieldOff Go.Proofs.Tryd.prog 18 0 0 := ⟨by show _ = _; kernel_rfl⟩
instance fk142 : KField1 Go.Proofs.Tryd.prog 18 0 0 1 := ⟨by show _ = _; kernel_rfl⟩
instance fk143 : KConc Go.Proofs.Tryd.prog 18 := ⟨by show _ = _; kernel_rfl⟩
instance fk144 : KSome Go.Proofs.Tryd.prog 19 := ⟨by show _ = _; kernel_rfl⟩
instance fk145 : KInfo Go.Proofs.Tryd.prog 19 [.pointer none] 1 8 := ⟨by show _ = _; kernel_rfl⟩
instance fk146 : KSize Go.Proofs.Tryd.prog 19 1 := ⟨by show _ = _; kernel_rfl⟩
instance fk147 : KAgg Go.Proofs.Tryd.prog 19 1 := ⟨by show _ = _; kernel_rfl⟩
instance fk148 : KStruct Go.Proofs.Tryd.prog 19 [.pointer none] [(0, 1)] := ⟨by show _ = _; kernel_rfl⟩
instance fk149 : KFieldOff Go.Proofs.Tryd.prog 19 0 0 := ⟨by show _ = _; kernel_rfl⟩
instance fk150 : KField1 Go.Proofs.Tryd.prog 19 0 0 1 := ⟨by show _ = _; kernel_rfl⟩
instance fk151 : KConc Go.Proofs.Tryd.prog 19 := ⟨by show _ = _; kernel_rfl⟩
instance fk152 : KSome Go.Proofs.Tryd.prog 20 := ⟨by show _ = _; kernel_rfl⟩
instance fk153 : KInfo Go.Proofs.Tryd.prog 20 [.nilIface] 1 16 := ⟨by show _ = _; kernel_rfl⟩
instance fk154 : KSize Go.Proofs.Tryd.prog 20 1 := ⟨by show _ = _; kernel_rfl⟩
instance fk155 : KOne Go.Proofs.Tryd.prog 20 := ⟨by show _ = _; kernel_rfl⟩
instance fk156 : KZero Go.Proofs.Tryd.prog 20 (.nilIface) := ⟨by show _ = _; kernel_rfl⟩
instance fk157 : KUnd Go.Proofs.Tryd.prog 21 (.int .i32) := ⟨by show _ = _; kernel_rfl⟩
instance fk158 : KSome Go.Proofs.Tryd.prog 21 := ⟨by show _ = _; kernel_rfl⟩
instance fk159 : KInfo Go.Proofs.Tryd.prog 21 [.int .i32 0] 1 4 := ⟨by show _ = _; kernel_rfl⟩
instance fk160 : KSize Go.Proofs.Tryd.prog 21 1 := ⟨by show _ = _; kernel_rfl⟩
instance fk161 : KOne Go.Proofs.Tryd.prog 21 := ⟨by show _ = _; kernel_rfl⟩
instance fk162 : KZero Go.Proofs.Tryd.prog 21 (.int .i32 0) := ⟨by show _ = _; kernel_rfl⟩
instance fk163 : KConc Go.Proofs.Tryd.prog 21 := ⟨by show _ = _; kernel_rfl⟩
instance fk164 : KUnd Go.Proofs.Tryd.prog 22 (.slice 33) := ⟨by show _ = _; kernel_rfl⟩
instance fk165 : KSome Go.Proofs.Tryd.prog 22 := ⟨by show _ = _; kernel_rfl⟩
instance fk166 : KInfo Go.Proofs.Tryd.prog 22 [.slice none 0 0] 1 24 := ⟨by show _ = _; kernel_rfl⟩
instance fk167 : KSize Go.Proofs.Tryd.prog 22 1 := ⟨by show _ = _; kernel_rfl⟩
instance fk168 : KOne Go.Proofs.Tryd.prog 22 := ⟨by show _ = _; kernel_rfl⟩
instance fk169 : KZero Go.Proofs.Tryd.prog 22 (.slice none 0 0) := ⟨by show _ = _; kernel_rfl⟩
instance fk170 : KSlice Go.Proofs.Tryd.prog 22 33 10 := ⟨⟨by kernel_rfl, by kernel_rfl⟩⟩
instance fk171 : KConc Go.Proofs.Tryd.prog 22 := ⟨by show _ = _; kernel_rfl⟩
instance fk172 : KInfo Go.Proofs.Tryd.prog 23 [.nilFunc] 1 8 := ⟨by show _ = _; kernel_rfl⟩
instance fk173 : KSize Go.Proofs.Tryd.prog 23 1 := ⟨by show _ = _; kernel_rfl⟩
instance fk174 : KOne Go.Proofs.Tryd.prog 23 := ⟨by show _ = _; kernel_rfl⟩
instance fk175 : KInfo Go.Proofs.Tryd.prog 24 [.nilFunc] 1 8 := ⟨by show _ = _; kernel_rfl⟩
instance fk176 : KSize Go.Proofs.Tryd.prog 24 1 := ⟨by show _ = _; kernel_rfl⟩
instance fk177 : KOne Go.Proofs.Tryd.prog 24 := ⟨by show _ = _; kernel_rfl⟩
instance fk178 : KUnd Go.Proofs.Tryd.prog 25 (.pointer 61) := ⟨by show _ = _; kernel_rfl⟩
instance fk179 : KSome Go.Proofs.Tryd.prog 25 := ⟨by show _ = _; kernel_rfl⟩
instance fk180 : KInfo Go.Proofs.Tryd.prog 25 [.pointer none] 1 8 := ⟨by show _ = _; kernel_rfl⟩
instance fk181 : KSize Go.Proofs.Tryd.prog 25 1 := ⟨by show _ = _; kernel_rfl⟩
instance fk182 : KOne Go.Proofs.Tryd.prog 25 := ⟨by show _ = _; kernel_rfl⟩
instance fk183 : KZero Go.Proofs.Tryd.prog 25 (.pointer none) := ⟨by show _ = _; kernel_rfl⟩
instance fk184 : KConc Go.Proofs.Tryd.prog 25 := ⟨by show _ = _; kernel_rfl⟩
instance fk185 : KInfo Go.Proofs.Tryd.prog 26 [.nilFunc] 1 8 := ⟨by show _ = _; kernel_rfl⟩
instance fk186 : KSize Go.Proofs.Tryd.prog 26 1 := ⟨by show _ = _; kernel_rfl⟩
instance fk187 : KOne Go.Proofs.Tryd.prog 26 := ⟨by show _ = _; kernel_rfl⟩
instance fk188 : KUnd Go.Proofs.Tryd.prog 27 (.int .i64) := ⟨by show _ = _; kernel_rfl⟩
instance fk189 : KSome Go.Proofs.Tryd.prog 27 := ⟨by show _ = _; kernel_rfl⟩
instance fk190 : KInfo Go.Proofs.Tryd.prog 27 [.int .i64 0] 1 8 := ⟨by show _ = _; kernel_rfl⟩
instance fk191 : KSize Go.Proofs.Tryd.prog 27 1 := ⟨by show _ = _; kernel_rfl⟩
instance fk192 : KOne Go.Proofs.Tryd.prog 27 := ⟨by show _ = _; kernel_rfl⟩
instance fk193 : KZero Go.Proofs.Tryd.prog 27 (.int .i64 0) := ⟨by show _ = _; kernel_rfl⟩
instance fk194 : KConc Go.Proofs.Tryd.prog 27 := ⟨by show _ = _; kernel_rfl⟩
instance fk195 : KInfo Go.Proofs.Tryd.prog 28 [.nilFunc] 1 8 := ⟨by show _ = _; kernel_rfl⟩
instance fk196 : KSize Go.Proofs.Tryd.prog 28 1 := ⟨by show _ = _; kernel_rfl⟩
instance fk197 : KOne Go.Proofs.Tryd.prog 28 := ⟨by show _ = _; kernel_rfl⟩
instance fk198 : KUnd Go.Proofs.Tryd.prog 29 (.slice 5) := ⟨by show _ = _; kernel_rfl⟩
instance fk199 : KSome Go.Proofs.Tryd.prog 29 := ⟨by show _ = _; kernel_rfl⟩
instance fk200 : KInfo Go.Proofs.Tryd.prog 29 [.slice none 0 0] 1 24 := ⟨by show _ = _; kernel_rfl⟩
instance fk201 : KSize Go.Proofs.Tryd.prog 29 1 := ⟨by show _ = _; kernel_rfl⟩
instance fk202 : KOne Go.Proofs.Tryd.prog 29 := ⟨by show _ = _; kernel_rfl⟩
instance fk203 : KZero Go.Proofs.Tryd.prog 29 (.slice none 0 0) := ⟨by show _ = _; kernel_rfl⟩
instance fk204 : KSlice Go.Proofs.Tryd.prog 29 5 1 := ⟨⟨by kernel_rfl, by kernel_rfl⟩⟩
instance fk205 : KConc Go.Proofs.Tryd.prog 29 := ⟨by show _ = _; kernel_rfl⟩
instance fk206 : KSome Go.Proofs.Tryd.prog 30 := ⟨by show _ = _; kernel_rfl⟩
instance fk207 : KInfo Go.Proofs.Tryd.prog 30 [.string ⟨⟨[]⟩⟩, .string ⟨⟨[]⟩⟩, .int .i64 0, .int .i64 0] 4 48 := ⟨by show _ = _; kernel_rfl⟩
instance fk208 : KSize Go.Proofs.Tryd.prog 30 4 := ⟨by show _ = _; kernel_rfl⟩
instance fk209 : KAgg Go.Proofs.Tryd.prog 30 4 := ⟨by show _ = _; kernel_rfl⟩
instance fk210 : KStruct Go.Proofs.Tryd.prog 30 [.string ⟨⟨[]⟩⟩, .string ⟨⟨[]⟩⟩, .int .i64 0, .int .i64 0] [(0, 1), (1, 1), (2, 1), (3, 1)] := ⟨by show _ = _; kernel_rfl⟩
instance fk211 : KFieldOff Go.Proofs.Tryd.prog 30 0 0 := ⟨by show _ = _; kernel_rfl⟩
instance fk212 : KField1 Go.Proofs.Tryd.prog 30 0 0 1 := ⟨by show _ = _; kernel_rfl⟩
instance fk213 : KFieldOff Go.Proofs.Tryd.prog 30 1 1 := ⟨by show _ = _; kernel_rfl⟩
instance fk214 : KField1 Go.Proofs.Tryd.prog 30 1 1 1 := ⟨by show _ = _; kernel_rfl⟩
instance fk215 : KFieldOff Go.Proofs.Tryd.prog 30 2 2 := ⟨by show _ = _; kernel_rfl⟩
instance fk216 : KField1 Go.Proofs.Tryd.prog 30 2 2 1 := ⟨by show _ = _; kernel_rfl⟩
instance fk217 : KFieldOff Go.Proofs.Tryd.prog 30 3 3 := ⟨by show _ = _; kernel_rfl⟩
instance fk218 : KField1 Go.Proofs.Tryd.prog 30 3 3 1 := ⟨by show _ = _; kernel_rfl⟩
instance fk219 : KConc Go.Proofs.Tryd.prog 30 := ⟨by show _ = _; kernel_rfl⟩
instance fk220 : KSome Go.Proofs.Tryd.prog 31 := ⟨by show _ = _; kernel_rfl⟩
instance fk221 : KInfo Go.Proofs.Tryd.prog 31 [.string ⟨⟨[]⟩⟩, .string ⟨⟨[]⟩⟩, .int .i64 0, .int .i64 0] 4 48 := ⟨by show _ = _; kernel_rfl⟩
instance fk222 : KSize Go.Proofs.Tryd.prog 31 4 := ⟨by show _ = _; kernel_rfl⟩
instance fk223 : KAgg Go.Proofs.Tryd.prog 31 4 := ⟨by show _ = _; kernel_rfl⟩
instance fk224 : KStruct Go.Proofs.Tryd.prog 31 [.string ⟨⟨[]⟩⟩, .string ⟨⟨[]⟩⟩, .int .i64 0, .int .i64 0] [(0, 1), (1, 1), (2, 1), (3, 1)] := ⟨by show _ = _; kernel_rfl⟩
instance fk225 : KFieldOff Go.Proofs.Tryd.prog 31 0 0 := ⟨by show _ = _; kernel_rfl⟩
instance fk226 : KField1 Go.Proofs.Tryd.prog 31 0 0 1 := ⟨by show _ = _; kernel_rfl⟩
instance fk227 : KFieldOff Go.Proofs.Tryd.prog 31 1 1 := ⟨by show _ = _; kernel_rfl⟩
instance fk228 : KField1 Go.Proofs.Tryd.prog 31 1 1 1 := ⟨by show _ = _; kernel_rfl⟩
instance fk229 : KFieldOff Go.Proofs.Tryd.prog 31 2 2 := ⟨by show _ = _; kernel_rfl⟩
instance fk230 : KField1 Go.Proofs.Tryd.prog 31 2 2 1 := ⟨by show _ = _; kernel_rfl⟩
instance fk231 : KFieldOff Go.Proofs.Tryd.prog 31 3 3 := ⟨by show _ = _; kernel_rfl⟩
instance fk232 : KField1 Go.Proofs.Tryd.prog 31 3 3 1 := ⟨by show _ = _; kernel_rfl⟩
instance fk233 : KConc Go.Proofs.Tryd.prog 31 := ⟨by show _ = _; kernel_rfl⟩
instance fk234 : KSome Go.Proofs.Tryd.prog 32 := ⟨by show _ = _; kernel_rfl⟩
instance fk235 : KInfo Go.Proofs.Tryd.prog 32 [.int .i64 0, .string ⟨⟨[]⟩⟩, .string ⟨⟨[]⟩⟩, .slice none 0 0, .int .i64 0, .int .i64 0, .string ⟨⟨[]⟩⟩, .string ⟨⟨[]⟩⟩, .int .i64 0, .int .i64 0] 10 128 := ⟨by show _ = _; kernel_rfl⟩
instance fk236 : KSize Go.Proofs.Tryd.prog 32 10 := ⟨by show _ = _; kernel_rfl⟩
instance fk237 : KAgg Go.Proofs.Tryd.prog 32 10 := ⟨by show _ = _; kernel_rfl⟩
instance fk238 : KStruct Go.Proofs.Tryd.prog 32 [.int .i64 0, .string ⟨⟨[]⟩⟩, .string ⟨⟨[]⟩⟩, .slice none 0 0, .int .i64 0, .int .i64 0, .string ⟨⟨[]⟩⟩, .string ⟨⟨[]⟩⟩, .int .i64 0, .int .i64 0] [(0, 1), (1, 1), (2, 1), (3, 1), (4, 1), (5, 1), (6, 4)] := ⟨by show _ = _; kernel_rfl⟩
instance fk239 : KFieldOff Go.Proofs.Tryd.prog 32 0 0 := ⟨by show _ = _; kernel_rfl⟩
instance fk240 : KField1 Go.Proofs.Tryd.prog 32 0 0 1 := ⟨by show _ = _; kernel_rfl⟩
instance fk241 : KFieldOff Go.Proofs.Tryd.prog 32 1 1 := ⟨by show _ = _; kernel_rfl⟩
instance fk242 : KField1 Go.Proofs.Tryd.prog 32 1 1 1 := ⟨by show _ = _; kernel_rfl⟩
instance fk243 : KFieldOff Go.Proofs.Tryd.prog 32 2 2 := ⟨by show _ = _; kernel_rfl⟩
instance fk244 : KField1 Go.Proofs.Tryd.prog 32 2 2 1 := ⟨by show _ = _; kernel_rfl⟩
instance fk245 : KFieldOff Go.Proofs.Tryd.prog 32 3 3 := ⟨by show _ = _; kernel_rfl⟩
instance fk246 : KField1 Go.Proofs.Tryd.prog 32 3 3 1 := ⟨by show _ = _; kernel_rfl⟩
instance fk247 : KFieldOff Go.Proofs.Tryd.prog 32 4 4 := ⟨by show _ = _; kernel_rfl⟩
instance fk248 : KField1 Go.Proofs.Tryd.prog 32 4 4 1 := ⟨by show _ = _; kernel_rfl⟩
instance fk249 : KFieldOff Go.Proofs.Tryd.prog 32 5 5 := ⟨by show _ = _; kernel_rfl⟩
instance fk250 : KField1 Go.Proofs.Tryd.prog 32 5 5 1 := ⟨by show _ = _; kernel_rfl⟩
instance fk251 : KFieldOff Go.Proofs.Tryd.prog 32 6 6 := ⟨by show _ = _; kernel_rfl⟩
instance fk252 : KFieldA Go.Proofs.Tryd.prog 32 6 6 4 := ⟨by show _ = _; kernel_rfl⟩
instance fk253 : KConc Go.Proofs.Tryd.prog 32 := ⟨by show _ = _; kernel_rfl⟩
instance fk254 : KSome Go.Proofs.Tryd.prog 33 := ⟨by show _ = _; kernel_rfl⟩
instance fk255 : KInfo Go.Proofs.Tryd.prog 33 [.int .i64 0, .string ⟨⟨[]⟩⟩, .string ⟨⟨[]⟩⟩, .slice none 0 0, .int .i64 0, .int .i64 0, .string ⟨⟨[]⟩⟩, .string ⟨⟨[]⟩⟩, .int .i64 0, .int .i64 0] 10 128 := ⟨by show _ = _; kernel_rfl⟩
instance fk256 : KSize Go.Proofs.Tryd.prog 33 10 := ⟨by show _ = _; kernel_rfl⟩
instance fk257 : KAgg Go.Proofs.Tryd.prog 33 10 := ⟨by show _ = _; kernel_rfl⟩
instance fk258 : KStruct Go.Proofs.Tryd.prog 33 [.int .i64 0, .string ⟨⟨[]⟩⟩, .string ⟨⟨[]⟩⟩, .slice none 0 0, .int .i64 0, .int .i64 0, .string ⟨⟨[]⟩⟩, .string ⟨⟨[]⟩⟩, .int .i64 0, .int .i64 0] [(0, 1), (1, 1), (2, 1), (3, 1), (4, 1), (5, 1), (6, 4)] := ⟨by show _ = _; kernel_rfl⟩
instance fk259 : KFieldOff Go.Proofs.Tryd.prog 33 0 0 := ⟨by show _ = _; kernel_rfl⟩
instance fk260 : KField1 Go.Proofs.Tryd.prog 33 0 0 1 := ⟨by show _ = _; kernel_rfl⟩
instance fk261 : KFieldOff Go.Proofs.Tryd.prog 33 1 1 := ⟨by show _ = _; kernel_rfl⟩
instance fk262 : KField1 Go.Proofs.Tryd.prog 33 1 1 1 := ⟨by show _ = _; kernel_rfl⟩
instance fk263 : KFieldOff Go.Proofs.Tryd.prog 33 2 2 := ⟨by show _ = _; kernel_rfl⟩
instance fk264 : KField1 Go.Proofs.Tryd.prog 33 2 2 1 := ⟨by show _ = _; kernel_rfl⟩
instance fk265 : KFieldOff Go.Proofs.Tryd.prog 33 3 3 := ⟨by show _ = _; kernel_rfl⟩
instance fk266 : KField1 Go.Proofs.Tryd.prog 33 3 3 1 := ⟨by show _ = _; kernel_rfl⟩
instance fk267 : KFieldOff Go.Proofs.Tryd.prog 33 4 4 := ⟨by show _ = _; kernel_rfl⟩
instance fk268 : KField1 Go.Proofs.Tryd.prog 33 4 4 1 := ⟨by show _ = _; kernel_rfl⟩
instance fk269 : KFieldOff Go.Proofs.Tryd.prog 33 5 5 := ⟨by show _ = _; kernel_rfl⟩
instance fk270 : KField1 Go.Proofs.Tryd.prog 33 5 5 1 := ⟨by show _ = _; kernel_rfl⟩
instance fk271 : KFieldOff Go.Proofs.Tryd.prog 33 6 6 := ⟨by show _ = _; kernel_rfl⟩
instance fk272 : KFieldA Go.Proofs.Tryd.prog 33 6 6 4 := ⟨by show _ = _; kernel_rfl⟩
instance fk273 : KConc Go.Proofs.Tryd.prog 33 := ⟨by show _ = _; kernel_rfl⟩
instance fk274 : KUnd Go.Proofs.Tryd.prog 34 (.int .u32) := ⟨by show _ = _; kernel_rfl⟩
instance fk275 : KSome Go.Proofs.Tryd.prog 34 := ⟨by show _ = _; kernel_rfl⟩
instance fk276 : KInfo Go.Proofs.Tryd.prog 34 [.int .u32 0] 1 4 := ⟨by show _ = _; kernel_rfl⟩
instance fk277 : KSize Go.Proofs.Tryd.prog 34 1 := ⟨by show _ = _; kernel_rfl⟩
instance fk278 : KOne Go.Proofs.Tryd.prog 34 := ⟨by show _ = _; kernel_rfl⟩
instance fk279 : KZero Go.Proofs.Tryd.prog 34 (.int .u32 0) := ⟨by show _ = _; kernel_rfl⟩
instance fk280 : KConc Go.Proofs.Tryd.prog 34 := ⟨by show _ = _; kernel_rfl⟩
instance fk281 : KSome Go.Proofs.Tryd.prog 35 := ⟨by show _ = _; kernel_rfl⟩
instance fk282 : KInfo Go.Proofs.Tryd.prog 35 [.int .i64 0, .bool false, .int .i64 0, .int .u32 0] 4 32 := ⟨by show _ = _; kernel_rfl⟩
instance fk283 : KSize Go.Proofs.Tryd.prog 35 4 := ⟨by show _ = _; kernel_rfl⟩
instance fk284 : KAgg Go.Proofs.Tryd.prog 35 4 := ⟨by show _ = _; kernel_rfl⟩
instance fk285 : KStruct Go.Proofs.Tryd.prog 35 [.int .i64 0, .bool false, .int .i64 0, .int .u32 0] [(0, 1), (1, 1), (2, 1), (3, 1)] := ⟨by show _ = _; kernel_rfl⟩
instance fk286 : KFieldOff Go.Proofs.Tryd.prog 35 0 0 := ⟨by show _ = _; kernel_rfl⟩
instance fk287 : KField1 Go.Proofs.Tryd.prog 35 0 0 1 := ⟨by show _ = _; kernel_rfl⟩
instance fk288 : KFieldOff Go.Proofs.Tryd.prog 35 1 1 := ⟨by show _ = _; kernel_rfl⟩
instance fk289 : KField1 Go.Proofs.Tryd.prog 35 1 1 1 := ⟨by show _ = _; kernel_rfl⟩
instance fk290 : KFieldOff Go.Proofs.Tryd.prog 35 2 2 := ⟨by show _ = _; kernel_rfl⟩
instance fk291 : KField1 Go.Proofs.Tryd.prog 35 2 2 1 := ⟨by show _ = _; kernel_rfl⟩
instance fk292 : KFieldOff Go.Proofs.Tryd.prog 35 3 3 := ⟨by show _ = _; kernel_rfl⟩
instance fk293 : KField1 Go.Proofs.Tryd.prog 35 3 3 1 := ⟨by show _ = _; kernel_rfl⟩
instance fk294 : KConc Go.Proofs.Tryd.prog 35 := ⟨by show _ = _; kernel_rfl⟩
instance fk295 : KSome Go.Proofs.Tryd.prog 36 := ⟨by show _ = _; kernel_rfl⟩
instance fk296 : KInfo Go.Proofs.Tryd.prog 36 [.int .i64 0, .bool false, .int .i64 0, .int .u32 0] 4 32 := ⟨by show _ = _; kernel_rfl⟩
instance fk297 : KSize Go.Proofs.Tryd.prog 36 4 := ⟨by show _ = _; kernel_rfl⟩
instance fk298 : KAgg Go.Proofs.Tryd.prog 36 4 := ⟨by show _ = _; kernel_rfl⟩
instance fk299 : KStruct Go.Proofs.Tryd.prog 36 [.int .i64 0, .bool false, .int .i64 0, .int .u32 0] [(0, 1), (1, 1), (2, 1), (3, 1)] := ⟨by show _ = _; kernel_rfl⟩
instance fk300 : KFieldOff Go.Proofs.Tryd.prog 36 0 0 := ⟨by show _ = _; kernel_rfl⟩
instance fk301 : KField1 Go.Proofs.Tryd.prog 36 0 0 1 := ⟨by show _ = _; kernel_rfl⟩
instance fk302 : KFieldOff Go.Proofs.Tryd.prog 36 1 1 := ⟨by show _ = _; kernel_rfl⟩
instance fk303 : KField1 Go.Proofs.Tryd.prog 36 1 1 1 := ⟨by show _ = _; kernel_rfl⟩
instance fk304 : KFieldOff Go.Proofs.Tryd.prog 36 2 2 := ⟨by show _ = _; kernel_rfl⟩
instance fk305 : KField1 Go.Proofs.Tryd.prog 36 2 2 1 := ⟨by show _ = _; kernel_rfl⟩
instance fk306 : KFieldOff Go.Proofs.Tryd.prog 36 3 3 := ⟨by show _ = _; kernel_rfl⟩
instance fk307 : KField1 Go.Proofs.Tryd.prog 36 3 3 1 := ⟨by show _ = _; kernel_rfl⟩
instance fk308 : KConc Go.Proofs.Tryd.prog 36 := ⟨by show _ = _; kernel_rfl⟩
instance fk309 : KUnd Go.Proofs.Tryd.prog 37 (.slice 49) := ⟨by show _ = _; kernel_rfl⟩
instance fk310 : KSome Go.Proofs.Tryd.prog 37 := ⟨by show _ = _; kernel_rfl⟩
instance fk311 : KInfo Go.Proofs.Tryd.prog 37 [.slice none 0 0] 1 24 := ⟨by show _ = _; kernel_rfl⟩
instance fk312 : KSize Go.Proofs.Tryd.prog 37 1 := ⟨by show _ = _; kernel_rfl⟩
instance fk313 : KOne Go.Proofs.Tryd.prog 37 := ⟨by show _ = _; kernel_rfl⟩
instance fk314 : KZero Go.Proofs.Tryd.prog 37 (.slice none 0 0) := ⟨by show _ = _; kernel_rfl⟩
instance fk315 : KSlice Go.Proofs.Tryd.prog 37 49 6 := ⟨⟨by kernel_rfl, by kernel_rfl⟩⟩
instance fk316 : KConc Go.Proofs.Tryd.prog 37 := ⟨by show _ = _; kernel_rfl⟩
instance fk317 : KSome Go.Proofs.Tryd.prog 38 := ⟨by show _ = _; kernel_rfl⟩
instance fk318 : KInfo Go.Proofs.Tryd.prog 38 [.slice none 0 0, .bool false, .string ⟨⟨[]⟩⟩, .int .i64 0] 4 56 := ⟨by show _ = _; kernel_rfl⟩
instance fk319 : KSize Go.Proofs.Tryd.prog 38 4 := ⟨by show _ = _; kernel_rfl⟩
instance fk320 : KAgg Go.Proofs.Tryd.prog 38 4 := ⟨by show _ = _; kernel_rfl⟩
instance fk321 : KStruct Go.Proofs.Tryd.prog 38 [.slice none 0 0, .bool false, .string ⟨⟨[]⟩⟩, .int .i64 0] [(0, 1), (1, 1), (2, 1), (3, 1)] := ⟨by show _ = _; kernel_rfl⟩
instance fk322 : KFieldOff Go.Proofs.Tryd.prog 38 0 0 := ⟨by show _ = _; kernel_rfl⟩
instance fk323 : KField1 Go.Proofs.Tryd.prog 38 0 0 1 := ⟨by show _ = _; kernel_rfl⟩
instance fk324 : KFieldOff Go.Proofs.Tryd.prog 38 1 1 := ⟨by show _ = _; kernel_rfl⟩
instance fk325 : KField1 Go.Proofs.Tryd.prog 38 1 1 1 := ⟨by show _ = _; kernel_rfl⟩
instance fk326 : KFieldOff Go.Proofs.Tryd.prog 38 2 2 := ⟨by show _ = _; kernel_rfl⟩
instance fk327 : KField1 Go.Proofs.Tryd.prog 38 2 2 1 := ⟨by show _ = _; kernel_rfl⟩
instance fk328 : KFieldOff Go.Proofs.Tryd.prog 38 3 3 := ⟨by show _ = _; kernel_rfl⟩
instance fk329 : KField1 Go.Proofs.Tryd.prog 38 3 3 1 := ⟨by show _ = _; kernel_rfl⟩
instance fk330 : KConc Go.Proofs.Tryd.prog 38 := ⟨by show _ = _; kernel_rfl⟩
instance fk331 : KSome Go.Proofs.Tryd.prog 39 := ⟨by show _ = _; kernel_rfl⟩
instance fk332 : KInfo Go.Proofs.Tryd.prog 39 [.slice none 0 0, .bool false, .string ⟨⟨[]⟩⟩, .int .i64 0] 4 56 := ⟨by show _ = _; kernel_rfl⟩
instance fk333 : KSize Go.Proofs.Tryd.prog 39 4 := ⟨by show _ = _; kernel_rfl⟩
instance fk334 : KAgg Go.Proofs.Tryd.prog 39 4 := ⟨by show _ = _; kernel_rfl⟩
instance fk335 : KStruct Go.Proofs.Tryd.prog 39 [.slice none 0 0, .bool false, .string ⟨⟨[]⟩⟩, .int .i64 0] [(0, 1), (1, 1), (2, 1), (3, 1)] := ⟨by show _ = _; kernel_rfl⟩
instance fk336 : KFieldOff Go.Proofs.Tryd.prog 39 0 0 := ⟨by show _ = _; kernel_rfl⟩
instance fk337 : KField1 Go.Proofs.Tryd.prog 39 0 0 1 := ⟨by show _ = _; kernel_rfl⟩
instance fk338 : KFieldOff Go.Proofs.Tryd.prog 39 1 1 := ⟨by show _ = _; kernel_rfl⟩
instance fk339 : KField1 Go.Proofs.Tryd.prog 39 1 1 1 := ⟨by show _ = _; kernel_rfl⟩
instance fk340 : KFieldOff Go.Proofs.Tryd.prog 39 2 2 := ⟨by show _ = _; kernel_rfl⟩
instance fk341 : KField1 Go.Proofs.Tryd.prog 39 2 2 1 := ⟨by show _ = _; kernel_rfl⟩
instance fk342 : KFieldOff Go.Proofs.Tryd.prog 39 3 3 := ⟨by show _ = _; kernel_rfl⟩
instance fk343 : KField1 Go.Proofs.Tryd.prog 39 3 3 1 := ⟨by show _ = _; kernel_rfl⟩
instance fk344 : KConc Go.Proofs.Tryd.prog 39 := ⟨by show _ = _; kernel_rfl⟩
instance fk345 : KUnd Go.Proofs.Tryd.prog 40 (.slice 9) := ⟨by show _ = _; kernel_rfl⟩
instance fk346 : KSome Go.Proofs.Tryd.prog 40 := ⟨by show _ = _; kernel_rfl⟩
instance fk347 : KInfo Go.Proofs.Tryd.prog 40 [.slice none 0 0] 1 24 := ⟨by show _ = _; kernel_rfl⟩
instance fk348 : KSize Go.Proofs.Tryd.prog 40 1 := ⟨by show _ = _; kernel_rfl⟩
instance fk349 : KOne Go.Proofs.Tryd.prog 40 := ⟨by show _ = _; kernel_rfl⟩
instance fk350 : KZero Go.Proofs.Tryd.prog 40 (.slice none 0 0) := ⟨by show _ = _; kernel_rfl⟩
instance fk351 : KSlice Go.Proofs.Tryd.prog 40 9 1 := ⟨⟨by kernel_rfl, by kernel_rfl⟩⟩
instance fk352 : KConc Go.Proofs.Tryd.prog 40 := ⟨by show _ = _; kernel_rfl⟩
instance fk353 : KSome Go.Proofs.Tryd.prog 41 := ⟨by show _ = _; kernel_rfl⟩
instance fk354 : KInfo Go.Proofs.Tryd.prog 41 [.int .i64 0, .int .i64 0, .bool false, .int .i64 0, .int .u32 0, .slice none 0 0, .slice none 0 0, .bool false, .string ⟨⟨[]⟩⟩, .int .i64 0, .slice none 0 0] 11 144 := ⟨by show _ = _; kernel_rfl⟩
instance fk355 : KSize Go.Proofs.Tryd.prog 41 11 := ⟨by show _ = _; kernel_rfl⟩
instance fk356 : KAgg Go.Proofs.Tryd.prog 41 11 := ⟨by show _ = _; kernel_rfl⟩
instance fk357 : KStruct Go.Proofs.Tryd.prog 41 [.int .i64 0, .int .i64 0, .bool false, .int .i64 0, .int .u32 0, .slice none 0 0, .slice none 0 0, .bool false, .string ⟨⟨[]⟩⟩, .int .i64 0, .slice none 0 0] [(0, 1), (1, 4), (5, 1), (6, 4), (10, 1)] := ⟨by show _ = _; kernel_rfl⟩
instance fk358 : KFieldOff Go.Proofs.Tryd.prog 41 0 0 := ⟨by show _ = _; kernel_rfl⟩
instance fk359 : KField1 Go.Proofs.Tryd.prog 41 0 0 1 := ⟨by show _ = _; kernel_rfl⟩
instance fk360 : KFieldOff Go.Proofs.Tryd.prog 41 1 1 := ⟨by show _ = _; kernel_rfl⟩
instance fk361 : KFieldA Go.Proofs.Tryd.prog 41 1 1 4 := ⟨by show _ = _; kernel_rfl⟩
instance fk362 : KFieldOff Go.Proofs.Tryd.prog 41 2 5 := ⟨by show _ = _; kernel_rfl⟩
instance fk363 : KField1 Go.Proofs.Tryd.prog 41 2 5 1 := ⟨by show _ = _; kernel_rfl⟩
instance fk364 : KFieldOff Go.Proofs.Tryd.prog 41 3 6 := ⟨by show _ = _; kernel_rfl⟩
instance fk365 : KFieldA Go.Proofs.Tryd.prog 41 3 6 4 := ⟨by show _ = _; kernel_rfl⟩
instance fk366 : KFieldOff Go.Proofs.Tryd.prog 41 4 10 := ⟨by show _ = _; kernel_rfl⟩
instance fk367 : KField1 Go.Proofs.Tryd.prog 41 4 10 1 := ⟨by show _ = _; kernel_rfl⟩
instance fk368 : KConc Go.Proofs.Tryd.prog 41 := ⟨by show _ = _; kernel_rfl⟩
instance fk369 : KSome Go.Proofs.Tryd.prog 42 := ⟨by show _ = _; kernel_rfl⟩
instance fk370 : KInfo Go.Proofs.Tryd.prog 42 [.int .i64 0, .int .i64 0, .bool false, .int .i64 0, .int .u32 0, .slice none 0 0, .slice none 0 0, .bool false, .string ⟨⟨[]⟩⟩, .int .i64 0, .slice none 0 0] 11 144 := ⟨by show _ = _; kernel_rfl⟩
instance fk371 : KSize Go.Proofs.Tryd.prog 42 11 := ⟨by show _ = _; kernel_rfl⟩
instance fk372 : KAgg Go.Proofs.Tryd.prog 42 11 := ⟨by show _ = _; kernel_rfl⟩
instance fk373 : KStruct Go.Proofs.Tryd.prog 42 [.int .i64 0, .int .i64 0, .bool false, .int .i64 0, .int .u32 0, .slice none 0 0, .slice none 0 0, .bool false, .string ⟨⟨[]⟩⟩, .int .i64 0, .slice none 0 0] [(0, 1), (1, 4), (5, 1), (6, 4), (10, 1)] := ⟨by show _ = _; kernel_rfl⟩
instance fk374 : KFieldOff Go.Proofs.Tryd.prog 42 0 0 := ⟨by show _ = _; kernel_rfl⟩
instance fk375 : KField1 Go.Proofs.Tryd.prog 42 0 0 1 := ⟨by show _ = _; kernel_rfl⟩
instance fk376 : KFieldOff Go.Proofs.Tryd.prog 42 1 1 := ⟨by show _ = _; kernel_rfl⟩
instance fk377 : KFieldA Go.Proofs.Tryd.prog 42 1 1 4 := ⟨by show _ = _; kernel_rfl⟩
instance fk378 : KFieldOff Go.Proofs.Tryd.prog 42 2 5 := ⟨by show _ = _; kernel_rfl⟩
instance fk379 : KField1 Go.Proofs.Tryd.prog 42 2 5 1 := ⟨by show _ = _; kernel_rfl⟩
instance fk380 : KFieldOff Go.Proofs.Tryd.prog 42 3 6 := ⟨by show _ = _; kernel_rfl⟩
instance fk381 : KFieldA Go.Proofs.Tryd.prog 42 3 6 4 := ⟨by show _ = _; kernel_rfl⟩
instance fk382 : KFieldOff Go.Proofs.Tryd.prog 42 4 10 := ⟨by show _ = _; kernel_rfl⟩
instance fk383 : KField1 Go.Proofs.Tryd.prog 42 4 10 1 := ⟨by show _ = _; kernel_rfl⟩
instance fk384 : KConc Go.Proofs.Tryd.prog 42 := ⟨by show _ = _; kernel_rfl⟩
instance fk385 : KInfo Go.Proofs.Tryd.prog 43 [.nilFunc] 1 8 := ⟨by show _ = _; kernel_rfl⟩
instance fk386 : KSize Go.Proofs.Tryd.prog 43 1 := ⟨by show _ = _; kernel_rfl⟩
instance fk387 : KOne Go.Proofs.Tryd.prog 43 := ⟨by show _ = _; kernel_rfl⟩
instance fk388 : KSome Go.Proofs.Tryd.prog 44 := ⟨by show _ = _; kernel_rfl⟩
instance fk389 : KInfo Go.Proofs.Tryd.prog 44 [.slice none 0 0, .bool false, .string ⟨⟨[]⟩⟩, .int .i64 0] 4 56 := ⟨by show _ = _; kernel_rfl⟩
instance fk390 : KSize Go.Proofs.Tryd.prog 44 4 := ⟨by show _ = _; kernel_rfl⟩
instance fk391 : KAgg Go.Proofs.Tryd.prog 44 4 := ⟨by show _ = _; kernel_rfl⟩
instance fk392 : KStruct Go.Proofs.Tryd.prog 44 [.slice none 0 0, .bool false, .string ⟨⟨[]⟩⟩, .int .i64 0] [(0, 1), (1, 1), (2, 1), (3, 1)] := ⟨by show _ = _; kernel_rfl⟩
instance fk393 : KFieldOff Go.Proofs.Tryd.prog 44 0 0 := ⟨by show _ = _; kernel_rfl⟩
instance fk394 : KField1 Go.Proofs.Tryd.prog 44 0 0 1 := ⟨by show _ = _; kernel_rfl⟩
instance fk395 : KFieldOff Go.Proofs.Tryd.prog 44 1 1 := ⟨by show _ = _; kernel_rfl⟩
instance fk396 : KField1 Go.Proofs.Tryd.prog 44 1 1 1 := ⟨by show _ = _; kernel_rfl⟩
instance fk397 : KFieldOff Go.Proofs.Tryd.prog 44 2 2 := ⟨by show _ = _; kernel_rfl⟩
instance fk398 : KField1 Go.Proofs.Tryd.prog 44 2 2 1 := ⟨by show _ = _; kernel_rfl⟩
instance fk399 : KFieldOff Go.Proofs.Tryd.prog 44 3 3 := ⟨by show _ = _; kernel_rfl⟩
instance fk400 : KField1 Go.Proofs.Tryd.prog 44 3 3 1 := ⟨by show _ = _; kernel_rfl⟩
instance fk401 : KConc Go.Proofs.Tryd.prog 44 := ⟨by show _ = _; kernel_rfl⟩
instance fk402 : KInfo Go.Proofs.Tryd.prog 46 [.nilFunc] 1 8 := ⟨by show _ = _; kernel_rfl⟩
instance fk403 : KSize Go.Proofs.Tryd.prog 46 1 := ⟨by show _ = _; kernel_rfl⟩
instance fk404 : KOne Go.Proofs.Tryd.prog 46 := ⟨by show _ = _; kernel_rfl⟩
instance fk405 : KSome Go.Proofs.Tryd.prog 47 := ⟨by show _ = _; kernel_rfl⟩
instance fk406 : KInfo Go.Proofs.Tryd.prog 47 [.string ⟨⟨[]⟩⟩, .string ⟨⟨[]⟩⟩, .int .i64 0, .int .i64 0] 4 48 := ⟨by show _ = _; kernel_rfl⟩
instance fk407 : KSize Go.Proofs.Tryd.prog 47 4 := ⟨by show _ = _; kernel_rfl⟩
instance fk408 : KAgg Go.Proofs.Tryd.prog 47 4 := ⟨by show _ = _; kernel_rfl⟩
instance fk409 : KStruct Go.Proofs.Tryd.prog 47 [.string ⟨⟨[]⟩⟩, .string ⟨⟨[]⟩⟩, .int .i64 0, .int .i64 0] [(0, 1), (1, 1), (2, 1), (3, 1)] := ⟨by show _ = _; kernel_rfl⟩
instance fk410 : KFieldOff Go.Proofs.Tryd.prog 47 0 0 := ⟨by show _ = _; kernel_rfl⟩
instance fk411 : KField1 Go.Proofs.Tryd.prog 47 0 0 1 := ⟨by show _ = _; kernel_rfl⟩
instance fk412 : KFieldOff Go.Proofs.Tryd.prog 47 1 1 := ⟨by show _ = _; kernel_rfl⟩
instance fk413 : KField1 Go.Proofs.Tryd.prog 47 1 1 1 := ⟨by show _ = _; kernel_rfl⟩
instance fk414 : KFieldOff Go.Proofs.Tryd.prog 47 2 2 := ⟨by show _ = _; kernel_rfl⟩
instance fk415 : KField1 Go.Proofs.Tryd.prog 47 2 2 1 := ⟨by show _ = _; kernel_rfl⟩
instance fk416 : KFieldOff Go.Proofs.Tryd.prog 47 3 3 := ⟨by show _ = _; kernel_rfl⟩
instance fk417 : KField1 Go.Proofs.Tryd.prog 47 3 3 1 := ⟨by show _ = _; kernel_rfl⟩
instance fk418 : KConc Go.Proofs.Tryd.prog 47 := ⟨by show _ = _; kernel_rfl⟩
instance fk419 : KSome Go.Proofs.Tryd.prog 48 := ⟨by show _ = _; kernel_rfl⟩
instance fk420 : KInfo Go.Proofs.Tryd.prog 48 [.string ⟨⟨[]⟩⟩, .int .i64 0, .bool false, .int .i64 0, .int .u32 0, .bool false] 6 56 := ⟨by show _ = _; kernel_rfl⟩
instance fk421 : KSize Go.Proofs.Tryd.prog 48 6 := ⟨by show _ = _; kernel_rfl⟩
instance fk422 : KAgg Go.Proofs.Tryd.prog 48 6 := ⟨by show _ = _; kernel_rfl⟩
instance fk423 : KStruct Go.Proofs.Tryd.prog 48 [.string ⟨⟨[]⟩⟩, .int .i64 0, .bool false, .int .i64 0, .int .u32 0, .bool false] [(0, 1), (1, 4), (5, 1)] := ⟨by show _ = _; kernel_rfl⟩
instance fk424 : KFieldOff Go.Proofs.Tryd.prog 48 0 0 := ⟨by show _ = _; kernel_rfl⟩
instance fk425 : KField1 Go.Proofs.Tryd.prog 48 0 0 1 := ⟨by show _ = _; kernel_rfl⟩
instance fk426 : KFieldOff Go.Proofs.Tryd.prog 48 1 1 := ⟨by show _ = _; kernel_rfl⟩
instance fk427 : KFieldA Go.Proofs.Tryd.prog 48 1 1 4 := ⟨by show _ = _; kernel_rfl⟩
instance fk428 : KFieldOff Go.Proofs.Tryd.prog 48 2 5 := ⟨by show _ = _; kernel_rfl⟩
instance fk429 : KField1 Go.Proofs.Tryd.prog 48 2 5 1 := ⟨by show _ = _; kernel_rfl⟩
instance fk430 : KConc Go.Proofs.Tryd.prog 48 := ⟨by show _ = _; kernel_rfl⟩
instance fk431 : KSome Go.Proofs.Tryd.prog 49 := ⟨by show _ = _; kernel_rfl⟩
instance fk432 : KInfo Go.Proofs.Tryd.prog 49 [.string ⟨⟨[]⟩⟩, .int .i64 0, .bool false, .int .i64 0, .int .u32 0, .bool false] 6 56 := ⟨by show _ = _; kernel_rfl⟩
instance fk433 : KSize Go.Proofs.Tryd.prog 49 6 := ⟨by show _ = _; kernel_rfl⟩
instance fk434 : KAgg Go.Proofs.Tryd.prog 49 6 := ⟨by show _ = _; kernel_rfl⟩
instance fk435 : KStruct Go.Proofs.Tryd.prog 49 [.string ⟨⟨[]⟩⟩, .int .i64 0, .bool false, .int .i64 0, .int .u32 0, .bool false] [(0, 1), (1, 4), (5, 1)] := ⟨by show _ = _; kernel_rfl⟩
instance fk436 : KFieldOff Go.Proofs.Tryd.prog 49 0 0 := ⟨by show _ = _; kernel_rfl⟩
instance fk437 : KField1 Go.Proofs.Tryd.prog 49 0 0 1 := ⟨by show _ = _; kernel_rfl⟩
instance fk438 : KFieldOff Go.Proofs.Tryd.prog 49 1 1 := ⟨by show _ = _; kernel_rfl⟩
instance fk439 : KFieldA Go.Proofs.Tryd.prog 49 1 1 4 := ⟨by show _ = _; kernel_rfl⟩
instance fk440 : KFieldOff Go.Proofs.Tryd.prog 49 2 5 := ⟨by show _ = _; kernel_rfl⟩
instance fk441 : KField1 Go.Proofs.Tryd.prog 49 2 5 1 := ⟨by show _ = _; kernel_rfl⟩
instance fk442 : KConc Go.Proofs.Tryd.prog 49 := ⟨by show _ = _; kernel_rfl⟩
instance fk443 : KInfo Go.Proofs.Tryd.prog 51 [.nilFunc] 1 8 := ⟨by show _ = _; kernel_rfl⟩
instance fk444 : KSize Go.Proofs.Tryd.prog 51 1 := ⟨by show _ = _; kernel_rfl⟩
instance fk445 : KOne Go.Proofs.Tryd.prog 51 := ⟨by show _ = _; kernel_rfl⟩
instance fk446 : KInfo Go.Proofs.Tryd.prog 52 [.nilFunc] 1 8 := ⟨by show _ = _; kernel_rfl⟩
instance fk447 : KSize Go.Proofs.Tryd.prog 52 1 := ⟨by show _ = _; kernel_rfl⟩
instance fk448 : KOne Go.Proofs.Tryd.prog 52 := ⟨by show _ = _; kernel_rfl⟩
instance fk449 : KInfo Go.Proofs.Tryd.prog 53 [.nilFunc] 1 8 := ⟨by show _ = _; kernel_rfl⟩
instance fk450 : KSize Go.Proofs.Tryd.prog 53 1 := ⟨by show _ = _; kernel_rfl⟩
instance fk451 : KOne Go.Proofs.Tryd.prog 53 := ⟨by show _ = _; kernel_rfl⟩
instance fk452 : KInfo Go.Proofs.Tryd.prog 54 [.nilFunc] 1 8 := ⟨by show _ = _; kernel_rfl⟩
instance fk453 : KSize Go.Proofs.Tryd.prog 54 1 := ⟨by show _ = _; kernel_rfl⟩
instance fk454 : KOne Go.Proofs.Tryd.prog 54 := ⟨by show _ = _; kernel_rfl⟩
instance fk455 : KInfo Go.Proofs.Tryd.prog 55 [.nilFunc] 1 8 := ⟨by show _ = _; kernel_rfl⟩
instance fk456 : KSize Go.Proofs.Tryd.prog 55 1 := ⟨by show _ = _; kernel_rfl⟩
instance fk457 : KOne Go.Proofs.Tryd.prog 55 := ⟨by show _ = _; kernel_rfl⟩
instance fk458 : KInfo Go.Proofs.Tryd.prog 56 [.nilFunc] 1 8 := ⟨by show _ = _; kernel_rfl⟩
instance fk459 : KSize Go.Proofs.Tryd.prog 56 1 := ⟨by show _ = _; kernel_rfl⟩
instance fk460 : KOne Go.Proofs.Tryd.prog 56 := ⟨by show _ = _; kernel_rfl⟩
instance fk461 : KInfo Go.Proofs.Tryd.prog 58 [.nilFunc] 1 8 := ⟨by show _ = _; kernel_rfl⟩
instance fk462 : KSize Go.Proofs.Tryd.prog 58 1 := ⟨by show _ = _; kernel_rfl⟩
instance fk463 : KOne Go.Proofs.Tryd.prog 58 := ⟨by show _ = _; kernel_rfl⟩
instance fk464 : KUnd Go.Proofs.Tryd.prog 59 (.map 9 63) := ⟨by show _ = _; kernel_rfl⟩
instance fk465 : KSome Go.Proofs.Tryd.prog 59 := ⟨by show _ = _; kernel_rfl⟩
instance fk466 : KInfo Go.Proofs.Tryd.prog 59 [.map none] 1 8 := ⟨by show _ = _; kernel_rfl⟩
instance fk467 : KSize Go.Proofs.Tryd.prog 59 1 := ⟨by show _ = _; kernel_rfl⟩
instance fk468 : KOne Go.Proofs.Tryd.prog 59 := ⟨by show _ = _; kernel_rfl⟩
instance fk469 : KZero Go.Proofs.Tryd.prog 59 (.map none) := ⟨by show _ = _; kernel_rfl⟩
instance fk470 : KConc Go.Proofs.Tryd.prog 59 := ⟨by show _ = _; kernel_rfl⟩
instance fk471 : KSome Go.Proofs.Tryd.prog 60 := ⟨by show _ = _; kernel_rfl⟩
instance fk472 : KInfo Go.Proofs.Tryd.prog 60 [.map none] 1 8 := ⟨by show _ = _; kernel_rfl⟩
instance fk473 : KSize Go.Proofs.Tryd.prog 60 1 := ⟨by show _ = _; kernel_rfl⟩
instance fk474 : KAgg Go.Proofs.Tryd.prog 60 1 := ⟨by show _ = _; kernel_rfl⟩
instance fk475 : KStruct Go.Proofs.Tryd.prog 60 [.map none] [(0, 1)] := ⟨by show _ = _; kernel_rfl⟩
instance fk476 : KFieldOff Go.Proofs.Tryd.prog 60 0 0 := ⟨by show _ = _; kernel_rfl⟩
instance fk477 : KField1 Go.Proofs.Tryd.prog 60 0 0 1 := ⟨by show _ = _; kernel_rfl⟩
instance fk478 : KConc Go.Proofs.Tryd.prog 60 := ⟨by show _ = _; kernel_rfl⟩
instance fk479 : KSome Go.Proofs.Tryd.prog 61 := ⟨by show _ = _; kernel_rfl⟩
instance fk480 : KInfo Go.Proofs.Tryd.prog 61 [.map none] 1 8 := ⟨by show _ = _; kernel_rfl⟩
instance fk481 : KSize Go.Proofs.Tryd.prog 61 1 := ⟨by show _ = _; kernel_rfl⟩
instance fk482 : KAgg Go.Proofs.Tryd.prog 61 1 := ⟨by show _ = _; kernel_rfl⟩
instance fk483 : KStruct Go.Proofs.Tryd.prog 61 [.map none] [(0, 1)] := ⟨by show _ = _; kernel_rfl⟩
instance fk484 : KFieldOff Go.Proofs.Tryd.prog 61 0 0 := ⟨by show _ = _; kernel_rfl⟩
instance fk485 : KField1 Go.Proofs.Tryd.prog 61 0 0 1 := ⟨by show _ = _; kernel_rfl⟩
instance fk486 : KConc Go.Proofs.Tryd.prog 61 := ⟨by show _ = _; kernel_rfl⟩
instance fk487 : KInfo Go.Proofs.Tryd.prog 62 [.nilFunc] 1 8 := ⟨by show _ = _; kernel_rfl⟩
instance fk488 : KSize Go.Proofs.Tryd.prog 62 1 := ⟨by show _ = _; kernel_rfl⟩
instance fk489 : KOne Go.Proofs.Tryd.prog 62 := ⟨by show _ = _; kernel_rfl⟩
instance fk490 : KUnd Go.Proofs.Tryd.prog 63 (.map 9 77) := ⟨by show _ = _; kernel_rfl⟩
instance fk491 : KSome Go.Proofs.Tryd.prog 63 := ⟨by show _ = _; kernel_rfl⟩
instance fk492 : KInfo Go.Proofs.Tryd.prog 63 [.map none] 1 8 := ⟨by show _ = _; kernel_rfl⟩
instance fk493 : KSize Go.Proofs.Tryd.prog 63 1 := ⟨by show _ = _; kernel_rfl⟩
instance fk494 : KOne Go.Proofs.Tryd.prog 63 := ⟨by show _ = _; kernel_rfl⟩
instance fk495 : KZero Go.Proofs.Tryd.prog 63 (.map none) := ⟨by show _ = _; kernel_rfl⟩
instance fk496 : KConc Go.Proofs.Tryd.prog 63 := ⟨by show _ = _; kernel_rfl⟩
instance fk497 : KInfo Go.Proofs.Tryd.prog 64 [.nilFunc] 1 8 := ⟨by show _ = _; kernel_rfl⟩
instance fk498 : KSize Go.Proofs.Tryd.prog 64 1 := ⟨by show _ = _; kernel_rfl⟩
instance fk499 : KOne Go.Proofs.Tryd.prog 64 := ⟨by show _ = _; kernel_rfl⟩
instance fk500 : KInfo Go.Proofs.Tryd.prog 65 [.nilFunc] 1 8 := ⟨by show _ = _; kernel_rfl⟩
instance fk501 : KSize Go.Proofs.Tryd.prog 65 1 := ⟨by show _ = _; kernel_rfl⟩
instance fk502 : KOne Go.Proofs.Tryd.prog 65 := ⟨by show _ = _; kernel_rfl⟩
instance fk503 : KInfo Go.Proofs.Tryd.prog 66 [.nilFunc] 1 8 := ⟨by show _ = _; kernel_rfl⟩
instance fk504 : KSize Go.Proofs.Tryd.prog 66 1 := ⟨by show _ = _; kernel_rfl⟩
instance fk505 : KOne Go.Proofs.Tryd.prog 66 := ⟨by show _ = _; kernel_rfl⟩
instance fk506 : KInfo Go.Proofs.Tryd.prog 67 [.nilFunc] 1 8 := ⟨by show _ = _; kernel_rfl⟩
instance fk507 : KSize Go.Proofs.Tryd.prog 67 1 := ⟨by show _ = _; kernel_rfl⟩
instance fk508 : KOne Go.Proofs.Tryd.prog 67 := ⟨by show _ = _; kernel_rfl⟩
instance fk509 : KInfo Go.Proofs.Tryd.prog 68 [.nilFunc] 1 8 := ⟨by show _ = _; kernel_rfl⟩
instance fk510 : KSize Go.Proofs.Tryd.prog 68 1 := ⟨by show _ = _; kernel_rfl⟩
instance fk511 : KOne Go.Proofs.Tryd.prog 68 := ⟨by show _ = _; kernel_rfl⟩
instance fk512 : KInfo Go.Proofs.Tryd.prog 69 [.nilFunc] 1 8 := ⟨by show _ = _; kernel_rfl⟩
instance fk513 : KSize Go.Proofs.Tryd.prog 69 1 := ⟨by show _ = _; kernel_rfl⟩
instance fk514 : KOne Go.Proofs.Tryd.prog 69 := ⟨by show _ = _; kernel_rfl⟩
instance fk515 : KInfo Go.Proofs.Tryd.prog 70 [.nilFunc] 1 8 := ⟨by show _ = _; kernel_rfl⟩
instance fk516 : KSize Go.Proofs.Tryd.prog 70 1 := ⟨by show _ = _; kernel_rfl⟩
instance fk517 : KOne Go.Proofs.Tryd.prog 70 := ⟨by show _ = _; kernel_rfl⟩
instance fk518 : KUnd Go.Proofs.Tryd.prog 71 (.slice 3) := ⟨by show _ = _; kernel_rfl⟩
instance fk519 : KSome Go.Proofs.Tryd.prog 71 := ⟨by show _ = _; kernel_rfl⟩
instance fk520 : KInfo Go.Proofs.Tryd.prog 71 [.slice none 0 0] 1 24 := ⟨by show _ = _; kernel_rfl⟩
instance fk521 : KSize Go.Proofs.Tryd.prog 71 1 := ⟨by show _ = _; kernel_rfl⟩
instance fk522 : KOne Go.Proofs.Tryd.prog 71 := ⟨by show _ = _; kernel_rfl⟩
instance fk523 : KZero Go.Proofs.Tryd.prog 71 (.slice none 0 0) := ⟨by show _ = _; kernel_rfl⟩
instance fk524 : KSlice Go.Proofs.Tryd.prog 71 3 1 := ⟨⟨by kernel_rfl, by kernel_rfl⟩⟩
instance fk525 : KConc Go.Proofs.Tryd.prog 71 := ⟨by show _ = _; kernel_rfl⟩
instance fk526 : KUnd Go.Proofs.Tryd.prog 72 (.int .u64) := ⟨by show _ = _; kernel_rfl⟩
instance fk527 : KSome Go.Proofs.Tryd.prog 72 := ⟨by show _ = _; kernel_rfl⟩
instance fk528 : KInfo Go.Proofs.Tryd.prog 72 [.int .u64 0] 1 8 := ⟨by show _ = _; kernel_rfl⟩
instance fk529 : KSize Go.Proofs.Tryd.prog 72 1 := ⟨by show _ = _; kernel_rfl⟩
instance fk530 : KOne Go.Proofs.Tryd.prog 72 := ⟨by show _ = _; kernel_rfl⟩
instance fk531 : KZero Go.Proofs.Tryd.prog 72 (.int .u64 0) := ⟨by show _ = _; kernel_rfl⟩
instance fk532 : KConc Go.Proofs.Tryd.prog 72 := ⟨by show _ = _; kernel_rfl⟩
instance fk533 : KSome Go.Proofs.Tryd.prog 73 := ⟨by show _ = _; kernel_rfl⟩
instance fk534 : KInfo Go.Proofs.Tryd.prog 73 [.int .i64 0, .bool false, .int .i64 0, .int .u32 0, .slice none 0 0] 5 56 := ⟨by show _ = _; kernel_rfl⟩
instance fk535 : KSize Go.Proofs.Tryd.prog 73 5 := ⟨by show _ = _; kernel_rfl⟩
instance fk536 : KAgg Go.Proofs.Tryd.prog 73 5 := ⟨by show _ = _; kernel_rfl⟩
instance fk537 : KStruct Go.Proofs.Tryd.prog 73 [.int .i64 0, .bool false, .int .i64 0, .int .u32 0, .slice none 0 0] [(0, 4), (4, 1)] := ⟨by show _ = _; kernel_rfl⟩
instance fk538 : KFieldOff Go.Proofs.Tryd.prog 73 0 0 := ⟨by show _ = _; kernel_rfl⟩
instance fk539 : KFieldA Go.Proofs.Tryd.prog 73 0 0 4 := ⟨by show _ = _; kernel_rfl⟩
instance fk540 : KFieldOff Go.Proofs.Tryd.prog 73 1 4 := ⟨by show _ = _; kernel_rfl⟩
instance fk541 : KField1 Go.Proofs.Tryd.prog 73 1 4 1 := ⟨by show _ = _; kernel_rfl⟩
instance fk542 : KConc Go.Proofs.Tryd.prog 73 := ⟨by show _ = _; kernel_rfl⟩
instance fk543 : KSome Go.Proofs.Tryd.prog 74 := ⟨by show _ = _; kernel_rfl⟩
instance fk544 : KInfo Go.Proofs.Tryd.prog 74 [.int .i64 0, .bool false, .int .i64 0, .int .u32 0, .slice none 0 0] 5 56 := ⟨by show _ = _; kernel_rfl⟩
instance fk545 : KSize Go.Proofs.Tryd.prog 74 5 := ⟨by show _ = _; kernel_rfl⟩
instance fk546 : KAgg Go.Proofs.Tryd.prog 74 5 := ⟨by show _ = _; kernel_rfl⟩
instance fk547 : KStruct Go.Proofs.Tryd.prog 74 [.int .i64 0, .bool false, .int .i64 0, .int .u32 0, .slice none 0 0] [(0, 4), (4, 1)] := ⟨by show _ = _; kernel_rfl⟩
instance fk548 : KFieldOff Go.Proofs.Tryd.prog 74 0 0 := ⟨by show _ = _; kernel_rfl⟩
instance fk549 : KFieldA Go.Proofs.Tryd.prog 74 0 0 4 := ⟨by show _ = _; kernel_rfl⟩
instance fk550 : KFieldOff Go.Proofs.Tryd.prog 74 1 4 := ⟨by show _ = _; kernel_rfl⟩
instance fk551 : KField1 Go.Proofs.Tryd.prog 74 1 4 1 := ⟨by show _ = _; kernel_rfl⟩
instance fk552 : KConc Go.Proofs.Tryd.prog 74 := ⟨by show _ = _; kernel_rfl⟩
instance fk553 : KInfo Go.Proofs.Tryd.prog 75 [.nilFunc] 1 8 := ⟨by show _ = _; kernel_rfl⟩
instance fk554 : KSize Go.Proofs.Tryd.prog 75 1 := ⟨by show _ = _; kernel_rfl⟩
instance fk555 : KOne Go.Proofs.Tryd.prog 75 := ⟨by show _ = _; kernel_rfl⟩
instance fk556 : KInfo Go.Proofs.Tryd.prog 76 [.nilFunc] 1 8 := ⟨by show _ = _; kernel_rfl⟩
instance fk557 : KSize Go.Proofs.Tryd.prog 76 1 := ⟨by show _ = _; kernel_rfl⟩
instance fk558 : KOne Go.Proofs.Tryd.prog 76 := ⟨by show _ = _; kernel_rfl⟩
instance fk559 : KUnd Go.Proofs.Tryd.prog 77 (.slice 74) := ⟨by show _ = _; kernel_rfl⟩
instance fk560 : KSome Go.Proofs.Tryd.prog 77 := ⟨by show _ = _; kernel_rfl⟩
instance fk561 : KInfo Go.Proofs.Tryd.prog 77 [.slice none 0 0] 1 24 := ⟨by show _ = _; kernel_rfl⟩
instance fk562 : KSize Go.Proofs.Tryd.prog 77 1 := ⟨by show _ = _; kernel_rfl⟩
instance fk563 : KOne Go.Proofs.Tryd.prog 77 := ⟨by show _ = _; kernel_rfl⟩
instance fk564 : KZero Go.Proofs.Tryd.prog 77 (.slice none 0 0) := ⟨by show _ = _; kernel_rfl⟩
instance fk565 : KSlice Go.Proofs.Tryd.prog 77 74 5 := ⟨⟨by kernel_rfl, by kernel_rfl⟩⟩
instance fk566 : KConc Go.Proofs.Tryd.prog 77 := ⟨by show _ = _; kernel_rfl⟩
instance fk567 : KInfo Go.Proofs.Tryd.prog 78 [.nilFunc] 1 8 := ⟨by show _ = _; kernel_rfl⟩
instance fk568 : KSize Go.Proofs.Tryd.prog 78 1 := ⟨by show _ = _; kernel_rfl⟩
instance fk569 : KOne Go.Proofs.Tryd.prog 78 := ⟨by show _ = _; kernel_rfl⟩
instance fk570 : KInfo Go.Proofs.Tryd.prog 79 [.nilFunc] 1 8 := ⟨by show _ = _; kernel_rfl⟩
instance fk571 : KSize Go.Proofs.Tryd.prog 79 1 := ⟨by show _ = _; kernel_rfl⟩
instance fk572 : KOne Go.Proofs.Tryd.prog 79 := ⟨by show _ = _; kernel_rfl⟩
instance fk573 : KInfo Go.Proofs.Tryd.prog 80 [.nilFunc] 1 8 := ⟨by show _ = _; kernel_rfl⟩
instance fk574 : KSize Go.Proofs.Tryd.prog 80 1 := ⟨by show _ = _; kernel_rfl⟩
instance fk575 : KOne Go.Proofs.Tryd.prog 80 := ⟨by show _ = _; kernel_rfl⟩
instance fk576 : KInfo Go.Proofs.Tryd.prog 81 [.nilFunc] 1 8 := ⟨by show _ = _; kernel_rfl⟩
instance fk577 : KSize Go.Proofs.Tryd.prog 81 1 := ⟨by show _ = _; kernel_rfl⟩
instance fk578 : KOne Go.Proofs.Tryd.prog 81 := ⟨by show _ = _; kernel_rfl⟩
instance fk579 : KInfo Go.Proofs.Tryd.prog 82 [.nilFunc] 1 8 := ⟨by show _ = _; kernel_rfl⟩
instance fk580 : KSize Go.Proofs.Tryd.prog 82 1 := ⟨by show _ = _; kernel_rfl⟩
instance fk581 : KOne Go.Proofs.Tryd.prog 82 := ⟨by show _ = _; kernel_rfl⟩
instance fk582 : KInfo Go.Proofs.Tryd.prog 83 [.nilFunc] 1 8 := ⟨by show _ = _; kernel_rfl⟩
instance fk583 : KSize Go.Proofs.Tryd.prog 83 1 := ⟨by show _ = _; kernel_rfl⟩
instance fk584 : KOne Go.Proofs.Tryd.prog 83 := ⟨by show _ = _; kernel_rfl⟩
instance fk585 : KInfo Go.Proofs.Tryd.prog 84 [.nilFunc] 1 8 := ⟨by show _ = _; kernel_rfl⟩
instance fk586 : KSize Go.Proofs.Tryd.prog 84 1 := ⟨by show _ = _; kernel_rfl⟩
instance fk587 : KOne Go.Proofs.Tryd.prog 84 := ⟨by show _ = _; kernel_rfl⟩
instance fk588 : KInfo Go.Proofs.Tryd.prog 85 [.nilFunc] 1 8 := ⟨by show _ = _; kernel_rfl⟩
instance fk589 : KSize Go.Proofs.Tryd.prog 85 1 := ⟨by show _ = _; kernel_rfl⟩
instance fk590 : KOne Go.Proofs.Tryd.prog 85 := ⟨by show _ = _; kernel_rfl⟩
instance fk591 : KInfo Go.Proofs.Tryd.prog 86 [.nilFunc] 1 8 := ⟨by show _ = _; kernel_rfl⟩
instance fk592 : KSize Go.Proofs.Tryd.prog 86 1 := ⟨by show _ = _; kernel_rfl⟩
instance fk593 : KOne Go.Proofs.Tryd.prog 86 := ⟨by show _ = _; kernel_rfl⟩
instance fk594 : KInfo Go.Proofs.Tryd.prog 87 [.nilFunc] 1 8 := ⟨by show _ = _; kernel_rfl⟩
instance fk595 : KSize Go.Proofs.Tryd.prog 87 1 := ⟨by show _ = _; kernel_rfl⟩
instance fk596 : KOne Go.Proofs.Tryd.prog 87 := ⟨by show _ = _; kernel_rfl⟩
instance fk597 : KInfo Go.Proofs.Tryd.prog 88 [.nilFunc] 1 8 := ⟨by show _ = _; kernel_rfl⟩
instance fk598 : KSize Go.Proofs.Tryd.prog 88 1 := ⟨by show _ = _; kernel_rfl⟩
instance fk599 : KOne Go.Proofs.Tryd.prog 88 := ⟨by show _ = _; kernel_rfl⟩
instance fk600 : KInfo Go.Proofs.Tryd.prog 90 [.nilFunc] 1 8 := ⟨by show _ = _; kernel_rfl⟩
instance fk601 : KSize Go.Proofs.Tryd.prog 90 1 := ⟨by show _ = _; kernel_rfl⟩
instance fk602 : KOne Go.Proofs.Tryd.prog 90 := ⟨by show _ = _; kernel_rfl⟩
instance fk603 : KInfo Go.Proofs.Tryd.prog 91 [.nilFunc] 1 8 := ⟨by show _ = _; kernel_rfl⟩
instance fk604 : KSize Go.Proofs.Tryd.prog 91 1 := ⟨by show _ = _; kernel_rfl⟩
instance fk605 : KOne Go.Proofs.Tryd.prog 91 := ⟨by show _ = _; kernel_rfl⟩
instance fk606 : KInfo Go.Proofs.Tryd.prog 93 [.nilFunc] 1 8 := ⟨by show _ = _; kernel_rfl⟩
instance fk607 : KSize Go.Proofs.Tryd.prog 93 1 := ⟨by show _ = _; kernel_rfl⟩
instance fk608 : KOne Go.Proofs.Tryd.prog 93 := ⟨by show _ = _; kernel_rfl⟩
instance fk609 : KInfo Go.Proofs.Tryd.prog 94 [.nilFunc] 1 8 := ⟨by show _ = _; kernel_rfl⟩
instance fk610 : KSize Go.Proofs.Tryd.prog 94 1 := ⟨by show _ = _; kernel_rfl⟩
instance fk611 : KOne Go.Proofs.Tryd.prog 94 := ⟨by show _ = _; kernel_rfl⟩
instance fk612 : KInfo Go.Proofs.Tryd.prog 95 [.nilFunc] 1 8 := ⟨by show _ = _; kernel_rfl⟩
instance fk613 : KSize Go.Proofs.Tryd.prog 95 1 := ⟨by show _ = _; kernel_rfl⟩
instance fk614 : KOne Go.Proofs.Tryd.prog 95 := ⟨by show _ = _; kernel_rfl⟩
instance fk615 : KInfo Go.Proofs.Tryd.prog 96 [.nilFunc] 1 8 := ⟨by show _ = _; kernel_rfl⟩
instance fk616 : KSize Go.Proofs.Tryd.prog 96 1 := ⟨by show _ = _; kernel_rfl⟩
instance fk617 : KOne Go.Proofs.Tryd.prog 96 := ⟨by show _ = _; kernel_rfl⟩
instance fk618 : KInfo Go.Proofs.Tryd.prog 97 [.nilFunc] 1 8 := ⟨by show _ = _; kernel_rfl⟩
instance fk619 : KSize Go.Proofs.Tryd.prog 97 1 := ⟨by show _ = _; kernel_rfl⟩
instance fk620 : KOne Go.Proofs.Tryd.prog 97 := ⟨by show _ = _; kernel_rfl⟩
instance fk621 : KInfo Go.Proofs.Tryd.prog 98 [.nilFunc] 1 8 := ⟨by show _ = _; kernel_rfl⟩
instance fk622 : KSize Go.Proofs.Tryd.prog 98 1 := ⟨by show _ = _; kernel_rfl⟩
instance fk623 : KOne Go.Proofs.Tryd.prog 98 := ⟨by show _ = _; kernel_rfl⟩
instance fk624 : KInfo Go.Proofs.Tryd.prog 99 [.nilFunc] 1 8 := ⟨by show _ = _; kernel_rfl⟩
instance fk625 : KSize Go.Proofs.Tryd.prog 99 1 := ⟨by show _ = _; kernel_rfl⟩
instance fk626 : KOne Go.Proofs.Tryd.prog 99 := ⟨by show _ = _; kernel_rfl⟩
instance fk627 : KInfo Go.Proofs.Tryd.prog 100 [.nilFunc] 1 8 := ⟨by show _ = _; kernel_rfl⟩
instance fk628 : KSize Go.Proofs.Tryd.prog 100 1 := ⟨by show _ = _; kernel_rfl⟩
instance fk629 : KOne Go.Proofs.Tryd.prog 100 := ⟨by show _ = _; kernel_rfl⟩
instance fk630 : KInfo Go.Proofs.Tryd.prog 102 [.nilFunc] 1 8 := ⟨by show _ = _; kernel_rfl⟩
instance fk631 : KSize Go.Proofs.Tryd.prog 102 1 := ⟨by show _ = _; kernel_rfl⟩
instance fk632 : KOne Go.Proofs.Tryd.prog 102 := ⟨by show _ = _; kernel_rfl⟩
instance fk633 : KInfo Go.Proofs.Tryd.prog 103 [.nilFunc] 1 8 := ⟨by show _ = _; kernel_rfl⟩
instance fk634 : KSize Go.Proofs.Tryd.prog 103 1 := ⟨by show _ = _; kernel_rfl⟩
instance fk635 : KOne Go.Proofs.Tryd.prog 103 := ⟨by show _ = _; kernel_rfl⟩
instance fk636 : KInfo Go.Proofs.Tryd.prog 104 [.nilFunc] 1 8 := ⟨by show _ = _; kernel_rfl⟩
instance fk637 : KSize Go.Proofs.Tryd.prog 104 1 := ⟨by show _ = _; kernel_rfl⟩
instance fk638 : KOne Go.Proofs.Tryd.prog 104 := ⟨by show _ = _; kernel_rfl⟩
instance fk639 : KInfo Go.Proofs.Tryd.prog 106 [.nilFunc] 1 8 := ⟨by show _ = _; kernel_rfl⟩
instance fk640 : KSize Go.Proofs.Tryd.prog 106 1 := ⟨by show _ = _; kernel_rfl⟩
instance fk641 : KOne Go.Proofs.Tryd.prog 106 := ⟨by show _ = _; kernel_rfl⟩
instance fk642 : KInfo Go.Proofs.Tryd.prog 107 [.nilFunc] 1 8 := ⟨by show _ = _; kernel_rfl⟩
instance fk643 : KSize Go.Proofs.Tryd.prog 107 1 := ⟨by show _ = _; kernel_rfl⟩
instance fk644 : KOne Go.Proofs.Tryd.prog 107 := ⟨by show _ = _; kernel_rfl⟩
instance fk645 : KInfo Go.Proofs.Tryd.prog 108 [.nilFunc] 1 8 := ⟨by show _ = _; kernel_rfl⟩
instance fk646 : KSize Go.Proofs.Tryd.prog 108 1 := ⟨by show _ = _; kernel_rfl⟩
instance fk647 : KOne Go.Proofs.Tryd.prog 108 := ⟨by show _ = _; kernel_rfl⟩
instance fk648 : KInfo Go.Proofs.Tryd.prog 109 [.nilFunc] 1 8 := ⟨by show _ = _; kernel_rfl⟩
instance fk649 : KSize Go.Proofs.Tryd.prog 109 1 := ⟨by show _ = _; kernel_rfl⟩
instance fk650 : KOne Go.Proofs.Tryd.prog 109 := ⟨by show _ = _; kernel_rfl⟩
instance fk651 : KInfo Go.Proofs.Tryd.prog 110 [.nilFunc] 1 8 := ⟨by show _ = _; kernel_rfl⟩
instance fk652 : KSize Go.Proofs.Tryd.prog 110 1 := ⟨by show _ = _; kernel_rfl⟩
instance fk653 : KOne Go.Proofs.Tryd.prog 110 := ⟨by show _ = _; kernel_rfl⟩
instance fk654 : KInfo Go.Proofs.Tryd.prog 111 [.nilFunc] 1 8 := ⟨by show _ = _; kernel_rfl⟩
instance fk655 : KSize Go.Proofs.Tryd.prog 111 1 := ⟨by show _ = _; kernel_rfl⟩
instance fk656 : KOne Go.Proofs.Tryd.prog 111 := ⟨by show _ = _; kernel_rfl⟩
instance fk657 : KInfo Go.Proofs.Tryd.prog 112 [.nilFunc] 1 8 := ⟨by show _ = _; kernel_rfl⟩
instance fk658 : KSize Go.Proofs.Tryd.prog 112 1 := ⟨by show _ = _; kernel_rfl⟩
instance fk659 : KOne Go.Proofs.Tryd.prog 112 := ⟨by show _ = _; kernel_rfl⟩
instance fk660 : KInfo Go.Proofs.Tryd.prog 113 [.nilFunc] 1 8 := ⟨by show _ = _; kernel_rfl⟩
instance fk661 : KSize Go.Proofs.Tryd.prog 113 1 := ⟨by show _ = _; kernel_rfl⟩
instance fk662 : KOne Go.Proofs.Tryd.prog 113 := ⟨by show _ = _; kernel_rfl⟩
instance fk663 : KInfo Go.Proofs.Tryd.prog 114 [.nilFunc] 1 8 := ⟨by show _ = _; kernel_rfl⟩
instance fk664 : KSize Go.Proofs.Tryd.prog 114 1 := ⟨by show _ = _; kernel_rfl⟩
instance fk665 : KOne Go.Proofs.Tryd.prog 114 := ⟨by show _ = _; kernel_rfl⟩
instance fk666 : KInfo Go.Proofs.Tryd.prog 115 [.nilFunc] 1 8 := ⟨by show _ = _; kernel_rfl⟩
instance fk667 : KSize Go.Proofs.Tryd.prog 115 1 := ⟨by show _ = _; kernel_rfl⟩
instance fk668 : KOne Go.Proofs.Tryd.prog 115 := ⟨by show _ = _; kernel_rfl⟩
instance fk669 : KInfo Go.Proofs.Tryd.prog 116 [.nilFunc] 1 8 := ⟨by show _ = _; kernel_rfl⟩
instance fk670 : KSize Go.Proofs.Tryd.prog 116 1 := ⟨by show _ = _; kernel_rfl⟩
instance fk671 : KOne Go.Proofs.Tryd.prog 116 := ⟨by show _ = _; kernel_rfl⟩
instance fk672 : KInfo Go.Proofs.Tryd.prog 117 [.nilFunc] 1 8 := ⟨by show _ = _; kernel_rfl⟩
instance fk673 : KSize Go.Proofs.Tryd.prog 117 1 := ⟨by show _ = _; kernel_rfl⟩
instance fk674 : KOne Go.Proofs.Tryd.prog 117 := ⟨by show _ = _; kernel_rfl⟩
instance fk675 : KInfo Go.Proofs.Tryd.prog 118 [.nilFunc] 1 8 := ⟨by show _ = _; kernel_rfl⟩
instance fk676 : KSize Go.Proofs.Tryd.prog 118 1 := ⟨by show _ = _; kernel_rfl⟩
instance fk677 : KOne Go.Proofs.Tryd.prog 118 := ⟨by show _ = _; kernel_rfl⟩
instance fk678 : KInfo Go.Proofs.Tryd.prog 119 [.nilFunc] 1 8 := ⟨by show _ = _; kernel_rfl⟩
instance fk679 : KSize Go.Proofs.Tryd.prog 119 1 := ⟨by show _ = _; kernel_rfl⟩
instance fk680 : KOne Go.Proofs.Tryd.prog 119 := ⟨by show _ = _; kernel_rfl⟩
instance fk681 : KInfo Go.Proofs.Tryd.prog 120 [.nilFunc] 1 8 := ⟨by show _ = _; kernel_rfl⟩
instance fk682 : KSize Go.Proofs.Tryd.prog 120 1 := ⟨by show _ = _; kernel_rfl⟩
instance fk683 : KOne Go.Proofs.Tryd.prog 120 := ⟨by show _ = _; kernel_rfl⟩
instance fk684 : KSome Go.Proofs.Tryd.prog 122 := ⟨by show _ = _; kernel_rfl⟩
instance fk685 : KInfo Go.Proofs.Tryd.prog 122 [.int .u8 0, .int .u8 0] 2 2 := ⟨by show _ = _; kernel_rfl⟩
instance fk686 : KSize Go.Proofs.Tryd.prog 122 2 := ⟨by show _ = _; kernel_rfl⟩
instance fk687 : KAgg Go.Proofs.Tryd.prog 122 2 := ⟨by show _ = _; kernel_rfl⟩
instance fk688 : KStruct Go.Proofs.Tryd.prog 122 [.int .u8 0, .int .u8 0] [(0, 1), (1, 1)] := ⟨by show _ = _; kernel_rfl⟩
instance fk689 : KFieldOff Go.Proofs.Tryd.prog 122 0 0 := ⟨by show _ = _; kernel_rfl⟩
instance fk690 : KField1 Go.Proofs.Tryd.prog 122 0 0 1 := ⟨by show _ = _; kernel_rfl⟩
instance fk691 : KFieldOff Go.Proofs.Tryd.prog 122 1 1 := ⟨by show _ = _; kernel_rfl⟩
instance fk692 : KField1 Go.Proofs.Tryd.prog 122 1 1 1 := ⟨by show _ = _; kernel_rfl⟩
instance fk693 : KConc Go.Proofs.Tryd.prog 122 := ⟨by show _ = _; kernel_rfl⟩
instance fk694 : KSome Go.Proofs.Tryd.prog 123 := ⟨by show _ = _; kernel_rfl⟩
instance fk695 : KInfo Go.Proofs.Tryd.prog 123 [.int .u8 0, .int .u8 0] 2 2 := ⟨by show _ = _; kernel_rfl⟩
instance fk696 : KSize Go.Proofs.Tryd.prog 123 2 := ⟨by show _ = _; kernel_rfl⟩
instance fk697 : KAgg Go.Proofs.Tryd.prog 123 2 := ⟨by show _ = _; kernel_rfl⟩
instance fk698 : KStruct Go.Proofs.Tryd.prog 123 [.int .u8 0, .int .u8 0] [(0, 1), (1, 1)] := ⟨by show _ = _; kernel_rfl⟩
instance fk699 : KFieldOff Go.Proofs.Tryd.prog 123 0 0 := ⟨by show _ = _; kernel_rfl⟩
instance fk700 : KField1 Go.Proofs.Tryd.prog 123 0 0 1 := ⟨by show _ = _; kernel_rfl⟩
instance fk701 : KFieldOff Go.Proofs.Tryd.prog 123 1 1 := ⟨by show _ = _; kernel_rfl⟩
instance fk702 : KField1 Go.Proofs.Tryd.prog 123 1 1 1 := ⟨by show _ = _; kernel_rfl⟩
instance fk703 : KConc Go.Proofs.Tryd.prog 123 := ⟨by show _ = _; kernel_rfl⟩
instance fk704 : KInfo Go.Proofs.Tryd.prog 125 [.nilFunc] 1 8 := ⟨by show _ = _; kernel_rfl⟩
instance fk705 : KSize Go.Proofs.Tryd.prog 125 1 := ⟨by show _ = _; kernel_rfl⟩
instance fk706 : KOne Go.Proofs.Tryd.prog 125 := ⟨by show _ = _; kernel_rfl⟩
instance fk707 : KUnd Go.Proofs.Tryd.prog 126 (.int .i64) := ⟨by show _ = _; kernel_rfl⟩
instance fk708 : KSome Go.Proofs.Tryd.prog 126 := ⟨by show _ = _; kernel_rfl⟩
instance fk709 : KInfo Go.Proofs.Tryd.prog 126 [.int .i64 0] 1 8 := ⟨by show _ = _; kernel_rfl⟩
instance fk710 : KSize Go.Proofs.Tryd.prog 126 1 := ⟨by show _ = _; kernel_rfl⟩
instance fk711 : KOne Go.Proofs.Tryd.prog 126 := ⟨by show _ = _; kernel_rfl⟩
instance fk712 : KZero Go.Proofs.Tryd.prog 126 (.int .i64 0) := ⟨by show _ = _; kernel_rfl⟩
instance fk713 : KConc Go.Proofs.Tryd.prog 126 := ⟨by show _ = _; kernel_rfl⟩
instance fk714 : KInfo Go.Proofs.Tryd.prog 128 [.nilFunc] 1 8 := ⟨by show _ = _; kernel_rfl⟩
instance fk715 : KSize Go.Proofs.Tryd.prog 128 1 := ⟨by show _ = _; kernel_rfl⟩
instance fk716 : KOne Go.Proofs.Tryd.prog 128 := ⟨by show _ = _; kernel_rfl⟩
instance fk717 : KInfo Go.Proofs.Tryd.prog 129 [.nilFunc] 1 8 := ⟨by show _ = _; kernel_rfl⟩
instance fk718 : KSize Go.Proofs.Tryd.prog 129 1 := ⟨by show _ = _; kernel_rfl⟩
instance fk719 : KOne Go.Proofs.Tryd.prog 129 := ⟨by show _ = _; kernel_rfl⟩
instance fk720 : KInfo Go.Proofs.Tryd.prog 130 [.nilFunc] 1 8 := ⟨by show _ = _; kernel_rfl⟩
instance fk721 : KSize Go.Proofs.Tryd.prog 130 1 := ⟨by show _ = _; kernel_rfl⟩
instance fk722 : KOne Go.Proofs.Tryd.prog 130 := ⟨by show _ = _; kernel_rfl⟩
instance fk723 : KInfo Go.Proofs.Tryd.prog 132 [.nilFunc] 1 8 := ⟨by show _ = _; kernel_rfl⟩
instance fk724 : KSize Go.Proofs.Tryd.prog 132 1 := ⟨by show _ = _; kernel_rfl⟩
instance fk725 : KOne Go.Proofs.Tryd.prog 132 := ⟨by show _ = _; kernel_rfl⟩
instance fk726 : KInfo Go.Proofs.Tryd.prog 133 [.nilFunc] 1 8 := ⟨by show _ = _; kernel_rfl⟩
instance fk727 : KSize Go.Proofs.Tryd.prog 133 1 := ⟨by show _ = _; kernel_rfl⟩
instance fk728 : KOne Go.Proofs.Tryd.prog 133 := ⟨by show _ = _; kernel_rfl⟩
instance fk729 : KInfo Go.Proofs.Tryd.prog 134 [.nilFunc] 1 8 := ⟨by show _ = _; kernel_rfl⟩
instance fk730 : KSize Go.Proofs.Tryd.prog 134 1 := ⟨by show _ = _; kernel_rfl⟩
instance fk731 : KOne Go.Proofs.Tryd.prog 134 := ⟨by show _ = _; kernel_rfl⟩
instance fk732 : KUnd Go.Proofs.Tryd.prog 135 (.int .u64) := ⟨by show _ = _; kernel_rfl⟩
instance fk733 : KSome Go.Proofs.Tryd.prog 135 := ⟨by show _ = _; kernel_rfl⟩
instance fk734 : KInfo Go.Proofs.Tryd.prog 135 [.int .u64 0] 1 8 := ⟨by show _ = _; kernel_rfl⟩
instance fk735 : KSize Go.Proofs.Tryd.prog 135 1 := ⟨by show _ = _; kernel_rfl⟩
instance fk736 : KOne Go.Proofs.Tryd.prog 135 := ⟨by show _ = _; kernel_rfl⟩
instance fk737 : KZero Go.Proofs.Tryd.prog 135 (.int .u64 0) := ⟨by show _ = _; kernel_rfl⟩
instance fk738 : KConc Go.Proofs.Tryd.prog 135 := ⟨by show _ = _; kernel_rfl⟩
instance fk739 : KInfo Go.Proofs.Tryd.prog 136 [.nilFunc] 1 8 := ⟨by show _ = _; kernel_rfl⟩
instance fk740 : KSize Go.Proofs.Tryd.prog 136 1 := ⟨by show _ = _; kernel_rfl⟩
instance fk741 : KOne Go.Proofs.Tryd.prog 136 := ⟨by show _ = _; kernel_rfl⟩
instance fk742 : KInfo Go.Proofs.Tryd.prog 137 [.nilFunc] 1 8 := ⟨by show _ = _; kernel_rfl⟩
instance fk743 : KSize Go.Proofs.Tryd.prog 137 1 := ⟨by show _ = _; kernel_rfl⟩
instance fk744 : KOne Go.Proofs.Tryd.prog 137 := ⟨by show _ = _; kernel_rfl⟩
instance fk745 : KUnd Go.Proofs.Tryd.prog 138 (.int .u64) := ⟨by show _ = _; kernel_rfl⟩
instance fk746 : KSome Go.Proofs.Tryd.prog 138 := ⟨by show _ = _; kernel_rfl⟩
instance fk747 : KInfo Go.Proofs.Tryd.prog 138 [.int .u64 0] 1 8 := ⟨by show _ = _; kernel_rfl⟩
instance fk748 : KSize Go.Proofs.Tryd.prog 138 1 := ⟨by show _ = _; kernel_rfl⟩
instance fk749 : KOne Go.Proofs.Tryd.prog 138 := ⟨by show _ = _; kernel_rfl⟩
instance fk750 : KZero Go.Proofs.Tryd.prog 138 (.int .u64 0) := ⟨by show _ = _; kernel_rfl⟩
instance fk751 : KConc Go.Proofs.Tryd.prog 138 := ⟨by show _ = _; kernel_rfl⟩
instance fk752 : KInfo Go.Proofs.Tryd.prog 139 [.nilFunc] 1 8 := ⟨by show _ = _; kernel_rfl⟩
instance fk753 : KSize Go.Proofs.Tryd.prog 139 1 := ⟨by show _ = _; kernel_rfl⟩
instance fk754 : KOne Go.Proofs.Tryd.prog 139 := ⟨by show _ = _; kernel_rfl⟩
instance fk755 : KInfo Go.Proofs.Tryd.prog 140 [.nilFunc] 1 8 := ⟨by show _ = _; kernel_rfl⟩
instance fk756 : KSize Go.Proofs.Tryd.prog 140 1 := ⟨by show _ = _; kernel_rfl⟩
instance fk757 : KOne Go.Proofs.Tryd.prog 140 := ⟨by show _ = _; kernel_rfl⟩
instance fk758 : KInfo Go.Proofs.Tryd.prog 141 [.nilFunc] 1 8 := ⟨by show _ = _; kernel_rfl⟩
instance fk759 : KSize Go.Proofs.Tryd.prog 141 1 := ⟨by show _ = _; kernel_rfl⟩
instance fk760 : KOne Go.Proofs.Tryd.prog 141 := ⟨by show _ = _; kernel_rfl⟩
instance fk761 : KUnd Go.Proofs.Tryd.prog 142 (.pointer 3) := ⟨by show _ = _; kernel_rfl⟩
instance fk762 : KSome Go.Proofs.Tryd.prog 142 := ⟨by show _ = _; kernel_rfl⟩
instance fk763 : KInfo Go.Proofs.Tryd.prog 142 [.pointer none] 1 8 := ⟨by show _ = _; kernel_rfl⟩
instance fk764 : KSize Go.Proofs.Tryd.prog 142 1 := ⟨by show _ = _; kernel_rfl⟩
instance fk765 : KOne Go.Proofs.Tryd.prog 142 := ⟨by show _ = _; kernel_rfl⟩
instance fk766 : KZero Go.Proofs.Tryd.prog 142 (.pointer none) := ⟨by show _ = _; kernel_rfl⟩
instance fk767 : KConc Go.Proofs.Tryd.prog 142 := ⟨by show _ = _; kernel_rfl⟩
instance fk768 : KInfo Go.Proofs.Tryd.prog 143 [.nilFunc] 1 8 := ⟨by show _ = _; kernel_rfl⟩
instance fk769 : KSize Go.Proofs.Tryd.prog 143 1 := ⟨by show _ = _; kernel_rfl⟩
instance fk770 : KOne Go.Proofs.Tryd.prog 143 := ⟨by show _ = _; kernel_rfl⟩
instance fk771 : KInfo Go.Proofs.Tryd.prog 144 [.nilFunc] 1 8 := ⟨by show _ = _; kernel_rfl⟩
instance fk772 : KSize Go.Proofs.Tryd.prog 144 1 := ⟨by show _ = _; kernel_rfl⟩
instance fk773 : KOne Go.Proofs.Tryd.prog 144 := ⟨by show _ = _; kernel_rfl⟩
instance fk774 : KInfo Go.Proofs.Tryd.prog 145 [.nilFunc] 1 8 := ⟨by show _ = _; kernel_rfl⟩
instance fk775 : KSize Go.Proofs.Tryd.prog 145 1 := ⟨by show _ = _; kernel_rfl⟩
instance fk776 : KOne Go.Proofs.Tryd.prog 145 := ⟨by show _ = _; kernel_rfl⟩
instance fk777 : KUnd Go.Proofs.Tryd.prog 146 (.pointer 138) := ⟨by show _ = _; kernel_rfl⟩
instance fk778 : KSome Go.Proofs.Tryd.prog 146 := ⟨by show _ = _; kernel_rfl⟩
instance fk779 : KInfo Go.Proofs.Tryd.prog 146 [.pointer none] 1 8 := ⟨by show _ = _; kernel_rfl⟩
instance fk780 : KSize Go.Proofs.Tryd.prog 146 1 := ⟨by show _ = _; kernel_rfl⟩
instance fk781 : KOne Go.Proofs.Tryd.prog 146 := ⟨by show _ = _; kernel_rfl⟩
instance fk782 : KZero Go.Proofs.Tryd.prog 146 (.pointer none) := ⟨by show _ = _; kernel_rfl⟩
instance fk783 : KConc Go.Proofs.Tryd.prog 146 := ⟨by show _ = _; kernel_rfl⟩
instance fk784 : KInfo Go.Proofs.Tryd.prog 148 [.nilFunc] 1 8 := ⟨by show _ = _; kernel_rfl⟩
instance fk785 : KSize Go.Proofs.Tryd.prog 148 1 := ⟨by show _ = _; kernel_rfl⟩
instance fk786 : KOne Go.Proofs.Tryd.prog 148 := ⟨by show _ = _; kernel_rfl⟩
instance fk787 : KInfo Go.Proofs.Tryd.prog 149 [.nilFunc] 1 8 := ⟨by show _ = _; kernel_rfl⟩
instance fk788 : KSize Go.Proofs.Tryd.prog 149 1 := ⟨by show _ = _; kernel_rfl⟩
instance fk789 : KOne Go.Proofs.Tryd.prog 149 := ⟨by show _ = _; kernel_rfl⟩
instance fk790 : KSome Go.Proofs.Tryd.prog 150 := ⟨by show _ = _; kernel_rfl⟩
instance fk791 : KInfo Go.Proofs.Tryd.prog 150 [.pointer none, .pointer none, .pointer none, .string ⟨⟨[]⟩⟩] 4 40 := ⟨by show _ = _; kernel_rfl⟩
instance fk792 : KSize Go.Proofs.Tryd.prog 150 4 := ⟨by show _ = _; kernel_rfl⟩
instance fk793 : KAgg Go.Proofs.Tryd.prog 150 4 := ⟨by show _ = _; kernel_rfl⟩
instance fk794 : KStruct Go.Proofs.Tryd.prog 150 [.pointer none, .pointer none, .pointer none, .string ⟨⟨[]⟩⟩] [(0, 1), (1, 1), (2, 1), (3, 1)] := ⟨by show _ = _; kernel_rfl⟩
instance fk795 : KFieldOff Go.Proofs.Tryd.prog 150 0 0 := ⟨by show _ = _; kernel_rfl⟩
instance fk796 : KField1 Go.Proofs.Tryd.prog 150 0 0 1 := ⟨by show _ = _; kernel_rfl⟩
instance fk797 : KFieldOff Go.Proofs.Tryd.prog 150 1 1 := ⟨by show _ = _; kernel_rfl⟩
instance fk798 : KField1 Go.Proofs.Tryd.prog 150 1 1 1 := ⟨by show _ = _; kernel_rfl⟩
instance fk799 : KFieldOff Go.Proofs.Tryd.prog 150 2 2 := ⟨by show _ = _; kernel_rfl⟩
instance fk800 : KField1 Go.Proofs.Tryd.prog 150 2 2 1 := ⟨by show _ = _; kernel_rfl⟩
instance fk801 : KFieldOff Go.Proofs.Tryd.prog 150 3 3 := ⟨by show _ = _; kernel_rfl⟩
instance fk802 : KField1 Go.Proofs.Tryd.prog 150 3 3 1 := ⟨by show _ = _; kernel_rfl⟩
instance fk803 : KConc Go.Proofs.Tryd.prog 150 := ⟨by show _ = _; kernel_rfl⟩
instance fk804 : KSome Go.Proofs.Tryd.prog 151 := ⟨by show _ = _; kernel_rfl⟩
instance fk805 : KInfo Go.Proofs.Tryd.prog 151 [.pointer none, .pointer none, .pointer none, .string ⟨⟨[]⟩⟩] 4 40 := ⟨by show _ = _; kernel_rfl⟩
instance fk806 : KSize Go.Proofs.Tryd.prog 151 4 := ⟨by show _ = _; kernel_rfl⟩
instance fk807 : KAgg Go.Proofs.Tryd.prog 151 4 := ⟨by show _ = _; kernel_rfl⟩
instance fk808 : KStruct Go.Proofs.Tryd.prog 151 [.pointer none, .pointer none, .pointer none, .string ⟨⟨[]⟩⟩] [(0, 1), (1, 1), (2, 1), (3, 1)] := ⟨by show _ = _; kernel_rfl⟩
instance fk809 : KFieldOff Go.Proofs.Tryd.prog 151 0 0 := ⟨by show _ = _; kernel_rfl⟩
instance fk810 : KField1 Go.Proofs.Tryd.prog 151 0 0 1 := ⟨by show _ = _; kernel_rfl⟩
instance fk811 : KFieldOff Go.Proofs.Tryd.prog 151 1 1 := ⟨by show _ = _; kernel_rfl⟩
instance fk812 : KField1 Go.Proofs.Tryd.prog 151 1 1 1 := ⟨by show _ = _; kernel_rfl⟩
instance fk813 : KFieldOff Go.Proofs.Tryd.prog 151 2 2 := ⟨by show _ = _; kernel_rfl⟩
instance fk814 : KField1 Go.Proofs.Tryd.prog 151 2 2 1 := ⟨by show _ = _; kernel_rfl⟩
instance fk815 : KFieldOff Go.Proofs.Tryd.prog 151 3 3 := ⟨by show _ = _; kernel_rfl⟩
instance fk816 : KField1 Go.Proofs.Tryd.prog 151 3 3 1 := ⟨by show _ = _; kernel_rfl⟩
instance fk817 : KConc Go.Proofs.Tryd.prog 151 := ⟨by show _ = _; kernel_rfl⟩
instance fk818 : KSome Go.Proofs.Tryd.prog 153 := ⟨by show _ = _; kernel_rfl⟩
instance fk819 : KInfo Go.Proofs.Tryd.prog 153 [] 0 0 := ⟨by show _ = _; kernel_rfl⟩
instance fk820 : KSize Go.Proofs.Tryd.prog 153 0 := ⟨by show _ = _; kernel_rfl⟩
instance fk821 : KAgg Go.Proofs.Tryd.prog 153 0 := ⟨by show _ = _; kernel_rfl⟩
instance fk822 : KStruct Go.Proofs.Tryd.prog 153 [] [(0, 0)] := ⟨by show _ = _; kernel_rfl⟩
instance fk823 : KConc Go.Proofs.Tryd.prog 153 := ⟨by show _ = _; kernel_rfl⟩
instance fk824 : KSome Go.Proofs.Tryd.prog 154 := ⟨by show _ = _; kernel_rfl⟩
instance fk825 : KInfo Go.Proofs.Tryd.prog 154 [] 0 0 := ⟨by show _ = _; kernel_rfl⟩
instance fk826 : KSize Go.Proofs.Tryd.prog 154 0 := ⟨by show _ = _; kernel_rfl⟩
instance fk827 : KAgg Go.Proofs.Tryd.prog 154 0 := ⟨by show _ = _; kernel_rfl⟩
instance fk828 : KStruct Go.Proofs.Tryd.prog 154 [] [(0, 0)] := ⟨by show _ = _; kernel_rfl⟩
instance fk829 : KConc Go.Proofs.Tryd.prog 154 := ⟨by show _ = _; kernel_rfl⟩
instance fk830 : KInfo Go.Proofs.Tryd.prog 155 [.nilFunc] 1 8 := ⟨by show _ = _; kernel_rfl⟩
instance fk831 : KSize Go.Proofs.Tryd.prog 155 1 := ⟨by show _ = _; kernel_rfl⟩
instance fk832 : KOne Go.Proofs.Tryd.prog 155 := ⟨by show _ = _; kernel_rfl⟩
instance fk833 : KUnd Go.Proofs.Tryd.prog 156 (.int .u8) := ⟨by show _ = _; kernel_rfl⟩
instance fk834 : KSome Go.Proofs.Tryd.prog 156 := ⟨by show _ = _; kernel_rfl⟩
instance fk835 : KInfo Go.Proofs.Tryd.prog 156 [.int .u8 0] 1 1 := ⟨by show _ = _; kernel_rfl⟩
instance fk836 : KSize Go.Proofs.Tryd.prog 156 1 := ⟨by show _ = _; kernel_rfl⟩
instance fk837 : KOne Go.Proofs.Tryd.prog 156 := ⟨by show _ = _; kernel_rfl⟩
instance fk838 : KZero Go.Proofs.Tryd.prog 156 (.int .u8 0) := ⟨by show _ = _; kernel_rfl⟩
instance fk839 : KConc Go.Proofs.Tryd.prog 156 := ⟨by show _ = _; kernel_rfl⟩
instance fk840 : KUnd Go.Proofs.Tryd.prog 157 (.int .u8) := ⟨by show _ = _; kernel_rfl⟩
instance fk841 : KSome Go.Proofs.Tryd.prog 157 := ⟨by show _ = _; kernel_rfl⟩
instance fk842 : KInfo Go.Proofs.Tryd.prog 157 [.int .u8 0] 1 1 := ⟨by show _ = _; kernel_rfl⟩
instance fk843 : KSize Go.Proofs.Tryd.prog 157 1 := ⟨by show _ = _; kernel_rfl⟩
instance fk844 : KOne Go.Proofs.Tryd.prog 157 := ⟨by show _ = _; kernel_rfl⟩
instance fk845 : KZero Go.Proofs.Tryd.prog 157 (.int .u8 0) := ⟨by show _ = _; kernel_rfl⟩
instance fk846 : KConc Go.Proofs.Tryd.prog 157 := ⟨by show _ = _; kernel_rfl⟩
instance fk847 : KInfo Go.Proofs.Tryd.prog 158 [.nilFunc] 1 8 := ⟨by show _ = _; kernel_rfl⟩
instance fk848 : KSize Go.Proofs.Tryd.prog 158 1 := ⟨by show _ = _; kernel_rfl⟩
instance fk849 : KOne Go.Proofs.Tryd.prog 158 := ⟨by show _ = _; kernel_rfl⟩
instance fk850 : KUnd Go.Proofs.Tryd.prog 159 (.pointer 5) := ⟨by show _ = _; kernel_rfl⟩
instance fk851 : KSome Go.Proofs.Tryd.prog 159 := ⟨by show _ = _; kernel_rfl⟩
instance fk852 : KInfo Go.Proofs.Tryd.prog 159 [.pointer none] 1 8 := ⟨by show _ = _; kernel_rfl⟩
instance fk853 : KSize Go.Proofs.Tryd.prog 159 1 := ⟨by show _ = _; kernel_rfl⟩
instance fk854 : KOne Go.Proofs.Tryd.prog 159 := ⟨by show _ = _; kernel_rfl⟩
instance fk855 : KZero Go.Proofs.Tryd.prog 159 (.pointer none) := ⟨by show _ = _; kernel_rfl⟩
instance fk856 : KConc Go.Proofs.Tryd.prog 159 := ⟨by show _ = _; kernel_rfl⟩
instance fk857 : KUnd Go.Proofs.Tryd.prog 160 (.int .i32) := ⟨by show _ = _; kernel_rfl⟩
instance fk858 : KSome Go.Proofs.Tryd.prog 160 := ⟨by show _ = _; kernel_rfl⟩
instance fk859 : KInfo Go.Proofs.Tryd.prog 160 [.int .i32 0] 1 4 := ⟨by show _ = _; kernel_rfl⟩
instance fk860 : KSize Go.Proofs.Tryd.prog 160 1 := ⟨by show _ = _; kernel_rfl⟩
instance fk861 : KOne Go.Proofs.Tryd.prog 160 := ⟨by show _ = _; kernel_rfl⟩
instance fk862 : KZero Go.Proofs.Tryd.prog 160 (.int .i32 0) := ⟨by show _ = _; kernel_rfl⟩
instance fk863 : KConc Go.Proofs.Tryd.prog 160 := ⟨by show _ = _; kernel_rfl⟩
instance fk864 : KUnd Go.Proofs.Tryd.prog 161 (.int .i32) := ⟨by show _ = _; kernel_rfl⟩
instance fk865 : KSome Go.Proofs.Tryd.prog 161 := ⟨by show _ = _; kernel_rfl⟩
instance fk866 : KInfo Go.Proofs.Tryd.prog 161 [.int .i32 0] 1 4 := ⟨by show _ = _; kernel_rfl⟩
instance fk867 : KSize Go.Proofs.Tryd.prog 161 1 := ⟨by show _ = _; kernel_rfl⟩
instance fk868 : KOne Go.Proofs.Tryd.prog 161 := ⟨by show _ = _; kernel_rfl⟩
instance fk869 : KZero Go.Proofs.Tryd.prog 161 (.int .i32 0) := ⟨by show _ = _; kernel_rfl⟩
instance fk870 : KConc Go.Proofs.Tryd.prog 161 := ⟨by show _ = _; kernel_rfl⟩
instance fk871 : KSome Go.Proofs.Tryd.prog 162 := ⟨by show _ = _; kernel_rfl⟩
instance fk872 : KInfo Go.Proofs.Tryd.prog 162 [.int .u64 0, .int .u64 0, .int .u32 0, .int .u8 0, .int .u8 0, .int .u8 0, .int .u8 0, .nilFunc, .pointer none, .int .i32 0, .int .i32 0] 11 48 := ⟨by show _ = _; kernel_rfl⟩
instance fk873 : KSize Go.Proofs.Tryd.prog 162 11 := ⟨by show _ = _; kernel_rfl⟩
instance fk874 : KAgg Go.Proofs.Tryd.prog 162 11 := ⟨by show _ = _; kernel_rfl⟩
instance fk875 : KStruct Go.Proofs.Tryd.prog 162 [.int .u64 0, .int .u64 0, .int .u32 0, .int .u8 0, .int .u8 0, .int .u8 0, .int .u8 0, .nilFunc, .pointer none, .int .i32 0, .int .i32 0] [(0, 1), (1, 1), (2, 1), (3, 1), (4, 1), (5, 1), (6, 1), (7, 1), (8, 1), (9, 1), (10, 1)] := ⟨by show _ = _; kernel_rfl⟩
instance fk876 : KFieldOff Go.Proofs.Tryd.prog 162 0 0 := ⟨by show _ = _; kernel_rfl⟩
instance fk877 : KField1 Go.Proofs.Tryd.prog 162 0 0 1 := ⟨by show _ = _; kernel_rfl⟩
instance fk878 : KFieldOff Go.Proofs.Tryd.prog 162 1 1 := ⟨by show _ = _; kernel_rfl⟩
instance fk879 : KField1 Go.Proofs.Tryd.prog 162 1 1 1 := ⟨by show _ = _; kernel_rfl⟩
instance fk880 : KFieldOff Go.Proofs.Tryd.prog 162 2 2 := ⟨by show _ = _; kernel_rfl⟩
instance fk881 : KField1 Go.Proofs.Tryd.prog 162 2 2 1 := ⟨by show _ = _; kernel_rfl⟩
instance fk882 : KFieldOff Go.Proofs.Tryd.prog 162 3 3 := ⟨by show _ = _; kernel_rfl⟩
instance fk883 : KField1 Go.Proofs.Tryd.prog 162 3 3 1 := ⟨by show _ = _; kernel_rfl⟩
instance fk884 : KFieldOff Go.Proofs.Tryd.prog 162 4 4 := ⟨by show _ = _; kernel_rfl⟩
instance fk885 : KField1 Go.Proofs.Tryd.prog 162 4 4 1 := ⟨by show _ = _; kernel_rfl⟩
instance fk886 : KFieldOff Go.Proofs.Tryd.prog 162 5 5 := ⟨by show _ = _; kernel_rfl⟩
instance fk887 : KField1 Go.Proofs.Tryd.prog 162 5 5 1 := ⟨by show _ = _; kernel_rfl⟩
instance fk888 : KFieldOff Go.Proofs.Tryd.prog 162 6 6 := ⟨by show _ = _; kernel_rfl⟩
instance fk889 : KField1 Go.Proofs.Tryd.prog 162 6 6 1 := ⟨by show _ = _; kernel_rfl⟩
instance fk890 : KFieldOff Go.Proofs.Tryd.prog 162 7 7 := ⟨by show _ = _; kernel_rfl⟩
instance fk891 : KField1 Go.Proofs.Tryd.prog 162 7 7 1 := ⟨by show _ = _; kernel_rfl⟩
instance fk892 : KFieldOff Go.Proofs.Tryd.prog 162 8 8 := ⟨by show _ = _; kernel_rfl⟩
instance fk893 : KField1 Go.Proofs.Tryd.prog 162 8 8 1 := ⟨by show _ = _; kernel_rfl⟩
instance fk894 : KFieldOff Go.Proofs.Tryd.prog 162 9 9 := ⟨by show _ = _; kernel_rfl⟩
instance fk895 : KField1 Go.Proofs.Tryd.prog 162 9 9 1 := ⟨by show _ = _; kernel_rfl⟩
instance fk896 : KFieldOff Go.Proofs.Tryd.prog 162 10 10 := ⟨by show _ = _; kernel_rfl⟩
instance fk897 : KField1 Go.Proofs.Tryd.prog 162 10 10 1 := ⟨by show _ = _; kernel_rfl⟩
instance fk898 : KConc Go.Proofs.Tryd.prog 162 := ⟨by show _ = _; kernel_rfl⟩
instance fk899 : KSome Go.Proofs.Tryd.prog 163 := ⟨by show _ = _; kernel_rfl⟩
instance fk900 : KInfo Go.Proofs.Tryd.prog 163 [.int .u64 0, .int .u64 0, .int .u32 0, .int .u8 0, .int .u8 0, .int .u8 0, .int .u8 0, .nilFunc, .pointer none, .int .i32 0, .int .i32 0] 11 48 := ⟨by show _ = _; kernel_rfl⟩
instance fk901 : KSize Go.Proofs.Tryd.prog 163 11 := ⟨by show _ = _; kernel_rfl⟩
instance fk902 : KAgg Go.Proofs.Tryd.prog 163 11 := ⟨by show _ = _; kernel_rfl⟩
instance fk903 : KStruct Go.Proofs.Tryd.prog 163 [.int .u64 0, .int .u64 0, .int .u32 0, .int .u8 0, .int .u8 0, .int .u8 0, .int .u8 0, .nilFunc, .pointer none, .int .i32 0, .int .i32 0] [(0, 1), (1, 1), (2, 1), (3, 1), (4, 1), (5, 1), (6, 1), (7, 1), (8, 1), (9, 1), (10, 1)] := ⟨by show _ = _; kernel_rfl⟩
instance fk904 : KFieldOff Go.Proofs.Tryd.prog 163 0 0 := ⟨by show _ = _; kernel_rfl⟩
instance fk905 : KField1 Go.Proofs.Tryd.prog 163 0 0 1 := ⟨by show _ = _; kernel_rfl⟩
instance fk906 : KFieldOff Go.Proofs.Tryd.prog 163 1 1 := ⟨by show _ = _; kernel_rfl⟩
instance fk907 : KField1 Go.Proofs.Tryd.prog 163 1 1 1 := ⟨by show _ = _; kernel_rfl⟩
instance fk908 : KFieldOff Go.Proofs.Tryd.prog 163 2 2 := ⟨by show _ = _; kernel_rfl⟩
instance fk909 : KField1 Go.Proofs.Tryd.prog 163 2 2 1 := ⟨by show _ = _; kernel_rfl⟩
instance fk910 : KFieldOff Go.Proofs.Tryd.prog 163 3 3 := ⟨by show _ = _; kernel_rfl⟩
instance fk911 : KField1 Go.Proofs.Tryd.prog 163 3 3 1 := ⟨by show _ = _; kernel_rfl⟩
instance fk912 : KFieldOff Go.Proofs.Tryd.prog 163 4 4 := ⟨by show _ = _; kernel_rfl⟩
instance fk913 : KField1 Go.Proofs.Tryd.prog 163 4 4 1 := ⟨by show _ = _; kernel_rfl⟩
instance fk914 : KFieldOff Go.Proofs.Tryd.prog 163 5 5 := ⟨by show _ = _; kernel_rfl⟩
instance fk915 : KField1 Go.Proofs.Tryd.prog 163 5 5 1 := ⟨by show _ = _; kernel_rfl⟩
instance fk916 : KFieldOff Go.Proofs.Tryd.prog 163 6 6 := ⟨by show _ = _; kernel_rfl⟩
instance fk917 : KField1 Go.Proofs.Tryd.prog 163 6 6 1 := ⟨by show _ = _; kernel_rfl⟩
instance fk918 : KFieldOff Go.Proofs.Tryd.prog 163 7 7 := ⟨by show _ = _; kernel_rfl⟩
instance fk919 : KField1 Go.Proofs.Tryd.prog 163 7 7 1 := ⟨by show _ = _; kernel_rfl⟩
instance fk920 : KFieldOff Go.Proofs.Tryd.prog 163 8 8 := ⟨by show _ = _; kernel_rfl⟩
instance fk921 : KField1 Go.Proofs.Tryd.prog 163 8 8 1 := ⟨by show _ = _; kernel_rfl⟩
instance fk922 : KFieldOff Go.Proofs.Tryd.prog 163 9 9 := ⟨by show _ = _; kernel_rfl⟩
instance fk923 : KField1 Go.Proofs.Tryd.prog 163 9 9 1 := ⟨by show _ = _; kernel_rfl⟩
instance fk924 : KFieldOff Go.Proofs.Tryd.prog 163 10 10 := ⟨by show _ = _; kernel_rfl⟩
instance fk925 : KField1 Go.Proofs.Tryd.prog 163 10 10 1 := ⟨by show _ = _; kernel_rfl⟩
instance fk926 : KConc Go.Proofs.Tryd.prog 163 := ⟨by show _ = _; kernel_rfl⟩
instance fk927 : KCall Go.Proofs.Tryd.prog 3 := ⟨by show _ = _; kernel_rfl⟩
instance fk928 : KCall Go.Proofs.Tryd.prog 4 := ⟨by show _ = _; kernel_rfl⟩
instance fk929 : KCall Go.Proofs.Tryd.prog 5 := ⟨by show _ = _; kernel_rfl⟩
instance fk930 : KCall Go.Proofs.Tryd.prog 6 := ⟨by show _ = _; kernel_rfl⟩
instance fk931 : KCall Go.Proofs.Tryd.prog 7 := ⟨by show _ = _; kernel_rfl⟩
instance fk932 : KCall Go.Proofs.Tryd.prog 8 := ⟨by show _ = _; kernel_rfl⟩
instance fk933 : KCall Go.Proofs.Tryd.prog 9 := ⟨by show _ = _; kernel_rfl⟩
instance fk934 : KCall Go.Proofs.Tryd.prog 10 := ⟨by show _ = _; kernel_rfl⟩
instance fk935 : KCall Go.Proofs.Tryd.prog 11 := ⟨by show _ = _; kernel_rfl⟩
instance fk936 : KCall Go.Proofs.Tryd.prog 12 := ⟨by show _ = _; kernel_rfl⟩
instance fk937 : KCall Go.Proofs.Tryd.prog 13 := ⟨by show _ = _; kernel_rfl⟩
instance fk938 : KCall Go.Proofs.Tryd.prog 14 := ⟨by show _ = _; kernel_rfl⟩
instance fk939 : KCall Go.Proofs.Tryd.prog 15 := ⟨by show _ = _; kernel_rfl⟩
instance fk940 : KCall Go.Proofs.Tryd.prog 16 := ⟨by show _ = _; kernel_rfl⟩
instance fk941 : KCall Go.Proofs.Tryd.prog 17 := ⟨by show _ = _; kernel_rfl⟩
instance fk942 : KCall Go.Proofs.Tryd.prog 18 := ⟨by show _ = _; kernel_rfl⟩
instance fk943 : KCall Go.Proofs.Tryd.prog 19 := ⟨by show _ = _; kernel_rfl⟩
instance fk944 : KCall Go.Proofs.Tryd.prog 20 := ⟨by show _ = _; kernel_rfl⟩
instance fk945 : KCall Go.Proofs.Tryd.prog 21 := ⟨by show _ = _; kernel_rfl⟩
instance fk946 : KCall Go.Proofs.Tryd.prog 22 := ⟨by show _ = _; kernel_rfl⟩
instance fk947 : KCall Go.Proofs.Tryd.prog 23 := ⟨by show _ = _; kernel_rfl⟩
instance fk948 : KCall Go.Proofs.Tryd.prog 24 := ⟨by show _ = _; kernel_rfl⟩
instance fk949 : KCall Go.Proofs.Tryd.prog 25 := ⟨by show _ = _; kernel_rfl⟩
instance fk950 : KCall Go.Proofs.Tryd.prog 26 := ⟨by show _ = _; kernel_rfl⟩
instance fk951 : KCall Go.Proofs.Tryd.prog 27 := ⟨by show _ = _; kernel_rfl⟩
instance fk952 : KCall Go.Proofs.Tryd.prog 28 := ⟨by show _ = _; kernel_rfl⟩
instance fk953 : KCall Go.Proofs.Tryd.prog 29 := ⟨by show _ = _; kernel_rfl⟩
instance fk954 : KCall Go.Proofs.Tryd.prog 30 := ⟨by show _ = _; kernel_rfl⟩
instance fk955 : KCall Go.Proofs.Tryd.prog 31 := ⟨by show _ = _; kernel_rfl⟩
instance fk956 : KCall Go.Proofs.Tryd.prog 32 := ⟨by show _ = _; kernel_rfl⟩
instance fk957 : KCall Go.Proofs.Tryd.prog 33 := ⟨by show _ = _; kernel_rfl⟩
instance fk958 : KCall Go.Proofs.Tryd.prog 34 := ⟨by show _ = _; kernel_rfl⟩
instance fk959 : KCall Go.Proofs.Tryd.prog 35 := ⟨by show _ = _; kernel_rfl⟩
instance fk960 : KCall Go.Proofs.Tryd.prog 36 := ⟨by show _ = _; kernel_rfl⟩
instance fk961 : KCall Go.Proofs.Tryd.prog 37 := ⟨by show _ = _; kernel_rfl⟩
instance fk962 : KCall Go.Proofs.Tryd.prog 38 := ⟨by show _ = _; kernel_rfl⟩
instance fk963 : KCall Go.Proofs.Tryd.prog 39 := ⟨by show _ = _; kernel_rfl⟩
instance fk964 : KCall Go.Proofs.Tryd.prog 40 := ⟨by show _ = _; kernel_rfl⟩
instance fk965 : KCall Go.Proofs.Tryd.prog 41 := ⟨by show _ = _; kernel_rfl⟩
instance fk966 : KCall Go.Proofs.Tryd.prog 42 := ⟨by show _ = _; kernel_rfl⟩
instance fk967 : KCall Go.Proofs.Tryd.prog 43 := ⟨by show _ = _; kernel_rfl⟩
instance fk968 : KCall Go.Proofs.Tryd.prog 44 := ⟨by show _ = _; kernel_rfl⟩
instance fk969 : KCall Go.Proofs.Tryd.prog 45 := ⟨by show _ = _; kernel_rfl⟩
instance fk970 : KCall Go.Proofs.Tryd.prog 46 := ⟨by show _ = _; kernel_rfl⟩
instance fk971 : KCall Go.Proofs.Tryd.prog 47 := ⟨by show _ = _; kernel_rfl⟩
instance fk972 : KCall Go.Proofs.Tryd.prog 48 := ⟨by show _ = _; kernel_rfl⟩
instance fk973 : KCall Go.Proofs.Tryd.prog 49 := ⟨by show _ = _; kernel_rfl⟩
instance fk974 : KCall Go.Proofs.Tryd.prog 50 := ⟨by show _ = _; kernel_rfl⟩
instance fk975 : KCall Go.Proofs.Tryd.prog 51 := ⟨by show _ = _; kernel_rfl⟩
instance fk976 : KCall Go.Proofs.Tryd.prog 52 := ⟨by show _ = _; kernel_rfl⟩
instance fk977 : KCall Go.Proofs.Tryd.prog 53 := ⟨by show _ = _; kernel_rfl⟩
instance fk978 : KCall Go.Proofs.Tryd.prog 54 := ⟨by show _ = _; kernel_rfl⟩
instance fk979 : KCall Go.Proofs.Tryd.prog 55 := ⟨by show _ = _; kernel_rfl⟩
instance fk980 : KCall Go.Proofs.Tryd.prog 56 := ⟨by show _ = _; kernel_rfl⟩
instance fk981 : KCall Go.Proofs.Tryd.prog 57 := ⟨by show _ = _; kernel_rfl⟩
instance fk982 : KCall Go.Proofs.Tryd.prog 58 := ⟨by show _ = _; kernel_rfl⟩
instance fk983 : KCall Go.Proofs.Tryd.prog 59 := ⟨by show _ = _; kernel_rfl⟩
instance fk984 : KCall Go.Proofs.Tryd.prog 60 := ⟨by show _ = _; kernel_rfl⟩
instance fk985 : KCall Go.Proofs.Tryd.prog 61 := ⟨by show _ = _; kernel_rfl⟩
instance fk986 : KCall Go.Proofs.Tryd.prog 62 := ⟨by show _ = _; kernel_rfl⟩
instance fk987 : KCall Go.Proofs.Tryd.prog 63 := ⟨by show _ = _; kernel_rfl⟩
instance fk988 : KCall Go.Proofs.Tryd.prog 64 := ⟨by show _ = _; kernel_rfl⟩
instance fk989 : KCall Go.Proofs.Tryd.prog 65 := ⟨by show _ = _; kernel_rfl⟩
instance fk990 : KCall Go.Proofs.Tryd.prog 67 := ⟨by show _ = _; kernel_rfl⟩
instance fk991 : KCall Go.Proofs.Tryd.prog 68 := ⟨by show _ = _; kernel_rfl⟩
instance fk992 : KCall Go.Proofs.Tryd.prog 69 := ⟨by show _ = _; kernel_rfl⟩
instance fk993 : KCall Go.Proofs.Tryd.prog 70 := ⟨by show _ = _; kernel_rfl⟩
instance fk994 : KCall Go.Proofs.Tryd.prog 71 := ⟨by show _ = _; kernel_rfl⟩
instance fk995 : KCall Go.Proofs.Tryd.prog 72 := ⟨by show _ = _; kernel_rfl⟩
instance fk996 : KCall Go.Proofs.Tryd.prog 73 := ⟨by show _ = _; kernel_rfl⟩
instance fk997 : KCall Go.Proofs.Tryd.prog 74 := ⟨by show _ = _; kernel_rfl⟩
instance fk998 : KCall Go.Proofs.Tryd.prog 75 := ⟨by show _ = _; kernel_rfl⟩
instance fk999 : KCall Go.Proofs.Tryd.prog 76 := ⟨by show _ = _; kernel_rfl⟩
instance fk1000 : KCall Go.Proofs.Tryd.prog 77 := ⟨by show _ = _; kernel_rfl⟩
instance fk1001 : KCall Go.Proofs.Tryd.prog 78 := ⟨by show _ = _; kernel_rfl⟩
instance fk1002 : KCall Go.Proofs.Tryd.prog 79 := ⟨by show _ = _; kernel_rfl⟩
instance fk1003 : KCall Go.Proofs.Tryd.prog 80 := ⟨by show _ = _; kernel_rfl⟩
instance fk1004 : KCall Go.Proofs.Tryd.prog 81 := ⟨by show _ = _; kernel_rfl⟩
instance fk1005 : KCall Go.Proofs.Tryd.prog 82 := ⟨by show _ = _; kernel_rfl⟩
instance fk1006 : KCall Go.Proofs.Tryd.prog 83 := ⟨by show _ = _; kernel_rfl⟩
instance fk1007 : KCall Go.Proofs.Tryd.prog 84 := ⟨by show _ = _; kernel_rfl⟩
instance fk1008 : KCall Go.Proofs.Tryd.prog 85 := ⟨by show _ = _; kernel_rfl⟩
instance fk1009 : KCall Go.Proofs.Tryd.prog 86 := ⟨by show _ = _; kernel_rfl⟩
instance fk1010 : KCall Go.Proofs.Tryd.prog 87 := ⟨by show _ = _; kernel_rfl⟩
instance fk1011 : KCall Go.Proofs.Tryd.prog 88 := ⟨by show _ = _; kernel_rfl⟩
instance fk1012 : KCall Go.Proofs.Tryd.prog 89 := ⟨by show _ = _; kernel_rfl⟩
instance fk1013 : KCall Go.Proofs.Tryd.prog 90 := ⟨by show _ = _; kernel_rfl⟩
instance fk1014 : KCall Go.Proofs.Tryd.prog 91 := ⟨by show _ = _; kernel_rfl⟩
instance fk1015 : KCall Go.Proofs.Tryd.prog 92 := ⟨by show _ = _; kernel_rfl⟩
instance fk1016 : KCall Go.Proofs.Tryd.prog 93 := ⟨by show _ = _; kernel_rfl⟩
instance fk1017 : KCall Go.Proofs.Tryd.prog 94 := ⟨by show _ = _; kernel_rfl⟩
instance fk1018 : KCall Go.Proofs.Tryd.prog 95 := ⟨by show _ = _; kernel_rfl⟩
instance fk1019 : KCall Go.Proofs.Tryd.prog 96 := ⟨by show _ = _; kernel_rfl⟩
instance fk1020 : KCall Go.Proofs.Tryd.prog 97 := ⟨by show _ = _; kernel_rfl⟩
instance fk1021 : KCall Go.Proofs.Tryd.prog 98 := ⟨by show _ = _; kernel_rfl⟩
instance fk1022 : KCall Go.Proofs.Tryd.prog 99 := ⟨by show _ = _; kernel_rfl⟩
instance fk1023 : KCall Go.Proofs.Tryd.prog 100 := ⟨by show _ = _; kernel_rfl⟩
instance fk1024 : KCall Go.Proofs.Tryd.prog 101 := ⟨by show _ = _; kernel_rfl⟩
instance fk1025 : KCall Go.Proofs.Tryd.prog 102 := ⟨by show _ = _; kernel_rfl⟩
instance fk1026 : KCall Go.Proofs.Tryd.prog 103 := ⟨by show _ = _; kernel_rfl⟩
instance fkmix : KMix Go.Proofs.Tryd.prog := ⟨by kernel_rfl⟩
end Go.Proofs.YtikodfclemgfoaaDoor
