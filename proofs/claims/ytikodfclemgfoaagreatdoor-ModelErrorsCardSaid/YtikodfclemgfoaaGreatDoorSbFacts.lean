/- Closed facts of the translation, by a program of this work. -/
import Derived.Test.YtikodfclemgfoaaGreatDoorSbAuto
import Derived.Test.YtikodfclemgfoaaGreatDoorProg
set_option linter.all false
namespace Go.Proofs.YtikodfclemgfoaaGreatDoor
open Go.Sb
instance fk1 : KInfo Go.Proofs.Tryz.prog 1 [.nilFunc] 1 8 := ⟨by show _ = _; kernel_rfl⟩
instance fk2 : KSize Go.Proofs.Tryz.prog 1 1 := ⟨by show _ = _; kernel_rfl⟩
instance fk3 : KOne Go.Proofs.Tryz.prog 1 := ⟨by show _ = _; kernel_rfl⟩
instance fk4 : KUnd Go.Proofs.Tryz.prog 2 (.int .i64) := ⟨by show _ = _; kernel_rfl⟩
instance fk5 : KSome Go.Proofs.Tryz.prog 2 := ⟨by show _ = _; kernel_rfl⟩
instance fk6 : KInfo Go.Proofs.Tryz.prog 2 [.int .i64 0] 1 8 := ⟨by show _ = _; kernel_rfl⟩
instance fk7 : KSize Go.Proofs.Tryz.prog 2 1 := ⟨by show _ = _; kernel_rfl⟩
instance fk8 : KOne Go.Proofs.Tryz.prog 2 := ⟨by show _ = _; kernel_rfl⟩
instance fk9 : KZero Go.Proofs.Tryz.prog 2 (.int .i64 0) := ⟨by show _ = _; kernel_rfl⟩
instance fk10 : KConc Go.Proofs.Tryz.prog 2 := ⟨by show _ = _; kernel_rfl⟩
instance fk11 : KUnd Go.Proofs.Tryz.prog 3 (.int .i64) := ⟨by show _ = _; kernel_rfl⟩
instance fk12 : KSome Go.Proofs.Tryz.prog 3 := ⟨by show _ = _; kernel_rfl⟩
instance fk13 : KInfo Go.Proofs.Tryz.prog 3 [.int .i64 0] 1 8 := ⟨by show _ = _; kernel_rfl⟩
instance fk14 : KSize Go.Proofs.Tryz.prog 3 1 := ⟨by show _ = _; kernel_rfl⟩
instance fk15 : KOne Go.Proofs.Tryz.prog 3 := ⟨by show _ = _; kernel_rfl⟩
instance fk16 : KZero Go.Proofs.Tryz.prog 3 (.int .i64 0) := ⟨by show _ = _; kernel_rfl⟩
instance fk17 : KConc Go.Proofs.Tryz.prog 3 := ⟨by show _ = _; kernel_rfl⟩
instance fk18 : KUnd Go.Proofs.Tryz.prog 4 (.bool) := ⟨by show _ = _; kernel_rfl⟩
instance fk19 : KSome Go.Proofs.Tryz.prog 4 := ⟨by show _ = _; kernel_rfl⟩
instance fk20 : KInfo Go.Proofs.Tryz.prog 4 [.bool false] 1 1 := ⟨by show _ = _; kernel_rfl⟩
instance fk21 : KSize Go.Proofs.Tryz.prog 4 1 := ⟨by show _ = _; kernel_rfl⟩
instance fk22 : KOne Go.Proofs.Tryz.prog 4 := ⟨by show _ = _; kernel_rfl⟩
instance fk23 : KZero Go.Proofs.Tryz.prog 4 (.bool false) := ⟨by show _ = _; kernel_rfl⟩
instance fk24 : KConc Go.Proofs.Tryz.prog 4 := ⟨by show _ = _; kernel_rfl⟩
instance fk25 : KUnd Go.Proofs.Tryz.prog 5 (.int .u8) := ⟨by show _ = _; kernel_rfl⟩
instance fk26 : KSome Go.Proofs.Tryz.prog 5 := ⟨by show _ = _; kernel_rfl⟩
instance fk27 : KInfo Go.Proofs.Tryz.prog 5 [.int .u8 0] 1 1 := ⟨by show _ = _; kernel_rfl⟩
instance fk28 : KSize Go.Proofs.Tryz.prog 5 1 := ⟨by show _ = _; kernel_rfl⟩
instance fk29 : KOne Go.Proofs.Tryz.prog 5 := ⟨by show _ = _; kernel_rfl⟩
instance fk30 : KZero Go.Proofs.Tryz.prog 5 (.int .u8 0) := ⟨by show _ = _; kernel_rfl⟩
instance fk31 : KConc Go.Proofs.Tryz.prog 5 := ⟨by show _ = _; kernel_rfl⟩
instance fk32 : KUnd Go.Proofs.Tryz.prog 6 (.int .u8) := ⟨by show _ = _; kernel_rfl⟩
instance fk33 : KSome Go.Proofs.Tryz.prog 6 := ⟨by show _ = _; kernel_rfl⟩
instance fk34 : KInfo Go.Proofs.Tryz.prog 6 [.int .u8 0] 1 1 := ⟨by show _ = _; kernel_rfl⟩
instance fk35 : KSize Go.Proofs.Tryz.prog 6 1 := ⟨by show _ = _; kernel_rfl⟩
instance fk36 : KOne Go.Proofs.Tryz.prog 6 := ⟨by show _ = _; kernel_rfl⟩
instance fk37 : KZero Go.Proofs.Tryz.prog 6 (.int .u8 0) := ⟨by show _ = _; kernel_rfl⟩
instance fk38 : KConc Go.Proofs.Tryz.prog 6 := ⟨by show _ = _; kernel_rfl⟩
instance fk39 : KSome Go.Proofs.Tryz.prog 7 := ⟨by show _ = _; kernel_rfl⟩
instance fk40 : KInfo Go.Proofs.Tryz.prog 7 [.int .i64 0, .int .i64 0, .bool false, .int .u8 0] 4 24 := ⟨by show _ = _; kernel_rfl⟩
instance fk41 : KSize Go.Proofs.Tryz.prog 7 4 := ⟨by show _ = _; kernel_rfl⟩
instance fk42 : KAgg Go.Proofs.Tryz.prog 7 4 := ⟨by show _ = _; kernel_rfl⟩
instance fk43 : KStruct Go.Proofs.Tryz.prog 7 [.int .i64 0, .int .i64 0, .bool false, .int .u8 0] [(0, 1), (1, 1), (2, 1), (3, 1)] := ⟨by show _ = _; kernel_rfl⟩
instance fk44 : KFieldOff Go.Proofs.Tryz.prog 7 0 0 := ⟨by show _ = _; kernel_rfl⟩
instance fk45 : KField1 Go.Proofs.Tryz.prog 7 0 0 1 := ⟨by show _ = _; kernel_rfl⟩
instance fk46 : KFieldOff Go.Proofs.Tryz.prog 7 1 1 := ⟨by show _ = _; kernel_rfl⟩
instance fk47 : KField1 Go.Proofs.Tryz.prog 7 1 1 1 := ⟨by show _ = _; kernel_rfl⟩
instance fk48 : KFieldOff Go.Proofs.Tryz.prog 7 2 2 := ⟨by show _ = _; kernel_rfl⟩
instance fk49 : KField1 Go.Proofs.Tryz.prog 7 2 2 1 := ⟨by show _ = _; kernel_rfl⟩
instance fk50 : KFieldOff Go.Proofs.Tryz.prog 7 3 3 := ⟨by show _ = _; kernel_rfl⟩
instance fk51 : KField1 Go.Proofs.Tryz.prog 7 3 3 1 := ⟨by show _ = _; kernel_rfl⟩
instance fk52 : KConc Go.Proofs.Tryz.prog 7 := ⟨by show _ = _; kernel_rfl⟩
instance fk53 : KSome Go.Proofs.Tryz.prog 8 := ⟨by show _ = _; kernel_rfl⟩
instance fk54 : KInfo Go.Proofs.Tryz.prog 8 [.int .i64 0, .int .i64 0, .bool false, .int .u8 0] 4 24 := ⟨by show _ = _; kernel_rfl⟩
instance fk55 : KSize Go.Proofs.Tryz.prog 8 4 := ⟨by show _ = _; kernel_rfl⟩
instance fk56 : KAgg Go.Proofs.Tryz.prog 8 4 := ⟨by show _ = _; kernel_rfl⟩
instance fk57 : KStruct Go.Proofs.Tryz.prog 8 [.int .i64 0, .int .i64 0, .bool false, .int .u8 0] [(0, 1), (1, 1), (2, 1), (3, 1)] := ⟨by show _ = _; kernel_rfl⟩
instance fk58 : KFieldOff Go.Proofs.Tryz.prog 8 0 0 := ⟨by show _ = _; kernel_rfl⟩
instance fk59 : KField1 Go.Proofs.Tryz.prog 8 0 0 1 := ⟨by show _ = _; kernel_rfl⟩
instance fk60 : KFieldOff Go.Proofs.Tryz.prog 8 1 1 := ⟨by show _ = _; kernel_rfl⟩
instance fk61 : KField1 Go.Proofs.Tryz.prog 8 1 1 1 := ⟨by show _ = _; kernel_rfl⟩
instance fk62 : KFieldOff Go.Proofs.Tryz.prog 8 2 2 := ⟨by show _ = _; kernel_rfl⟩
instance fk63 : KField1 Go.Proofs.Tryz.prog 8 2 2 1 := ⟨by show _ = _; kernel_rfl⟩
instance fk64 : KFieldOff Go.Proofs.Tryz.prog 8 3 3 := ⟨by show _ = _; kernel_rfl⟩
instance fk65 : KField1 Go.Proofs.Tryz.prog 8 3 3 1 := ⟨by show _ = _; kernel_rfl⟩
instance fk66 : KConc Go.Proofs.Tryz.prog 8 := ⟨by show _ = _; kernel_rfl⟩
instance fk67 : KUnd Go.Proofs.Tryz.prog 9 (.string) := ⟨by show _ = _; kernel_rfl⟩
instance fk68 : KSome Go.Proofs.Tryz.prog 9 := ⟨by show _ = _; kernel_rfl⟩
instance fk69 : KInfo Go.Proofs.Tryz.prog 9 [.string ⟨⟨[]⟩⟩] 1 16 := ⟨by show _ = _; kernel_rfl⟩
instance fk70 : KSize Go.Proofs.Tryz.prog 9 1 := ⟨by show _ = _; kernel_rfl⟩
instance fk71 : KOne Go.Proofs.Tryz.prog 9 := ⟨by show _ = _; kernel_rfl⟩
instance fk72 : KZero Go.Proofs.Tryz.prog 9 (.string ⟨⟨[]⟩⟩) := ⟨by show _ = _; kernel_rfl⟩
instance fk73 : KConc Go.Proofs.Tryz.prog 9 := ⟨by show _ = _; kernel_rfl⟩
instance fk74 : KUnd Go.Proofs.Tryz.prog 10 (.string) := ⟨by show _ = _; kernel_rfl⟩
instance fk75 : KSome Go.Proofs.Tryz.prog 10 := ⟨by show _ = _; kernel_rfl⟩
instance fk76 : KInfo Go.Proofs.Tryz.prog 10 [.string ⟨⟨[]⟩⟩] 1 16 := ⟨by show _ = _; kernel_rfl⟩
instance fk77 : KSize Go.Proofs.Tryz.prog 10 1 := ⟨by show _ = _; kernel_rfl⟩
instance fk78 : KOne Go.Proofs.Tryz.prog 10 := ⟨by show _ = _; kernel_rfl⟩
instance fk79 : KZero Go.Proofs.Tryz.prog 10 (.string ⟨⟨[]⟩⟩) := ⟨by show _ = _; kernel_rfl⟩
instance fk80 : KConc Go.Proofs.Tryz.prog 10 := ⟨by show _ = _; kernel_rfl⟩
instance fk81 : KUnd Go.Proofs.Tryz.prog 11 (.string) := ⟨by show _ = _; kernel_rfl⟩
instance fk82 : KSome Go.Proofs.Tryz.prog 11 := ⟨by show _ = _; kernel_rfl⟩
instance fk83 : KInfo Go.Proofs.Tryz.prog 11 [.string ⟨⟨[]⟩⟩] 1 16 := ⟨by show _ = _; kernel_rfl⟩
instance fk84 : KSize Go.Proofs.Tryz.prog 11 1 := ⟨by show _ = _; kernel_rfl⟩
instance fk85 : KOne Go.Proofs.Tryz.prog 11 := ⟨by show _ = _; kernel_rfl⟩
instance fk86 : KZero Go.Proofs.Tryz.prog 11 (.string ⟨⟨[]⟩⟩) := ⟨by show _ = _; kernel_rfl⟩
instance fk87 : KConc Go.Proofs.Tryz.prog 11 := ⟨by show _ = _; kernel_rfl⟩
instance fk88 : KUnd Go.Proofs.Tryz.prog 12 (.int .u64) := ⟨by show _ = _; kernel_rfl⟩
instance fk89 : KSome Go.Proofs.Tryz.prog 12 := ⟨by show _ = _; kernel_rfl⟩
instance fk90 : KInfo Go.Proofs.Tryz.prog 12 [.int .u64 0] 1 8 := ⟨by show _ = _; kernel_rfl⟩
instance fk91 : KSize Go.Proofs.Tryz.prog 12 1 := ⟨by show _ = _; kernel_rfl⟩
instance fk92 : KOne Go.Proofs.Tryz.prog 12 := ⟨by show _ = _; kernel_rfl⟩
instance fk93 : KZero Go.Proofs.Tryz.prog 12 (.int .u64 0) := ⟨by show _ = _; kernel_rfl⟩
instance fk94 : KConc Go.Proofs.Tryz.prog 12 := ⟨by show _ = _; kernel_rfl⟩
instance fk95 : KSome Go.Proofs.Tryz.prog 13 := ⟨by show _ = _; kernel_rfl⟩
instance fk96 : KInfo Go.Proofs.Tryz.prog 13 [.string ⟨⟨[]⟩⟩, .int .u64 0] 2 24 := ⟨by show _ = _; kernel_rfl⟩
instance fk97 : KSize Go.Proofs.Tryz.prog 13 2 := ⟨by show _ = _; kernel_rfl⟩
instance fk98 : KAgg Go.Proofs.Tryz.prog 13 2 := ⟨by show _ = _; kernel_rfl⟩
instance fk99 : KStruct Go.Proofs.Tryz.prog 13 [.string ⟨⟨[]⟩⟩, .int .u64 0] [(0, 1), (1, 1)] := ⟨by show _ = _; kernel_rfl⟩
instance fk100 : KFieldOff Go.Proofs.Tryz.prog 13 0 0 := ⟨by show _ = _; kernel_rfl⟩
instance fk101 : KField1 Go.Proofs.Tryz.prog 13 0 0 1 := ⟨by show _ = _; kernel_rfl⟩
instance fk102 : KFieldOff Go.Proofs.Tryz.prog 13 1 1 := ⟨by show _ = _; kernel_rfl⟩
instance fk103 : KField1 Go.Proofs.Tryz.prog 13 1 1 1 := ⟨by show _ = _; kernel_rfl⟩
instance fk104 : KConc Go.Proofs.Tryz.prog 13 := ⟨by show _ = _; kernel_rfl⟩
instance fk105 : KSome Go.Proofs.Tryz.prog 14 := ⟨by show _ = _; kernel_rfl⟩
instance fk106 : KInfo Go.Proofs.Tryz.prog 14 [.string ⟨⟨[]⟩⟩, .int .u64 0] 2 24 := ⟨by show _ = _; kernel_rfl⟩
instance fk107 : KSize Go.Proofs.Tryz.prog 14 2 := ⟨by show _ = _; kernel_rfl⟩
instance fk108 : KAgg Go.Proofs.Tryz.prog 14 2 := ⟨by show _ = _; kernel_rfl⟩
instance fk109 : KStruct Go.Proofs.Tryz.prog 14 [.string ⟨⟨[]⟩⟩, .int .u64 0] [(0, 1), (1, 1)] := ⟨by show _ = _; kernel_rfl⟩
instance fk110 : KFieldOff Go.Proofs.Tryz.prog 14 0 0 := ⟨by show _ = _; kernel_rfl⟩
instance fk111 : KField1 Go.Proofs.Tryz.prog 14 0 0 1 := ⟨by show _ = _; kernel_rfl⟩
instance fk112 : KFieldOff Go.Proofs.Tryz.prog 14 1 1 := ⟨by show _ = _; kernel_rfl⟩
instance fk113 : KField1 Go.Proofs.Tryz.prog 14 1 1 1 := ⟨by show _ = _; kernel_rfl⟩
instance fk114 : KConc Go.Proofs.Tryz.prog 14 := ⟨by show _ = _; kernel_rfl⟩
instance fk115 : KUnd Go.Proofs.Tryz.prog 15 (.pointer 180) := ⟨by show _ = _; kernel_rfl⟩
instance fk116 : KSome Go.Proofs.Tryz.prog 15 := ⟨by show _ = _; kernel_rfl⟩
instance fk117 : KInfo Go.Proofs.Tryz.prog 15 [.pointer none] 1 8 := ⟨by show _ = _; kernel_rfl⟩
instance fk118 : KSize Go.Proofs.Tryz.prog 15 1 := ⟨by show _ = _; kernel_rfl⟩
instance fk119 : KOne Go.Proofs.Tryz.prog 15 := ⟨by show _ = _; kernel_rfl⟩
instance fk120 : KZero Go.Proofs.Tryz.prog 15 (.pointer none) := ⟨by show _ = _; kernel_rfl⟩
instance fk121 : KConc Go.Proofs.Tryz.prog 15 := ⟨by show _ = _; kernel_rfl⟩
instance fk122 : KUnd Go.Proofs.Tryz.prog 16 (.pointer 183) := ⟨by show _ = _; kernel_rfl⟩
instance fk123 : KSome Go.Proofs.Tryz.prog 16 := ⟨by show _ = _; kernel_rfl⟩
instance fk124 : KInfo Go.Proofs.Tryz.prog 16 [.pointer none] 1 8 := ⟨by show _ = _; kernel_rfl⟩
instance fk125 : KSize Go.Proofs.Tryz.prog 16 1 := ⟨by show _ = _; kernel_rfl⟩
instance fk126 : KOne Go.Proofs.Tryz.prog 16 := ⟨by show _ = _; kernel_rfl⟩
instance fk127 : KZero Go.Proofs.Tryz.prog 16 (.pointer none) := ⟨by show _ = _; kernel_rfl⟩
instance fk128 : KConc Go.Proofs.Tryz.prog 16 := ⟨by show _ = _; kernel_rfl⟩
instance fk129 : KUnd Go.Proofs.Tryz.prog 17 (.pointer 192) := ⟨by show _ = _; kernel_rfl⟩
instance fk130 : KSome Go.Proofs.Tryz.prog 17 := ⟨by show _ = _; kernel_rfl⟩
instance fk131 : KInfo Go.Proofs.Tryz.prog 17 [.pointer none] 1 8 := ⟨by show _ = _; kernel_rfl⟩
instance fk132 : KSize Go.Proofs.Tryz.prog 17 1 := ⟨by show _ = _; kernel_rfl⟩
instance fk133 : KOne Go.Proofs.Tryz.prog 17 := ⟨by show _ = _; kernel_rfl⟩
instance fk134 : KZero Go.Proofs.Tryz.prog 17 (.pointer none) := ⟨by show _ = _; kernel_rfl⟩
instance fk135 : KConc Go.Proofs.Tryz.prog 17 := ⟨by show _ = _; kernel_rfl⟩
instance fk136 : KSome Go.Proofs.Tryz.prog 18 := ⟨by show _ = _; kernel_rfl⟩
instance fk137 : KInfo Go.Proofs.Tryz.prog 18 [.pointer none] 1 8 := ⟨by show _ = _; kernel_rfl⟩
instance fk138 : KSize Go.Proofs.Tryz.prog 18 1 := ⟨by show _ = _; kernel_rfl⟩
instance fk139 : KAgg Go.Proofs.Tryz.prog 18 1 := ⟨by show _ = _; kernel_rfl⟩
instance fk140 : KStruct Go.Proofs.Tryz.prog 18 [.pointer none] [(0, 1)] := ⟨by show _ = _; kernel_rfl⟩
instance fk141 : KFieldOff Go.Proofs.Tryz.prog 18 0 0 := ⟨by show _ = _; kernel_rfl⟩
instance fk142 : KField1 Go.Proofs.Tryz.prog 18 0 0 1 := ⟨by show _ = _; kernel_rfl⟩
instance fk143 : KConc Go.Proofs.Tryz.prog 18 := ⟨by show _ = _; kernel_rfl⟩
instance fk144 : KSome Go.Proofs.Tryz.prog 19 := ⟨by show _ = _; kernel_rfl⟩
instance fk145 : KInfo Go.Proofs.Tryz.prog 19 [.pointer none] 1 8 := ⟨by show _ = _; kernel_rfl⟩
instance fk146 : KSize Go.Proofs.Tryz.prog 19 1 := ⟨by show _ = _; kernel_rfl⟩
instance fk147 : KAgg Go.Proofs.Tryz.prog 19 1 := ⟨by show _ = _; kernel_rfl⟩
instance fk148 : KStruct Go.Proofs.Tryz.prog 19 [.pointer none] [(0, 1)] := ⟨by show _ = _; kernel_rfl⟩
instance fk149 : KFieldOff Go.Proofs.Tryz.prog 19 0 0 := ⟨by show _ = _; kernel_rfl⟩
instance fk150 : KField1 Go.Proofs.Tryz.prog 19 0 0 1 := ⟨by show _ = _; kernel_rfl⟩
instance fk151 : KConc Go.Proofs.Tryz.prog 19 := ⟨by show _ = _; kernel_rfl⟩
instance fk152 : KSome Go.Proofs.Tryz.prog 20 := ⟨by show _ = _; kernel_rfl⟩
instance fk153 : KInfo Go.Proofs.Tryz.prog 20 [.nilIface] 1 16 := ⟨by show _ = _; kernel_rfl⟩
instance fk154 : KSize Go.Proofs.Tryz.prog 20 1 := ⟨by show _ = _; kernel_rfl⟩
instance fk155 : KOne Go.Proofs.Tryz.prog 20 := ⟨by show _ = _; kernel_rfl⟩
instance fk156 : KZero Go.Proofs.Tryz.prog 20 (.nilIface) := ⟨by show _ = _; kernel_rfl⟩
instance fk157 : KUnd Go.Proofs.Tryz.prog 21 (.int .i32) := ⟨by show _ = _; kernel_rfl⟩
instance fk158 : KSome Go.Proofs.Tryz.prog 21 := ⟨by show _ = _; kernel_rfl⟩
instance fk159 : KInfo Go.Proofs.Tryz.prog 21 [.int .i32 0] 1 4 := ⟨by show _ = _; kernel_rfl⟩
instance fk160 : KSize Go.Proofs.Tryz.prog 21 1 := ⟨by show _ = _; kernel_rfl⟩
instance fk161 : KOne Go.Proofs.Tryz.prog 21 := ⟨by show _ = _; kernel_rfl⟩
instance fk162 : KZero Go.Proofs.Tryz.prog 21 (.int .i32 0) := ⟨by show _ = _; kernel_rfl⟩
instance fk163 : KConc Go.Proofs.Tryz.prog 21 := ⟨by show _ = _; kernel_rfl⟩
instance fk164 : KUnd Go.Proofs.Tryz.prog 22 (.slice 34) := ⟨by show _ = _; kernel_rfl⟩
instance fk165 : KSome Go.Proofs.Tryz.prog 22 := ⟨by show _ = _; kernel_rfl⟩
instance fk166 : KInfo Go.Proofs.Tryz.prog 22 [.slice none 0 0] 1 24 := ⟨by show _ = _; kernel_rfl⟩
instance fk167 : KSize Go.Proofs.Tryz.prog 22 1 := ⟨by show _ = _; kernel_rfl⟩
instance fk168 : KOne Go.Proofs.Tryz.prog 22 := ⟨by show _ = _; kernel_rfl⟩
instance fk169 : KZero Go.Proofs.Tryz.prog 22 (.slice none 0 0) := ⟨by show _ = _; kernel_rfl⟩
instance fk170 : KSlice Go.Proofs.Tryz.prog 22 34 10 := ⟨⟨by kernel_rfl, by kernel_rfl⟩⟩
instance fk171 : KConc Go.Proofs.Tryz.prog 22 := ⟨by show _ = _; kernel_rfl⟩
instance fk172 : KInfo Go.Proofs.Tryz.prog 23 [.nilFunc] 1 8 := ⟨by show _ = _; kernel_rfl⟩
instance fk173 : KSize Go.Proofs.Tryz.prog 23 1 := ⟨by show _ = _; kernel_rfl⟩
instance fk174 : KOne Go.Proofs.Tryz.prog 23 := ⟨by show _ = _; kernel_rfl⟩
instance fk175 : KInfo Go.Proofs.Tryz.prog 24 [.nilFunc] 1 8 := ⟨by show _ = _; kernel_rfl⟩
instance fk176 : KSize Go.Proofs.Tryz.prog 24 1 := ⟨by show _ = _; kernel_rfl⟩
instance fk177 : KOne Go.Proofs.Tryz.prog 24 := ⟨by show _ = _; kernel_rfl⟩
instance fk178 : KUnd Go.Proofs.Tryz.prog 25 (.pointer 59) := ⟨by show _ = _; kernel_rfl⟩
instance fk179 : KSome Go.Proofs.Tryz.prog 25 := ⟨by show _ = _; kernel_rfl⟩
instance fk180 : KInfo Go.Proofs.Tryz.prog 25 [.pointer none] 1 8 := ⟨by show _ = _; kernel_rfl⟩
instance fk181 : KSize Go.Proofs.Tryz.prog 25 1 := ⟨by show _ = _; kernel_rfl⟩
instance fk182 : KOne Go.Proofs.Tryz.prog 25 := ⟨by show _ = _; kernel_rfl⟩
instance fk183 : KZero Go.Proofs.Tryz.prog 25 (.pointer none) := ⟨by show _ = _; kernel_rfl⟩
instance fk184 : KConc Go.Proofs.Tryz.prog 25 := ⟨by show _ = _; kernel_rfl⟩
instance fk185 : KInfo Go.Proofs.Tryz.prog 26 [.nilFunc] 1 8 := ⟨by show _ = _; kernel_rfl⟩
instance fk186 : KSize Go.Proofs.Tryz.prog 26 1 := ⟨by show _ = _; kernel_rfl⟩
instance fk187 : KOne Go.Proofs.Tryz.prog 26 := ⟨by show _ = _; kernel_rfl⟩
instance fk188 : KUnd Go.Proofs.Tryz.prog 27 (.pointer 62) := ⟨by show _ = _; kernel_rfl⟩
instance fk189 : KSome Go.Proofs.Tryz.prog 27 := ⟨by show _ = _; kernel_rfl⟩
instance fk190 : KInfo Go.Proofs.Tryz.prog 27 [.pointer none] 1 8 := ⟨by show _ = _; kernel_rfl⟩
instance fk191 : KSize Go.Proofs.Tryz.prog 27 1 := ⟨by show _ = _; kernel_rfl⟩
instance fk192 : KOne Go.Proofs.Tryz.prog 27 := ⟨by show _ = _; kernel_rfl⟩
instance fk193 : KZero Go.Proofs.Tryz.prog 27 (.pointer none) := ⟨by show _ = _; kernel_rfl⟩
instance fk194 : KConc Go.Proofs.Tryz.prog 27 := ⟨by show _ = _; kernel_rfl⟩
instance fk195 : KInfo Go.Proofs.Tryz.prog 28 [.nilFunc] 1 8 := ⟨by show _ = _; kernel_rfl⟩
instance fk196 : KSize Go.Proofs.Tryz.prog 28 1 := ⟨by show _ = _; kernel_rfl⟩
instance fk197 : KOne Go.Proofs.Tryz.prog 28 := ⟨by show _ = _; kernel_rfl⟩
instance fk198 : KInfo Go.Proofs.Tryz.prog 29 [.nilFunc] 1 8 := ⟨by show _ = _; kernel_rfl⟩
instance fk199 : KSize Go.Proofs.Tryz.prog 29 1 := ⟨by show _ = _; kernel_rfl⟩
instance fk200 : KOne Go.Proofs.Tryz.prog 29 := ⟨by show _ = _; kernel_rfl⟩
instance fk201 : KUnd Go.Proofs.Tryz.prog 30 (.slice 5) := ⟨by show _ = _; kernel_rfl⟩
instance fk202 : KSome Go.Proofs.Tryz.prog 30 := ⟨by show _ = _; kernel_rfl⟩
instance fk203 : KInfo Go.Proofs.Tryz.prog 30 [.slice none 0 0] 1 24 := ⟨by show _ = _; kernel_rfl⟩
instance fk204 : KSize Go.Proofs.Tryz.prog 30 1 := ⟨by show _ = _; kernel_rfl⟩
instance fk205 : KOne Go.Proofs.Tryz.prog 30 := ⟨by show _ = _; kernel_rfl⟩
instance fk206 : KZero Go.Proofs.Tryz.prog 30 (.slice none 0 0) := ⟨by show _ = _; kernel_rfl⟩
instance fk207 : KSlice Go.Proofs.Tryz.prog 30 5 1 := ⟨⟨by kernel_rfl, by kernel_rfl⟩⟩
instance fk208 : KConc Go.Proofs.Tryz.prog 30 := ⟨by show _ = _; kernel_rfl⟩
instance fk209 : KSome Go.Proofs.Tryz.prog 31 := ⟨by show _ = _; kernel_rfl⟩
instance fk210 : KInfo Go.Proofs.Tryz.prog 31 [.string ⟨⟨[]⟩⟩, .string ⟨⟨[]⟩⟩, .int .i64 0, .int .i64 0] 4 48 := ⟨by show _ = _; kernel_rfl⟩
instance fk211 : KSize Go.Proofs.Tryz.prog 31 4 := ⟨by show _ = _; kernel_rfl⟩
instance fk212 : KAgg Go.Proofs.Tryz.prog 31 4 := ⟨by show _ = _; kernel_rfl⟩
instance fk213 : KStruct Go.Proofs.Tryz.prog 31 [.string ⟨⟨[]⟩⟩, .string ⟨⟨[]⟩⟩, .int .i64 0, .int .i64 0] [(0, 1), (1, 1), (2, 1), (3, 1)] := ⟨by show _ = _; kernel_rfl⟩
instance fk214 : KFieldOff Go.Proofs.Tryz.prog 31 0 0 := ⟨by show _ = _; kernel_rfl⟩
instance fk215 : KField1 Go.Proofs.Tryz.prog 31 0 0 1 := ⟨by show _ = _; kernel_rfl⟩
instance fk216 : KFieldOff Go.Proofs.Tryz.prog 31 1 1 := ⟨by show _ = _; kernel_rfl⟩
instance fk217 : KField1 Go.Proofs.Tryz.prog 31 1 1 1 := ⟨by show _ = _; kernel_rfl⟩
instance fk218 : KFieldOff Go.Proofs.Tryz.prog 31 2 2 := ⟨by show _ = _; kernel_rfl⟩
instance fk219 : KField1 Go.Proofs.Tryz.prog 31 2 2 1 := ⟨by show _ = _; kernel_rfl⟩
instance fk220 : KFieldOff Go.Proofs.Tryz.prog 31 3 3 := ⟨by show _ = _; kernel_rfl⟩
instance fk221 : KField1 Go.Proofs.Tryz.prog 31 3 3 1 := ⟨by show _ = _; kernel_rfl⟩
instance fk222 : KConc Go.Proofs.Tryz.prog 31 := ⟨by show _ = _; kernel_rfl⟩
instance fk223 : KSome Go.Proofs.Tryz.prog 32 := ⟨by show _ = _; kernel_rfl⟩
instance fk224 : KInfo Go.Proofs.Tryz.prog 32 [.string ⟨⟨[]⟩⟩, .string ⟨⟨[]⟩⟩, .int .i64 0, .int .i64 0] 4 48 := ⟨by show _ = _; kernel_rfl⟩
instance fk225 : KSize Go.Proofs.Tryz.prog 32 4 := ⟨by show _ = _; kernel_rfl⟩
instance fk226 : KAgg Go.Proofs.Tryz.prog 32 4 := ⟨by show _ = _; kernel_rfl⟩
instance fk227 : KStruct Go.Proofs.Tryz.prog 32 [.string ⟨⟨[]⟩⟩, .string ⟨⟨[]⟩⟩, .int .i64 0, .int .i64 0] [(0, 1), (1, 1), (2, 1), (3, 1)] := ⟨by show _ = _; kernel_rfl⟩
instance fk228 : KFieldOff Go.Proofs.Tryz.prog 32 0 0 := ⟨by show _ = _; kernel_rfl⟩
instance fk229 : KField1 Go.Proofs.Tryz.prog 32 0 0 1 := ⟨by show _ = _; kernel_rfl⟩
instance fk230 : KFieldOff Go.Proofs.Tryz.prog 32 1 1 := ⟨by show _ = _; kernel_rfl⟩
instance fk231 : KField1 Go.Proofs.Tryz.prog 32 1 1 1 := ⟨by show _ = _; kernel_rfl⟩
instance fk232 : KFieldOff Go.Proofs.Tryz.prog 32 2 2 := ⟨by show _ = _; kernel_rfl⟩
instance fk233 : KField1 Go.Proofs.Tryz.prog 32 2 2 1 := ⟨by show _ = _; kernel_rfl⟩
instance fk234 : KFieldOff Go.Proofs.Tryz.prog 32 3 3 := ⟨by show _ = _; kernel_rfl⟩
instance fk235 : KField1 Go.Proofs.Tryz.prog 32 3 3 1 := ⟨by show _ = _; kernel_rfl⟩
instance fk236 : KConc Go.Proofs.Tryz.prog 32 := ⟨by show _ = _; kernel_rfl⟩
instance fk237 : KSome Go.Proofs.Tryz.prog 33 := ⟨by show _ = _; kernel_rfl⟩
instance fk238 : KInfo Go.Proofs.Tryz.prog 33 [.int .i64 0, .string ⟨⟨[]⟩⟩, .string ⟨⟨[]⟩⟩, .slice none 0 0, .int .i64 0, .int .i64 0, .string ⟨⟨[]⟩⟩, .string ⟨⟨[]⟩⟩, .int .i64 0, .int .i64 0] 10 128 := ⟨by show _ = _; kernel_rfl⟩
instance fk239 : KSize Go.Proofs.Tryz.prog 33 10 := ⟨by show _ = _; kernel_rfl⟩
instance fk240 : KAgg Go.Proofs.Tryz.prog 33 10 := ⟨by show _ = _; kernel_rfl⟩
instance fk241 : KStruct Go.Proofs.Tryz.prog 33 [.int .i64 0, .string ⟨⟨[]⟩⟩, .string ⟨⟨[]⟩⟩, .slice none 0 0, .int .i64 0, .int .i64 0, .string ⟨⟨[]⟩⟩, .string ⟨⟨[]⟩⟩, .int .i64 0, .int .i64 0] [(0, 1), (1, 1), (2, 1), (3, 1), (4, 1), (5, 1), (6, 4)] := ⟨by show _ = _; kernel_rfl⟩
instance fk242 : KFieldOff Go.Proofs.Tryz.prog 33 0 0 := ⟨by show _ = _; kernel_rfl⟩
instance fk243 : KField1 Go.Proofs.Tryz.prog 33 0 0 1 := ⟨by show _ = _; kernel_rfl⟩
instance fk244 : KFieldOff Go.Proofs.Tryz.prog 33 1 1 := ⟨by show _ = _; kernel_rfl⟩
instance fk245 : KField1 Go.Proofs.Tryz.prog 33 1 1 1 := ⟨by show _ = _; kernel_rfl⟩
instance fk246 : KFieldOff Go.Proofs.Tryz.prog 33 2 2 := ⟨by show _ = _; kernel_rfl⟩
instance fk247 : KField1 Go.Proofs.Tryz.prog 33 2 2 1 := ⟨by show _ = _; kernel_rfl⟩
instance fk248 : KFieldOff Go.Proofs.Tryz.prog 33 3 3 := ⟨by show _ = _; kernel_rfl⟩
instance fk249 : KField1 Go.Proofs.Tryz.prog 33 3 3 1 := ⟨by show _ = _; kernel_rfl⟩
instance fk250 : KFieldOff Go.Proofs.Tryz.prog 33 4 4 := ⟨by show _ = _; kernel_rfl⟩
instance fk251 : KField1 Go.Proofs.Tryz.prog 33 4 4 1 := ⟨by show _ = _; kernel_rfl⟩
instance fk252 : KFieldOff Go.Proofs.Tryz.prog 33 5 5 := ⟨by show _ = _; kernel_rfl⟩
instance fk253 : KField1 Go.Proofs.Tryz.prog 33 5 5 1 := ⟨by show _ = _; kernel_rfl⟩
instance fk254 : KFieldOff Go.Proofs.Tryz.prog 33 6 6 := ⟨by show _ = _; kernel_rfl⟩
instance fk255 : KFieldA Go.Proofs.Tryz.prog 33 6 6 4 := ⟨by show _ = _; kernel_rfl⟩
instance fk256 : KConc Go.Proofs.Tryz.prog 33 := ⟨by show _ = _; kernel_rfl⟩
instance fk257 : KSome Go.Proofs.Tryz.prog 34 := ⟨by show _ = _; kernel_rfl⟩
instance fk258 : KInfo Go.Proofs.Tryz.prog 34 [.int .i64 0, .string ⟨⟨[]⟩⟩, .string ⟨⟨[]⟩⟩, .slice none 0 0, .int .i64 0, .int .i64 0, .string ⟨⟨[]⟩⟩, .string ⟨⟨[]⟩⟩, .int .i64 0, .int .i64 0] 10 128 := ⟨by show _ = _; kernel_rfl⟩
instance fk259 : KSize Go.Proofs.Tryz.prog 34 10 := ⟨by show _ = _; kernel_rfl⟩
instance fk260 : KAgg Go.Proofs.Tryz.prog 34 10 := ⟨by show _ = _; kernel_rfl⟩
instance fk261 : KStruct Go.Proofs.Tryz.prog 34 [.int .i64 0, .string ⟨⟨[]⟩⟩, .string ⟨⟨[]⟩⟩, .slice none 0 0, .int .i64 0, .int .i64 0, .string ⟨⟨[]⟩⟩, .string ⟨⟨[]⟩⟩, .int .i64 0, .int .i64 0] [(0, 1), (1, 1), (2, 1), (3, 1), (4, 1), (5, 1), (6, 4)] := ⟨by show _ = _; kernel_rfl⟩
instance fk262 : KFieldOff Go.Proofs.Tryz.prog 34 0 0 := ⟨by show _ = _; kernel_rfl⟩
instance fk263 : KField1 Go.Proofs.Tryz.prog 34 0 0 1 := ⟨by show _ = _; kernel_rfl⟩
instance fk264 : KFieldOff Go.Proofs.Tryz.prog 34 1 1 := ⟨by show _ = _; kernel_rfl⟩
instance fk265 : KField1 Go.Proofs.Tryz.prog 34 1 1 1 := ⟨by show _ = _; kernel_rfl⟩
instance fk266 : KFieldOff Go.Proofs.Tryz.prog 34 2 2 := ⟨by show _ = _; kernel_rfl⟩
instance fk267 : KField1 Go.Proofs.Tryz.prog 34 2 2 1 := ⟨by show _ = _; kernel_rfl⟩
instance fk268 : KFieldOff Go.Proofs.Tryz.prog 34 3 3 := ⟨by show _ = _; kernel_rfl⟩
instance fk269 : KField1 Go.Proofs.Tryz.prog 34 3 3 1 := ⟨by show _ = _; kernel_rfl⟩
instance fk270 : KFieldOff Go.Proofs.Tryz.prog 34 4 4 := ⟨by show _ = _; kernel_rfl⟩
instance fk271 : KField1 Go.Proofs.Tryz.prog 34 4 4 1 := ⟨by show _ = _; kernel_rfl⟩
instance fk272 : KFieldOff Go.Proofs.Tryz.prog 34 5 5 := ⟨by show _ = _; kernel_rfl⟩
instance fk273 : KField1 Go.Proofs.Tryz.prog 34 5 5 1 := ⟨by show _ = _; kernel_rfl⟩
instance fk274 : KFieldOff Go.Proofs.Tryz.prog 34 6 6 := ⟨by show _ = _; kernel_rfl⟩
instance fk275 : KFieldA Go.Proofs.Tryz.prog 34 6 6 4 := ⟨by show _ = _; kernel_rfl⟩
instance fk276 : KConc Go.Proofs.Tryz.prog 34 := ⟨by show _ = _; kernel_rfl⟩
instance fk277 : KInfo Go.Proofs.Tryz.prog 35 [.nilFunc] 1 8 := ⟨by show _ = _; kernel_rfl⟩
instance fk278 : KSize Go.Proofs.Tryz.prog 35 1 := ⟨by show _ = _; kernel_rfl⟩
instance fk279 : KOne Go.Proofs.Tryz.prog 35 := ⟨by show _ = _; kernel_rfl⟩
instance fk280 : KUnd Go.Proofs.Tryz.prog 36 (.int .u32) := ⟨by show _ = _; kernel_rfl⟩
instance fk281 : KSome Go.Proofs.Tryz.prog 36 := ⟨by show _ = _; kernel_rfl⟩
instance fk282 : KInfo Go.Proofs.Tryz.prog 36 [.int .u32 0] 1 4 := ⟨by show _ = _; kernel_rfl⟩
instance fk283 : KSize Go.Proofs.Tryz.prog 36 1 := ⟨by show _ = _; kernel_rfl⟩
instance fk284 : KOne Go.Proofs.Tryz.prog 36 := ⟨by show _ = _; kernel_rfl⟩
instance fk285 : KZero Go.Proofs.Tryz.prog 36 (.int .u32 0) := ⟨by show _ = _; kernel_rfl⟩
instance fk286 : KConc Go.Proofs.Tryz.prog 36 := ⟨by show _ = _; kernel_rfl⟩
instance fk287 : KSome Go.Proofs.Tryz.prog 37 := ⟨by show _ = _; kernel_rfl⟩
instance fk288 : KInfo Go.Proofs.Tryz.prog 37 [.int .i64 0, .bool false, .int .i64 0, .int .u32 0] 4 32 := ⟨by show _ = _; kernel_rfl⟩
instance fk289 : KSize Go.Proofs.Tryz.prog 37 4 := ⟨by show _ = _; kernel_rfl⟩
instance fk290 : KAgg Go.Proofs.Tryz.prog 37 4 := ⟨by show _ = _; kernel_rfl⟩
instance fk291 : KStruct Go.Proofs.Tryz.prog 37 [.int .i64 0, .bool false, .int .i64 0, .int .u32 0] [(0, 1), (1, 1), (2, 1), (3, 1)] := ⟨by show _ = _; kernel_rfl⟩
instance fk292 : KFieldOff Go.Proofs.Tryz.prog 37 0 0 := ⟨by show _ = _; kernel_rfl⟩
instance fk293 : KField1 Go.Proofs.Tryz.prog 37 0 0 1 := ⟨by show _ = _; kernel_rfl⟩
instance fk294 : KFieldOff Go.Proofs.Tryz.prog 37 1 1 := ⟨by show _ = _; kernel_rfl⟩
instance fk295 : KField1 Go.Proofs.Tryz.prog 37 1 1 1 := ⟨by show _ = _; kernel_rfl⟩
instance fk296 : KFieldOff Go.Proofs.Tryz.prog 37 2 2 := ⟨by show _ = _; kernel_rfl⟩
instance fk297 : KField1 Go.Proofs.Tryz.prog 37 2 2 1 := ⟨by show _ = _; kernel_rfl⟩
instance fk298 : KFieldOff Go.Proofs.Tryz.prog 37 3 3 := ⟨by show _ = _; kernel_rfl⟩
instance fk299 : KField1 Go.Proofs.Tryz.prog 37 3 3 1 := ⟨by show _ = _; kernel_rfl⟩
instance fk300 : KConc Go.Proofs.Tryz.prog 37 := ⟨by show _ = _; kernel_rfl⟩
instance fk301 : KSome Go.Proofs.Tryz.prog 38 := ⟨by show _ = _; kernel_rfl⟩
instance fk302 : KInfo Go.Proofs.Tryz.prog 38 [.int .i64 0, .bool false, .int .i64 0, .int .u32 0] 4 32 := ⟨by show _ = _; kernel_rfl⟩
instance fk303 : KSize Go.Proofs.Tryz.prog 38 4 := ⟨by show _ = _; kernel_rfl⟩
instance fk304 : KAgg Go.Proofs.Tryz.prog 38 4 := ⟨by show _ = _; kernel_rfl⟩
instance fk305 : KStruct Go.Proofs.Tryz.prog 38 [.int .i64 0, .bool false, .int .i64 0, .int .u32 0] [(0, 1), (1, 1), (2, 1), (3, 1)] := ⟨by show _ = _; kernel_rfl⟩
instance fk306 : KFieldOff Go.Proofs.Tryz.prog 38 0 0 := ⟨by show _ = _; kernel_rfl⟩
instance fk307 : KField1 Go.Proofs.Tryz.prog 38 0 0 1 := ⟨by show _ = _; kernel_rfl⟩
instance fk308 : KFieldOff Go.Proofs.Tryz.prog 38 1 1 := ⟨by show _ = _; kernel_rfl⟩
instance fk309 : KField1 Go.Proofs.Tryz.prog 38 1 1 1 := ⟨by show _ = _; kernel_rfl⟩
instance fk310 : KFieldOff Go.Proofs.Tryz.prog 38 2 2 := ⟨by show _ = _; kernel_rfl⟩
instance fk311 : KField1 Go.Proofs.Tryz.prog 38 2 2 1 := ⟨by show _ = _; kernel_rfl⟩
instance fk312 : KFieldOff Go.Proofs.Tryz.prog 38 3 3 := ⟨by show _ = _; kernel_rfl⟩
instance fk313 : KField1 Go.Proofs.Tryz.prog 38 3 3 1 := ⟨by show _ = _; kernel_rfl⟩
instance fk314 : KConc Go.Proofs.Tryz.prog 38 := ⟨by show _ = _; kernel_rfl⟩
instance fk315 : KUnd Go.Proofs.Tryz.prog 39 (.slice 111) := ⟨by show _ = _; kernel_rfl⟩
instance fk316 : KSome Go.Proofs.Tryz.prog 39 := ⟨by show _ = _; kernel_rfl⟩
instance fk317 : KInfo Go.Proofs.Tryz.prog 39 [.slice none 0 0] 1 24 := ⟨by show _ = _; kernel_rfl⟩
instance fk318 : KSize Go.Proofs.Tryz.prog 39 1 := ⟨by show _ = _; kernel_rfl⟩
instance fk319 : KOne Go.Proofs.Tryz.prog 39 := ⟨by show _ = _; kernel_rfl⟩
instance fk320 : KZero Go.Proofs.Tryz.prog 39 (.slice none 0 0) := ⟨by show _ = _; kernel_rfl⟩
instance fk321 : KSlice Go.Proofs.Tryz.prog 39 111 6 := ⟨⟨by kernel_rfl, by kernel_rfl⟩⟩
instance fk322 : KConc Go.Proofs.Tryz.prog 39 := ⟨by show _ = _; kernel_rfl⟩
instance fk323 : KSome Go.Proofs.Tryz.prog 40 := ⟨by show _ = _; kernel_rfl⟩
instance fk324 : KInfo Go.Proofs.Tryz.prog 40 [.slice none 0 0, .bool false, .string ⟨⟨[]⟩⟩, .int .i64 0] 4 56 := ⟨by show _ = _; kernel_rfl⟩
instance fk325 : KSize Go.Proofs.Tryz.prog 40 4 := ⟨by show _ = _; kernel_rfl⟩
instance fk326 : KAgg Go.Proofs.Tryz.prog 40 4 := ⟨by show _ = _; kernel_rfl⟩
instance fk327 : KStruct Go.Proofs.Tryz.prog 40 [.slice none 0 0, .bool false, .string ⟨⟨[]⟩⟩, .int .i64 0] [(0, 1), (1, 1), (2, 1), (3, 1)] := ⟨by show _ = _; kernel_rfl⟩
instance fk328 : KFieldOff Go.Proofs.Tryz.prog 40 0 0 := ⟨by show _ = _; kernel_rfl⟩
instance fk329 : KField1 Go.Proofs.Tryz.prog 40 0 0 1 := ⟨by show _ = _; kernel_rfl⟩
instance fk330 : KFieldOff Go.Proofs.Tryz.prog 40 1 1 := ⟨by show _ = _; kernel_rfl⟩
instance fk331 : KField1 Go.Proofs.Tryz.prog 40 1 1 1 := ⟨by show _ = _; kernel_rfl⟩
instance fk332 : KFieldOff Go.Proofs.Tryz.prog 40 2 2 := ⟨by show _ = _; kernel_rfl⟩
instance fk333 : KField1 Go.Proofs.Tryz.prog 40 2 2 1 := ⟨by show _ = _; kernel_rfl⟩
instance fk334 : KFieldOff Go.Proofs.Tryz.prog 40 3 3 := ⟨by show _ = _; kernel_rfl⟩
instance fk335 : KField1 Go.Proofs.Tryz.prog 40 3 3 1 := ⟨by show _ = _; kernel_rfl⟩
instance fk336 : KConc Go.Proofs.Tryz.prog 40 := ⟨by show _ = _; kernel_rfl⟩
instance fk337 : KSome Go.Proofs.Tryz.prog 41 := ⟨by show _ = _; kernel_rfl⟩
instance fk338 : KInfo Go.Proofs.Tryz.prog 41 [.slice none 0 0, .bool false, .string ⟨⟨[]⟩⟩, .int .i64 0] 4 56 := ⟨by show _ = _; kernel_rfl⟩
instance fk339 : KSize Go.Proofs.Tryz.prog 41 4 := ⟨by show _ = _; kernel_rfl⟩
instance fk340 : KAgg Go.Proofs.Tryz.prog 41 4 := ⟨by show _ = _; kernel_rfl⟩
instance fk341 : KStruct Go.Proofs.Tryz.prog 41 [.slice none 0 0, .bool false, .string ⟨⟨[]⟩⟩, .int .i64 0] [(0, 1), (1, 1), (2, 1), (3, 1)] := ⟨by show _ = _; kernel_rfl⟩
instance fk342 : KFieldOff Go.Proofs.Tryz.prog 41 0 0 := ⟨by show _ = _; kernel_rfl⟩
instance fk343 : KField1 Go.Proofs.Tryz.prog 41 0 0 1 := ⟨by show _ = _; kernel_rfl⟩
instance fk344 : KFieldOff Go.Proofs.Tryz.prog 41 1 1 := ⟨by show _ = _; kernel_rfl⟩
instance fk345 : KField1 Go.Proofs.Tryz.prog 41 1 1 1 := ⟨by show _ = _; kernel_rfl⟩
instance fk346 : KFieldOff Go.Proofs.Tryz.prog 41 2 2 := ⟨by show _ = _; kernel_rfl⟩
instance fk347 : KField1 Go.Proofs.Tryz.prog 41 2 2 1 := ⟨by show _ = _; kernel_rfl⟩
instance fk348 : KFieldOff Go.Proofs.Tryz.prog 41 3 3 := ⟨by show _ = _; kernel_rfl⟩
instance fk349 : KField1 Go.Proofs.Tryz.prog 41 3 3 1 := ⟨by show _ = _; kernel_rfl⟩
instance fk350 : KConc Go.Proofs.Tryz.prog 41 := ⟨by show _ = _; kernel_rfl⟩
instance fk351 : KUnd Go.Proofs.Tryz.prog 42 (.slice 9) := ⟨by show _ = _; kernel_rfl⟩
instance fk352 : KSome Go.Proofs.Tryz.prog 42 := ⟨by show _ = _; kernel_rfl⟩
instance fk353 : KInfo Go.Proofs.Tryz.prog 42 [.slice none 0 0] 1 24 := ⟨by show _ = _; kernel_rfl⟩
instance fk354 : KSize Go.Proofs.Tryz.prog 42 1 := ⟨by show _ = _; kernel_rfl⟩
instance fk355 : KOne Go.Proofs.Tryz.prog 42 := ⟨by show _ = _; kernel_rfl⟩
instance fk356 : KZero Go.Proofs.Tryz.prog 42 (.slice none 0 0) := ⟨by show _ = _; kernel_rfl⟩
instance fk357 : KSlice Go.Proofs.Tryz.prog 42 9 1 := ⟨⟨by kernel_rfl, by kernel_rfl⟩⟩
instance fk358 : KConc Go.Proofs.Tryz.prog 42 := ⟨by show _ = _; kernel_rfl⟩
instance fk359 : KSome Go.Proofs.Tryz.prog 43 := ⟨by show _ = _; kernel_rfl⟩
instance fk360 : KInfo Go.Proofs.Tryz.prog 43 [.int .i64 0, .int .i64 0, .bool false, .int .i64 0, .int .u32 0, .slice none 0 0, .slice none 0 0, .bool false, .string ⟨⟨[]⟩⟩, .int .i64 0, .slice none 0 0] 11 144 := ⟨by show _ = _; kernel_rfl⟩
instance fk361 : KSize Go.Proofs.Tryz.prog 43 11 := ⟨by show _ = _; kernel_rfl⟩
instance fk362 : KAgg Go.Proofs.Tryz.prog 43 11 := ⟨by show _ = _; kernel_rfl⟩
instance fk363 : KStruct Go.Proofs.Tryz.prog 43 [.int .i64 0, .int .i64 0, .bool false, .int .i64 0, .int .u32 0, .slice none 0 0, .slice none 0 0, .bool false, .string ⟨⟨[]⟩⟩, .int .i64 0, .slice none 0 0] [(0, 1), (1, 4), (5, 1), (6, 4), (10, 1)] := ⟨by show _ = _; kernel_rfl⟩
instance fk364 : KFieldOff Go.Proofs.Tryz.prog 43 0 0 := ⟨by show _ = _; kernel_rfl⟩
instance fk365 : KField1 Go.Proofs.Tryz.prog 43 0 0 1 := ⟨by show _ = _; kernel_rfl⟩
instance fk366 : KFieldOff Go.Proofs.Tryz.prog 43 1 1 := ⟨by show _ = _; kernel_rfl⟩
instance fk367 : KFieldA Go.Proofs.Tryz.prog 43 1 1 4 := ⟨by show _ = _; kernel_rfl⟩
instance fk368 : KFieldOff Go.Proofs.Tryz.prog 43 2 5 := ⟨by show _ = _; kernel_rfl⟩
instance fk369 : KField1 Go.Proofs.Tryz.prog 43 2 5 1 := ⟨by show _ = _; kernel_rfl⟩
instance fk370 : KFieldOff Go.Proofs.Tryz.prog 43 3 6 := ⟨by show _ = _; kernel_rfl⟩
instance fk371 : KFieldA Go.Proofs.Tryz.prog 43 3 6 4 := ⟨by show _ = _; kernel_rfl⟩
instance fk372 : KFieldOff Go.Proofs.Tryz.prog 43 4 10 := ⟨by show _ = _; kernel_rfl⟩
instance fk373 : KField1 Go.Proofs.Tryz.prog 43 4 10 1 := ⟨by show _ = _; kernel_rfl⟩
instance fk374 : KConc Go.Proofs.Tryz.prog 43 := ⟨by show _ = _; kernel_rfl⟩
instance fk375 : KSome Go.Proofs.Tryz.prog 44 := ⟨by show _ = _; kernel_rfl⟩
instance fk376 : KInfo Go.Proofs.Tryz.prog 44 [.int .i64 0, .int .i64 0, .bool false, .int .i64 0, .int .u32 0, .slice none 0 0, .slice none 0 0, .bool false, .string ⟨⟨[]⟩⟩, .int .i64 0, .slice none 0 0] 11 144 := ⟨by show _ = _; kernel_rfl⟩
instance fk377 : KSize Go.Proofs.Tryz.prog 44 11 := ⟨by show _ = _; kernel_rfl⟩
instance fk378 : KAgg Go.Proofs.Tryz.prog 44 11 := ⟨by show _ = _; kernel_rfl⟩
instance fk379 : KStruct Go.Proofs.Tryz.prog 44 [.int .i64 0, .int .i64 0, .bool false, .int .i64 0, .int .u32 0, .slice none 0 0, .slice none 0 0, .bool false, .string ⟨⟨[]⟩⟩, .int .i64 0, .slice none 0 0] [(0, 1), (1, 4), (5, 1), (6, 4), (10, 1)] := ⟨by show _ = _; kernel_rfl⟩
instance fk380 : KFieldOff Go.Proofs.Tryz.prog 44 0 0 := ⟨by show _ = _; kernel_rfl⟩
instance fk381 : KField1 Go.Proofs.Tryz.prog 44 0 0 1 := ⟨by show _ = _; kernel_rfl⟩
instance fk382 : KFieldOff Go.Proofs.Tryz.prog 44 1 1 := ⟨by show _ = _; kernel_rfl⟩
instance fk383 : KFieldA Go.Proofs.Tryz.prog 44 1 1 4 := ⟨by show _ = _; kernel_rfl⟩
instance fk384 : KFieldOff Go.Proofs.Tryz.prog 44 2 5 := ⟨by show _ = _; kernel_rfl⟩
instance fk385 : KField1 Go.Proofs.Tryz.prog 44 2 5 1 := ⟨by show _ = _; kernel_rfl⟩
instance fk386 : KFieldOff Go.Proofs.Tryz.prog 44 3 6 := ⟨by show _ = _; kernel_rfl⟩
instance fk387 : KFieldA Go.Proofs.Tryz.prog 44 3 6 4 := ⟨by show _ = _; kernel_rfl⟩
instance fk388 : KFieldOff Go.Proofs.Tryz.prog 44 4 10 := ⟨by show _ = _; kernel_rfl⟩
instance fk389 : KField1 Go.Proofs.Tryz.prog 44 4 10 1 := ⟨by show _ = _; kernel_rfl⟩
instance fk390 : KConc Go.Proofs.Tryz.prog 44 := ⟨by show _ = _; kernel_rfl⟩
instance fk391 : KInfo Go.Proofs.Tryz.prog 45 [.nilFunc] 1 8 := ⟨by show _ = _; kernel_rfl⟩
instance fk392 : KSize Go.Proofs.Tryz.prog 45 1 := ⟨by show _ = _; kernel_rfl⟩
instance fk393 : KOne Go.Proofs.Tryz.prog 45 := ⟨by show _ = _; kernel_rfl⟩
instance fk394 : KInfo Go.Proofs.Tryz.prog 46 [.nilFunc] 1 8 := ⟨by show _ = _; kernel_rfl⟩
instance fk395 : KSize Go.Proofs.Tryz.prog 46 1 := ⟨by show _ = _; kernel_rfl⟩
instance fk396 : KOne Go.Proofs.Tryz.prog 46 := ⟨by show _ = _; kernel_rfl⟩
instance fk397 : KInfo Go.Proofs.Tryz.prog 47 [.nilFunc] 1 8 := ⟨by show _ = _; kernel_rfl⟩
instance fk398 : KSize Go.Proofs.Tryz.prog 47 1 := ⟨by show _ = _; kernel_rfl⟩
instance fk399 : KOne Go.Proofs.Tryz.prog 47 := ⟨by show _ = _; kernel_rfl⟩
instance fk400 : KInfo Go.Proofs.Tryz.prog 48 [.nilFunc] 1 8 := ⟨by show _ = _; kernel_rfl⟩
instance fk401 : KSize Go.Proofs.Tryz.prog 48 1 := ⟨by show _ = _; kernel_rfl⟩
instance fk402 : KOne Go.Proofs.Tryz.prog 48 := ⟨by show _ = _; kernel_rfl⟩
instance fk403 : KUnd Go.Proofs.Tryz.prog 49 (.int .i64) := ⟨by show _ = _; kernel_rfl⟩
instance fk404 : KSome Go.Proofs.Tryz.prog 49 := ⟨by show _ = _; kernel_rfl⟩
instance fk405 : KInfo Go.Proofs.Tryz.prog 49 [.int .i64 0] 1 8 := ⟨by show _ = _; kernel_rfl⟩
instance fk406 : KSize Go.Proofs.Tryz.prog 49 1 := ⟨by show _ = _; kernel_rfl⟩
instance fk407 : KOne Go.Proofs.Tryz.prog 49 := ⟨by show _ = _; kernel_rfl⟩
instance fk408 : KZero Go.Proofs.Tryz.prog 49 (.int .i64 0) := ⟨by show _ = _; kernel_rfl⟩
instance fk409 : KConc Go.Proofs.Tryz.prog 49 := ⟨by show _ = _; kernel_rfl⟩
instance fk410 : KInfo Go.Proofs.Tryz.prog 50 [.nilFunc] 1 8 := ⟨by show _ = _; kernel_rfl⟩
instance fk411 : KSize Go.Proofs.Tryz.prog 50 1 := ⟨by show _ = _; kernel_rfl⟩
instance fk412 : KOne Go.Proofs.Tryz.prog 50 := ⟨by show _ = _; kernel_rfl⟩
instance fk413 : KInfo Go.Proofs.Tryz.prog 52 [.nilFunc] 1 8 := ⟨by show _ = _; kernel_rfl⟩
instance fk414 : KSize Go.Proofs.Tryz.prog 52 1 := ⟨by show _ = _; kernel_rfl⟩
instance fk415 : KOne Go.Proofs.Tryz.prog 52 := ⟨by show _ = _; kernel_rfl⟩
instance fk416 : KInfo Go.Proofs.Tryz.prog 53 [.nilFunc] 1 8 := ⟨by show _ = _; kernel_rfl⟩
instance fk417 : KSize Go.Proofs.Tryz.prog 53 1 := ⟨by show _ = _; kernel_rfl⟩
instance fk418 : KOne Go.Proofs.Tryz.prog 53 := ⟨by show _ = _; kernel_rfl⟩
instance fk419 : KInfo Go.Proofs.Tryz.prog 54 [.nilFunc] 1 8 := ⟨by show _ = _; kernel_rfl⟩
instance fk420 : KSize Go.Proofs.Tryz.prog 54 1 := ⟨by show _ = _; kernel_rfl⟩
instance fk421 : KOne Go.Proofs.Tryz.prog 54 := ⟨by show _ = _; kernel_rfl⟩
instance fk422 : KInfo Go.Proofs.Tryz.prog 56 [.nilFunc] 1 8 := ⟨by show _ = _; kernel_rfl⟩
instance fk423 : KSize Go.Proofs.Tryz.prog 56 1 := ⟨by show _ = _; kernel_rfl⟩
instance fk424 : KOne Go.Proofs.Tryz.prog 56 := ⟨by show _ = _; kernel_rfl⟩
instance fk425 : KUnd Go.Proofs.Tryz.prog 57 (.map 9 63) := ⟨by show _ = _; kernel_rfl⟩
instance fk426 : KSome Go.Proofs.Tryz.prog 57 := ⟨by show _ = _; kernel_rfl⟩
instance fk427 : KInfo Go.Proofs.Tryz.prog 57 [.map none] 1 8 := ⟨by show _ = _; kernel_rfl⟩
instance fk428 : KSize Go.Proofs.Tryz.prog 57 1 := ⟨by show _ = _; kernel_rfl⟩
instance fk429 : KOne Go.Proofs.Tryz.prog 57 := ⟨by show _ = _; kernel_rfl⟩
instance fk430 : KZero Go.Proofs.Tryz.prog 57 (.map none) := ⟨by show _ = _; kernel_rfl⟩
instance fk431 : KConc Go.Proofs.Tryz.prog 57 := ⟨by show _ = _; kernel_rfl⟩
instance fk432 : KSome Go.Proofs.Tryz.prog 58 := ⟨by show _ = _; kernel_rfl⟩
instance fk433 : KInfo Go.Proofs.Tryz.prog 58 [.map none] 1 8 := ⟨by show _ = _; kernel_rfl⟩
instance fk434 : KSize Go.Proofs.Tryz.prog 58 1 := ⟨by show _ = _; kernel_rfl⟩
instance fk435 : KAgg Go.Proofs.Tryz.prog 58 1 := ⟨by show _ = _; kernel_rfl⟩
instance fk436 : KStruct Go.Proofs.Tryz.prog 58 [.map none] [(0, 1)] := ⟨by show _ = _; kernel_rfl⟩
instance fk437 : KFieldOff Go.Proofs.Tryz.prog 58 0 0 := ⟨by show _ = _; kernel_rfl⟩
instance fk438 : KField1 Go.Proofs.Tryz.prog 58 0 0 1 := ⟨by show _ = _; kernel_rfl⟩
instance fk439 : KConc Go.Proofs.Tryz.prog 58 := ⟨by show _ = _; kernel_rfl⟩
instance fk440 : KSome Go.Proofs.Tryz.prog 59 := ⟨by show _ = _; kernel_rfl⟩
instance fk441 : KInfo Go.Proofs.Tryz.prog 59 [.map none] 1 8 := ⟨by show _ = _; kernel_rfl⟩
instance fk442 : KSize Go.Proofs.Tryz.prog 59 1 := ⟨by show _ = _; kernel_rfl⟩
instance fk443 : KAgg Go.Proofs.Tryz.prog 59 1 := ⟨by show _ = _; kernel_rfl⟩
instance fk444 : KStruct Go.Proofs.Tryz.prog 59 [.map none] [(0, 1)] := ⟨by show _ = _; kernel_rfl⟩
instance fk445 : KFieldOff Go.Proofs.Tryz.prog 59 0 0 := ⟨by show _ = _; kernel_rfl⟩
instance fk446 : KField1 Go.Proofs.Tryz.prog 59 0 0 1 := ⟨by show _ = _; kernel_rfl⟩
instance fk447 : KConc Go.Proofs.Tryz.prog 59 := ⟨by show _ = _; kernel_rfl⟩
instance fk448 : KUnd Go.Proofs.Tryz.prog 60 (.slice 71) := ⟨by show _ = _; kernel_rfl⟩
instance fk449 : KSome Go.Proofs.Tryz.prog 60 := ⟨by show _ = _; kernel_rfl⟩
instance fk450 : KInfo Go.Proofs.Tryz.prog 60 [.slice none 0 0] 1 24 := ⟨by show _ = _; kernel_rfl⟩
instance fk451 : KSize Go.Proofs.Tryz.prog 60 1 := ⟨by show _ = _; kernel_rfl⟩
instance fk452 : KOne Go.Proofs.Tryz.prog 60 := ⟨by show _ = _; kernel_rfl⟩
instance fk453 : KZero Go.Proofs.Tryz.prog 60 (.slice none 0 0) := ⟨by show _ = _; kernel_rfl⟩
instance fk454 : KSlice Go.Proofs.Tryz.prog 60 71 4 := ⟨⟨by kernel_rfl, by kernel_rfl⟩⟩
instance fk455 : KConc Go.Proofs.Tryz.prog 60 := ⟨by show _ = _; kernel_rfl⟩
instance fk456 : KSome Go.Proofs.Tryz.prog 61 := ⟨by show _ = _; kernel_rfl⟩
instance fk457 : KInfo Go.Proofs.Tryz.prog 61 [.slice none 0 0, .slice none 0 0] 2 48 := ⟨by show _ = _; kernel_rfl⟩
instance fk458 : KSize Go.Proofs.Tryz.prog 61 2 := ⟨by show _ = _; kernel_rfl⟩
instance fk459 : KAgg Go.Proofs.Tryz.prog 61 2 := ⟨by show _ = _; kernel_rfl⟩
instance fk460 : KStruct Go.Proofs.Tryz.prog 61 [.slice none 0 0, .slice none 0 0] [(0, 1), (1, 1)] := ⟨by show _ = _; kernel_rfl⟩
instance fk461 : KFieldOff Go.Proofs.Tryz.prog 61 0 0 := ⟨by show _ = _; kernel_rfl⟩
instance fk462 : KField1 Go.Proofs.Tryz.prog 61 0 0 1 := ⟨by show _ = _; kernel_rfl⟩
instance fk463 : KFieldOff Go.Proofs.Tryz.prog 61 1 1 := ⟨by show _ = _; kernel_rfl⟩
instance fk464 : KField1 Go.Proofs.Tryz.prog 61 1 1 1 := ⟨by show _ = _; kernel_rfl⟩
instance fk465 : KConc Go.Proofs.Tryz.prog 61 := ⟨by show _ = _; kernel_rfl⟩
instance fk466 : KSome Go.Proofs.Tryz.prog 62 := ⟨by show _ = _; kernel_rfl⟩
instance fk467 : KInfo Go.Proofs.Tryz.prog 62 [.slice none 0 0, .slice none 0 0] 2 48 := ⟨by show _ = _; kernel_rfl⟩
instance fk468 : KSize Go.Proofs.Tryz.prog 62 2 := ⟨by show _ = _; kernel_rfl⟩
instance fk469 : KAgg Go.Proofs.Tryz.prog 62 2 := ⟨by show _ = _; kernel_rfl⟩
instance fk470 : KStruct Go.Proofs.Tryz.prog 62 [.slice none 0 0, .slice none 0 0] [(0, 1), (1, 1)] := ⟨by show _ = _; kernel_rfl⟩
instance fk471 : KFieldOff Go.Proofs.Tryz.prog 62 0 0 := ⟨by show _ = _; kernel_rfl⟩
instance fk472 : KField1 Go.Proofs.Tryz.prog 62 0 0 1 := ⟨by show _ = _; kernel_rfl⟩
instance fk473 : KFieldOff Go.Proofs.Tryz.prog 62 1 1 := ⟨by show _ = _; kernel_rfl⟩
instance fk474 : KField1 Go.Proofs.Tryz.prog 62 1 1 1 := ⟨by show _ = _; kernel_rfl⟩
instance fk475 : KConc Go.Proofs.Tryz.prog 62 := ⟨by show _ = _; kernel_rfl⟩
instance fk476 : KUnd Go.Proofs.Tryz.prog 63 (.map 9 64) := ⟨by show _ = _; kernel_rfl⟩
instance fk477 : KSome Go.Proofs.Tryz.prog 63 := ⟨by show _ = _; kernel_rfl⟩
instance fk478 : KInfo Go.Proofs.Tryz.prog 63 [.map none] 1 8 := ⟨by show _ = _; kernel_rfl⟩
instance fk479 : KSize Go.Proofs.Tryz.prog 63 1 := ⟨by show _ = _; kernel_rfl⟩
instance fk480 : KOne Go.Proofs.Tryz.prog 63 := ⟨by show _ = _; kernel_rfl⟩
instance fk481 : KZero Go.Proofs.Tryz.prog 63 (.map none) := ⟨by show _ = _; kernel_rfl⟩
instance fk482 : KConc Go.Proofs.Tryz.prog 63 := ⟨by show _ = _; kernel_rfl⟩
instance fk483 : KUnd Go.Proofs.Tryz.prog 64 (.slice 67) := ⟨by show _ = _; kernel_rfl⟩
instance fk484 : KSome Go.Proofs.Tryz.prog 64 := ⟨by show _ = _; kernel_rfl⟩
instance fk485 : KInfo Go.Proofs.Tryz.prog 64 [.slice none 0 0] 1 24 := ⟨by show _ = _; kernel_rfl⟩
instance fk486 : KSize Go.Proofs.Tryz.prog 64 1 := ⟨by show _ = _; kernel_rfl⟩
instance fk487 : KOne Go.Proofs.Tryz.prog 64 := ⟨by show _ = _; kernel_rfl⟩
instance fk488 : KZero Go.Proofs.Tryz.prog 64 (.slice none 0 0) := ⟨by show _ = _; kernel_rfl⟩
instance fk489 : KSlice Go.Proofs.Tryz.prog 64 67 5 := ⟨⟨by kernel_rfl, by kernel_rfl⟩⟩
instance fk490 : KConc Go.Proofs.Tryz.prog 64 := ⟨by show _ = _; kernel_rfl⟩
instance fk491 : KInfo Go.Proofs.Tryz.prog 65 [.nilFunc] 1 8 := ⟨by show _ = _; kernel_rfl⟩
instance fk492 : KSize Go.Proofs.Tryz.prog 65 1 := ⟨by show _ = _; kernel_rfl⟩
instance fk493 : KOne Go.Proofs.Tryz.prog 65 := ⟨by show _ = _; kernel_rfl⟩
instance fk494 : KSome Go.Proofs.Tryz.prog 66 := ⟨by show _ = _; kernel_rfl⟩
instance fk495 : KInfo Go.Proofs.Tryz.prog 66 [.int .i64 0, .bool false, .int .i64 0, .int .u32 0, .slice none 0 0] 5 56 := ⟨by show _ = _; kernel_rfl⟩
instance fk496 : KSize Go.Proofs.Tryz.prog 66 5 := ⟨by show _ = _; kernel_rfl⟩
instance fk497 : KAgg Go.Proofs.Tryz.prog 66 5 := ⟨by show _ = _; kernel_rfl⟩
instance fk498 : KStruct Go.Proofs.Tryz.prog 66 [.int .i64 0, .bool false, .int .i64 0, .int .u32 0, .slice none 0 0] [(0, 4), (4, 1)] := ⟨by show _ = _; kernel_rfl⟩
instance fk499 : KFieldOff Go.Proofs.Tryz.prog 66 0 0 := ⟨by show _ = _; kernel_rfl⟩
instance fk500 : KFieldA Go.Proofs.Tryz.prog 66 0 0 4 := ⟨by show _ = _; kernel_rfl⟩
instance fk501 : KFieldOff Go.Proofs.Tryz.prog 66 1 4 := ⟨by show _ = _; kernel_rfl⟩
instance fk502 : KField1 Go.Proofs.Tryz.prog 66 1 4 1 := ⟨by show _ = _; kernel_rfl⟩
instance fk503 : KConc Go.Proofs.Tryz.prog 66 := ⟨by show _ = _; kernel_rfl⟩
instance fk504 : KSome Go.Proofs.Tryz.prog 67 := ⟨by show _ = _; kernel_rfl⟩
instance fk505 : KInfo Go.Proofs.Tryz.prog 67 [.int .i64 0, .bool false, .int .i64 0, .int .u32 0, .slice none 0 0] 5 56 := ⟨by show _ = _; kernel_rfl⟩
instance fk506 : KSize Go.Proofs.Tryz.prog 67 5 := ⟨by show _ = _; kernel_rfl⟩
instance fk507 : KAgg Go.Proofs.Tryz.prog 67 5 := ⟨by show _ = _; kernel_rfl⟩
instance fk508 : KStruct Go.Proofs.Tryz.prog 67 [.int .i64 0, .bool false, .int .i64 0, .int .u32 0, .slice none 0 0] [(0, 4), (4, 1)] := ⟨by show _ = _; kernel_rfl⟩
instance fk509 : KFieldOff Go.Proofs.Tryz.prog 67 0 0 := ⟨by show _ = _; kernel_rfl⟩
instance fk510 : KFieldA Go.Proofs.Tryz.prog 67 0 0 4 := ⟨by show _ = _; kernel_rfl⟩
instance fk511 : KFieldOff Go.Proofs.Tryz.prog 67 1 4 := ⟨by show _ = _; kernel_rfl⟩
instance fk512 : KField1 Go.Proofs.Tryz.prog 67 1 4 1 := ⟨by show _ = _; kernel_rfl⟩
instance fk513 : KConc Go.Proofs.Tryz.prog 67 := ⟨by show _ = _; kernel_rfl⟩
instance fk514 : KUnd Go.Proofs.Tryz.prog 68 (.slice 38) := ⟨by show _ = _; kernel_rfl⟩
instance fk515 : KSome Go.Proofs.Tryz.prog 68 := ⟨by show _ = _; kernel_rfl⟩
instance fk516 : KInfo Go.Proofs.Tryz.prog 68 [.slice none 0 0] 1 24 := ⟨by show _ = _; kernel_rfl⟩
instance fk517 : KSize Go.Proofs.Tryz.prog 68 1 := ⟨by show _ = _; kernel_rfl⟩
instance fk518 : KOne Go.Proofs.Tryz.prog 68 := ⟨by show _ = _; kernel_rfl⟩
instance fk519 : KZero Go.Proofs.Tryz.prog 68 (.slice none 0 0) := ⟨by show _ = _; kernel_rfl⟩
instance fk520 : KSlice Go.Proofs.Tryz.prog 68 38 4 := ⟨⟨by kernel_rfl, by kernel_rfl⟩⟩
instance fk521 : KConc Go.Proofs.Tryz.prog 68 := ⟨by show _ = _; kernel_rfl⟩
instance fk522 : KUnd Go.Proofs.Tryz.prog 69 (.slice 30) := ⟨by show _ = _; kernel_rfl⟩
instance fk523 : KSome Go.Proofs.Tryz.prog 69 := ⟨by show _ = _; kernel_rfl⟩
instance fk524 : KInfo Go.Proofs.Tryz.prog 69 [.slice none 0 0] 1 24 := ⟨by show _ = _; kernel_rfl⟩
instance fk525 : KSize Go.Proofs.Tryz.prog 69 1 := ⟨by show _ = _; kernel_rfl⟩
instance fk526 : KOne Go.Proofs.Tryz.prog 69 := ⟨by show _ = _; kernel_rfl⟩
instance fk527 : KZero Go.Proofs.Tryz.prog 69 (.slice none 0 0) := ⟨by show _ = _; kernel_rfl⟩
instance fk528 : KSlice Go.Proofs.Tryz.prog 69 30 1 := ⟨⟨by kernel_rfl, by kernel_rfl⟩⟩
instance fk529 : KConc Go.Proofs.Tryz.prog 69 := ⟨by show _ = _; kernel_rfl⟩
instance fk530 : KSome Go.Proofs.Tryz.prog 70 := ⟨by show _ = _; kernel_rfl⟩
instance fk531 : KInfo Go.Proofs.Tryz.prog 70 [.string ⟨⟨[]⟩⟩, .string ⟨⟨[]⟩⟩, .slice none 0 0, .slice none 0 0] 4 80 := ⟨by show _ = _; kernel_rfl⟩
instance fk532 : KSize Go.Proofs.Tryz.prog 70 4 := ⟨by show _ = _; kernel_rfl⟩
instance fk533 : KAgg Go.Proofs.Tryz.prog 70 4 := ⟨by show _ = _; kernel_rfl⟩
instance fk534 : KStruct Go.Proofs.Tryz.prog 70 [.string ⟨⟨[]⟩⟩, .string ⟨⟨[]⟩⟩, .slice none 0 0, .slice none 0 0] [(0, 1), (1, 1), (2, 1), (3, 1)] := ⟨by show _ = _; kernel_rfl⟩
instance fk535 : KFieldOff Go.Proofs.Tryz.prog 70 0 0 := ⟨by show _ = _; kernel_rfl⟩
instance fk536 : KField1 Go.Proofs.Tryz.prog 70 0 0 1 := ⟨by show _ = _; kernel_rfl⟩
instance fk537 : KFieldOff Go.Proofs.Tryz.prog 70 1 1 := ⟨by show _ = _; kernel_rfl⟩
instance fk538 : KField1 Go.Proofs.Tryz.prog 70 1 1 1 := ⟨by show _ = _; kernel_rfl⟩
instance fk539 : KFieldOff Go.Proofs.Tryz.prog 70 2 2 := ⟨by show _ = _; kernel_rfl⟩
instance fk540 : KField1 Go.Proofs.Tryz.prog 70 2 2 1 := ⟨by show _ = _; kernel_rfl⟩
instance fk541 : KFieldOff Go.Proofs.Tryz.prog 70 3 3 := ⟨by show _ = _; kernel_rfl⟩
instance fk542 : KField1 Go.Proofs.Tryz.prog 70 3 3 1 := ⟨by show _ = _; kernel_rfl⟩
instance fk543 : KConc Go.Proofs.Tryz.prog 70 := ⟨by show _ = _; kernel_rfl⟩
instance fk544 : KSome Go.Proofs.Tryz.prog 71 := ⟨by show _ = _; kernel_rfl⟩
instance fk545 : KInfo Go.Proofs.Tryz.prog 71 [.string ⟨⟨[]⟩⟩, .string ⟨⟨[]⟩⟩, .slice none 0 0, .slice none 0 0] 4 80 := ⟨by show _ = _; kernel_rfl⟩
instance fk546 : KSize Go.Proofs.Tryz.prog 71 4 := ⟨by show _ = _; kernel_rfl⟩
instance fk547 : KAgg Go.Proofs.Tryz.prog 71 4 := ⟨by show _ = _; kernel_rfl⟩
instance fk548 : KStruct Go.Proofs.Tryz.prog 71 [.string ⟨⟨[]⟩⟩, .string ⟨⟨[]⟩⟩, .slice none 0 0, .slice none 0 0] [(0, 1), (1, 1), (2, 1), (3, 1)] := ⟨by show _ = _; kernel_rfl⟩
instance fk549 : KFieldOff Go.Proofs.Tryz.prog 71 0 0 := ⟨by show _ = _; kernel_rfl⟩
instance fk550 : KField1 Go.Proofs.Tryz.prog 71 0 0 1 := ⟨by show _ = _; kernel_rfl⟩
instance fk551 : KFieldOff Go.Proofs.Tryz.prog 71 1 1 := ⟨by show _ = _; kernel_rfl⟩
instance fk552 : KField1 Go.Proofs.Tryz.prog 71 1 1 1 := ⟨by show _ = _; kernel_rfl⟩
instance fk553 : KFieldOff Go.Proofs.Tryz.prog 71 2 2 := ⟨by show _ = _; kernel_rfl⟩
instance fk554 : KField1 Go.Proofs.Tryz.prog 71 2 2 1 := ⟨by show _ = _; kernel_rfl⟩
instance fk555 : KFieldOff Go.Proofs.Tryz.prog 71 3 3 := ⟨by show _ = _; kernel_rfl⟩
instance fk556 : KField1 Go.Proofs.Tryz.prog 71 3 3 1 := ⟨by show _ = _; kernel_rfl⟩
instance fk557 : KConc Go.Proofs.Tryz.prog 71 := ⟨by show _ = _; kernel_rfl⟩
instance fk558 : KInfo Go.Proofs.Tryz.prog 72 [.nilFunc] 1 8 := ⟨by show _ = _; kernel_rfl⟩
instance fk559 : KSize Go.Proofs.Tryz.prog 72 1 := ⟨by show _ = _; kernel_rfl⟩
instance fk560 : KOne Go.Proofs.Tryz.prog 72 := ⟨by show _ = _; kernel_rfl⟩
instance fk561 : KInfo Go.Proofs.Tryz.prog 73 [.nilFunc] 1 8 := ⟨by show _ = _; kernel_rfl⟩
instance fk562 : KSize Go.Proofs.Tryz.prog 73 1 := ⟨by show _ = _; kernel_rfl⟩
instance fk563 : KOne Go.Proofs.Tryz.prog 73 := ⟨by show _ = _; kernel_rfl⟩
instance fk564 : KInfo Go.Proofs.Tryz.prog 74 [.nilFunc] 1 8 := ⟨by show _ = _; kernel_rfl⟩
instance fk565 : KSize Go.Proofs.Tryz.prog 74 1 := ⟨by show _ = _; kernel_rfl⟩
instance fk566 : KOne Go.Proofs.Tryz.prog 74 := ⟨by show _ = _; kernel_rfl⟩
instance fk567 : KInfo Go.Proofs.Tryz.prog 75 [.nilFunc] 1 8 := ⟨by show _ = _; kernel_rfl⟩
instance fk568 : KSize Go.Proofs.Tryz.prog 75 1 := ⟨by show _ = _; kernel_rfl⟩
instance fk569 : KOne Go.Proofs.Tryz.prog 75 := ⟨by show _ = _; kernel_rfl⟩
instance fk570 : KInfo Go.Proofs.Tryz.prog 76 [.nilFunc] 1 8 := ⟨by show _ = _; kernel_rfl⟩
instance fk571 : KSize Go.Proofs.Tryz.prog 76 1 := ⟨by show _ = _; kernel_rfl⟩
instance fk572 : KOne Go.Proofs.Tryz.prog 76 := ⟨by show _ = _; kernel_rfl⟩
instance fk573 : KInfo Go.Proofs.Tryz.prog 77 [.nilFunc] 1 8 := ⟨by show _ = _; kernel_rfl⟩
instance fk574 : KSize Go.Proofs.Tryz.prog 77 1 := ⟨by show _ = _; kernel_rfl⟩
instance fk575 : KOne Go.Proofs.Tryz.prog 77 := ⟨by show _ = _; kernel_rfl⟩
instance fk576 : KInfo Go.Proofs.Tryz.prog 78 [.nilFunc] 1 8 := ⟨by show _ = _; kernel_rfl⟩
instance fk577 : KSize Go.Proofs.Tryz.prog 78 1 := ⟨by show _ = _; kernel_rfl⟩
instance fk578 : KOne Go.Proofs.Tryz.prog 78 := ⟨by show _ = _; kernel_rfl⟩
instance fk579 : KInfo Go.Proofs.Tryz.prog 79 [.nilFunc] 1 8 := ⟨by show _ = _; kernel_rfl⟩
instance fk580 : KSize Go.Proofs.Tryz.prog 79 1 := ⟨by show _ = _; kernel_rfl⟩
instance fk581 : KOne Go.Proofs.Tryz.prog 79 := ⟨by show _ = _; kernel_rfl⟩
instance fk582 : KInfo Go.Proofs.Tryz.prog 80 [.nilFunc] 1 8 := ⟨by show _ = _; kernel_rfl⟩
instance fk583 : KSize Go.Proofs.Tryz.prog 80 1 := ⟨by show _ = _; kernel_rfl⟩
instance fk584 : KOne Go.Proofs.Tryz.prog 80 := ⟨by show _ = _; kernel_rfl⟩
instance fk585 : KInfo Go.Proofs.Tryz.prog 81 [.nilFunc] 1 8 := ⟨by show _ = _; kernel_rfl⟩
instance fk586 : KSize Go.Proofs.Tryz.prog 81 1 := ⟨by show _ = _; kernel_rfl⟩
instance fk587 : KOne Go.Proofs.Tryz.prog 81 := ⟨by show _ = _; kernel_rfl⟩
instance fk588 : KInfo Go.Proofs.Tryz.prog 82 [.nilFunc] 1 8 := ⟨by show _ = _; kernel_rfl⟩
instance fk589 : KSize Go.Proofs.Tryz.prog 82 1 := ⟨by show _ = _; kernel_rfl⟩
instance fk590 : KOne Go.Proofs.Tryz.prog 82 := ⟨by show _ = _; kernel_rfl⟩
instance fk591 : KInfo Go.Proofs.Tryz.prog 83 [.nilFunc] 1 8 := ⟨by show _ = _; kernel_rfl⟩
instance fk592 : KSize Go.Proofs.Tryz.prog 83 1 := ⟨by show _ = _; kernel_rfl⟩
instance fk593 : KOne Go.Proofs.Tryz.prog 83 := ⟨by show _ = _; kernel_rfl⟩
instance fk594 : KInfo Go.Proofs.Tryz.prog 84 [.nilFunc] 1 8 := ⟨by show _ = _; kernel_rfl⟩
instance fk595 : KSize Go.Proofs.Tryz.prog 84 1 := ⟨by show _ = _; kernel_rfl⟩
instance fk596 : KOne Go.Proofs.Tryz.prog 84 := ⟨by show _ = _; kernel_rfl⟩
instance fk597 : KSome Go.Proofs.Tryz.prog 85 := ⟨by show _ = _; kernel_rfl⟩
instance fk598 : KInfo Go.Proofs.Tryz.prog 85 [.slice none 0 0, .bool false, .string ⟨⟨[]⟩⟩, .int .i64 0] 4 56 := ⟨by show _ = _; kernel_rfl⟩
instance fk599 : KSize Go.Proofs.Tryz.prog 85 4 := ⟨by show _ = _; kernel_rfl⟩
instance fk600 : KAgg Go.Proofs.Tryz.prog 85 4 := ⟨by show _ = _; kernel_rfl⟩
instance fk601 : KStruct Go.Proofs.Tryz.prog 85 [.slice none 0 0, .bool false, .string ⟨⟨[]⟩⟩, .int .i64 0] [(0, 1), (1, 1), (2, 1), (3, 1)] := ⟨by show _ = _; kernel_rfl⟩
instance fk602 : KFieldOff Go.Proofs.Tryz.prog 85 0 0 := ⟨by show _ = _; kernel_rfl⟩
instance fk603 : KField1 Go.Proofs.Tryz.prog 85 0 0 1 := ⟨by show _ = _; kernel_rfl⟩
instance fk604 : KFieldOff Go.Proofs.Tryz.prog 85 1 1 := ⟨by show _ = _; kernel_rfl⟩
instance fk605 : KField1 Go.Proofs.Tryz.prog 85 1 1 1 := ⟨by show _ = _; kernel_rfl⟩
instance fk606 : KFieldOff Go.Proofs.Tryz.prog 85 2 2 := ⟨by show _ = _; kernel_rfl⟩
instance fk607 : KField1 Go.Proofs.Tryz.prog 85 2 2 1 := ⟨by show _ = _; kernel_rfl⟩
instance fk608 : KFieldOff Go.Proofs.Tryz.prog 85 3 3 := ⟨by show _ = _; kernel_rfl⟩
instance fk609 : KField1 Go.Proofs.Tryz.prog 85 3 3 1 := ⟨by show _ = _; kernel_rfl⟩
instance fk610 : KConc Go.Proofs.Tryz.prog 85 := ⟨by show _ = _; kernel_rfl⟩
instance fk611 : KInfo Go.Proofs.Tryz.prog 87 [.nilFunc] 1 8 := ⟨by show _ = _; kernel_rfl⟩
instance fk612 : KSize Go.Proofs.Tryz.prog 87 1 := ⟨by show _ = _; kernel_rfl⟩
instance fk613 : KOne Go.Proofs.Tryz.prog 87 := ⟨by show _ = _; kernel_rfl⟩
instance fk614 : KSome Go.Proofs.Tryz.prog 88 := ⟨by show _ = _; kernel_rfl⟩
instance fk615 : KInfo Go.Proofs.Tryz.prog 88 [.string ⟨⟨[]⟩⟩, .string ⟨⟨[]⟩⟩, .int .i64 0, .int .i64 0] 4 48 := ⟨by show _ = _; kernel_rfl⟩
instance fk616 : KSize Go.Proofs.Tryz.prog 88 4 := ⟨by show _ = _; kernel_rfl⟩
instance fk617 : KAgg Go.Proofs.Tryz.prog 88 4 := ⟨by show _ = _; kernel_rfl⟩
instance fk618 : KStruct Go.Proofs.Tryz.prog 88 [.string ⟨⟨[]⟩⟩, .string ⟨⟨[]⟩⟩, .int .i64 0, .int .i64 0] [(0, 1), (1, 1), (2, 1), (3, 1)] := ⟨by show _ = _; kernel_rfl⟩
instance fk619 : KFieldOff Go.Proofs.Tryz.prog 88 0 0 := ⟨by show _ = _; kernel_rfl⟩
instance fk620 : KField1 Go.Proofs.Tryz.prog 88 0 0 1 := ⟨by show _ = _; kernel_rfl⟩
instance fk621 : KFieldOff Go.Proofs.Tryz.prog 88 1 1 := ⟨by show _ = _; kernel_rfl⟩
instance fk622 : KField1 Go.Proofs.Tryz.prog 88 1 1 1 := ⟨by show _ = _; kernel_rfl⟩
instance fk623 : KFieldOff Go.Proofs.Tryz.prog 88 2 2 := ⟨by show _ = _; kernel_rfl⟩
instance fk624 : KField1 Go.Proofs.Tryz.prog 88 2 2 1 := ⟨by show _ = _; kernel_rfl⟩
instance fk625 : KFieldOff Go.Proofs.Tryz.prog 88 3 3 := ⟨by show _ = _; kernel_rfl⟩
instance fk626 : KField1 Go.Proofs.Tryz.prog 88 3 3 1 := ⟨by show _ = _; kernel_rfl⟩
instance fk627 : KConc Go.Proofs.Tryz.prog 88 := ⟨by show _ = _; kernel_rfl⟩
instance fk628 : KInfo Go.Proofs.Tryz.prog 89 [.nilFunc] 1 8 := ⟨by show _ = _; kernel_rfl⟩
instance fk629 : KSize Go.Proofs.Tryz.prog 89 1 := ⟨by show _ = _; kernel_rfl⟩
instance fk630 : KOne Go.Proofs.Tryz.prog 89 := ⟨by show _ = _; kernel_rfl⟩
instance fk631 : KInfo Go.Proofs.Tryz.prog 90 [.nilFunc] 1 8 := ⟨by show _ = _; kernel_rfl⟩
instance fk632 : KSize Go.Proofs.Tryz.prog 90 1 := ⟨by show _ = _; kernel_rfl⟩
instance fk633 : KOne Go.Proofs.Tryz.prog 90 := ⟨by show _ = _; kernel_rfl⟩
instance fk634 : KInfo Go.Proofs.Tryz.prog 91 [.nilFunc] 1 8 := ⟨by show _ = _; kernel_rfl⟩
instance fk635 : KSize Go.Proofs.Tryz.prog 91 1 := ⟨by show _ = _; kernel_rfl⟩
instance fk636 : KOne Go.Proofs.Tryz.prog 91 := ⟨by show _ = _; kernel_rfl⟩
instance fk637 : KInfo Go.Proofs.Tryz.prog 93 [.nilFunc] 1 8 := ⟨by show _ = _; kernel_rfl⟩
instance fk638 : KSize Go.Proofs.Tryz.prog 93 1 := ⟨by show _ = _; kernel_rfl⟩
instance fk639 : KOne Go.Proofs.Tryz.prog 93 := ⟨by show _ = _; kernel_rfl⟩
instance fk640 : KInfo Go.Proofs.Tryz.prog 95 [.nilFunc] 1 8 := ⟨by show _ = _; kernel_rfl⟩
instance fk641 : KSize Go.Proofs.Tryz.prog 95 1 := ⟨by show _ = _; kernel_rfl⟩
instance fk642 : KOne Go.Proofs.Tryz.prog 95 := ⟨by show _ = _; kernel_rfl⟩
instance fk643 : KInfo Go.Proofs.Tryz.prog 96 [.nilFunc] 1 8 := ⟨by show _ = _; kernel_rfl⟩
instance fk644 : KSize Go.Proofs.Tryz.prog 96 1 := ⟨by show _ = _; kernel_rfl⟩
instance fk645 : KOne Go.Proofs.Tryz.prog 96 := ⟨by show _ = _; kernel_rfl⟩
instance fk646 : KInfo Go.Proofs.Tryz.prog 97 [.nilFunc] 1 8 := ⟨by show _ = _; kernel_rfl⟩
instance fk647 : KSize Go.Proofs.Tryz.prog 97 1 := ⟨by show _ = _; kernel_rfl⟩
instance fk648 : KOne Go.Proofs.Tryz.prog 97 := ⟨by show _ = _; kernel_rfl⟩
instance fk649 : KInfo Go.Proofs.Tryz.prog 99 [.nilFunc] 1 8 := ⟨by show _ = _; kernel_rfl⟩
instance fk650 : KSize Go.Proofs.Tryz.prog 99 1 := ⟨by show _ = _; kernel_rfl⟩
instance fk651 : KOne Go.Proofs.Tryz.prog 99 := ⟨by show _ = _; kernel_rfl⟩
instance fk652 : KInfo Go.Proofs.Tryz.prog 100 [.nilFunc] 1 8 := ⟨by show _ = _; kernel_rfl⟩
instance fk653 : KSize Go.Proofs.Tryz.prog 100 1 := ⟨by show _ = _; kernel_rfl⟩
instance fk654 : KOne Go.Proofs.Tryz.prog 100 := ⟨by show _ = _; kernel_rfl⟩
instance fk655 : KInfo Go.Proofs.Tryz.prog 101 [.nilFunc] 1 8 := ⟨by show _ = _; kernel_rfl⟩
instance fk656 : KSize Go.Proofs.Tryz.prog 101 1 := ⟨by show _ = _; kernel_rfl⟩
instance fk657 : KOne Go.Proofs.Tryz.prog 101 := ⟨by show _ = _; kernel_rfl⟩
instance fk658 : KInfo Go.Proofs.Tryz.prog 102 [.nilFunc] 1 8 := ⟨by show _ = _; kernel_rfl⟩
instance fk659 : KSize Go.Proofs.Tryz.prog 102 1 := ⟨by show _ = _; kernel_rfl⟩
instance fk660 : KOne Go.Proofs.Tryz.prog 102 := ⟨by show _ = _; kernel_rfl⟩
instance fk661 : KInfo Go.Proofs.Tryz.prog 103 [.nilFunc] 1 8 := ⟨by show _ = _; kernel_rfl⟩
instance fk662 : KSize Go.Proofs.Tryz.prog 103 1 := ⟨by show _ = _; kernel_rfl⟩
instance fk663 : KOne Go.Proofs.Tryz.prog 103 := ⟨by show _ = _; kernel_rfl⟩
instance fk664 : KInfo Go.Proofs.Tryz.prog 105 [.nilFunc] 1 8 := ⟨by show _ = _; kernel_rfl⟩
instance fk665 : KSize Go.Proofs.Tryz.prog 105 1 := ⟨by show _ = _; kernel_rfl⟩
instance fk666 : KOne Go.Proofs.Tryz.prog 105 := ⟨by show _ = _; kernel_rfl⟩
instance fk667 : KInfo Go.Proofs.Tryz.prog 108 [.nilFunc] 1 8 := ⟨by show _ = _; kernel_rfl⟩
instance fk668 : KSize Go.Proofs.Tryz.prog 108 1 := ⟨by show _ = _; kernel_rfl⟩
instance fk669 : KOne Go.Proofs.Tryz.prog 108 := ⟨by show _ = _; kernel_rfl⟩
instance fk670 : KInfo Go.Proofs.Tryz.prog 109 [.nilFunc] 1 8 := ⟨by show _ = _; kernel_rfl⟩
instance fk671 : KSize Go.Proofs.Tryz.prog 109 1 := ⟨by show _ = _; kernel_rfl⟩
instance fk672 : KOne Go.Proofs.Tryz.prog 109 := ⟨by show _ = _; kernel_rfl⟩
instance fk673 : KSome Go.Proofs.Tryz.prog 110 := ⟨by show _ = _; kernel_rfl⟩
instance fk674 : KInfo Go.Proofs.Tryz.prog 110 [.string ⟨⟨[]⟩⟩, .int .i64 0, .bool false, .int .i64 0, .int .u32 0, .bool false] 6 56 := ⟨by show _ = _; kernel_rfl⟩
instance fk675 : KSize Go.Proofs.Tryz.prog 110 6 := ⟨by show _ = _; kernel_rfl⟩
instance fk676 : KAgg Go.Proofs.Tryz.prog 110 6 := ⟨by show _ = _; kernel_rfl⟩
instance fk677 : KStruct Go.Proofs.Tryz.prog 110 [.string ⟨⟨[]⟩⟩, .int .i64 0, .bool false, .int .i64 0, .int .u32 0, .bool false] [(0, 1), (1, 4), (5, 1)] := ⟨by show _ = _; kernel_rfl⟩
instance fk678 : KFieldOff Go.Proofs.Tryz.prog 110 0 0 := ⟨by show _ = _; kernel_rfl⟩
instance fk679 : KField1 Go.Proofs.Tryz.prog 110 0 0 1 := ⟨by show _ = _; kernel_rfl⟩
instance fk680 : KFieldOff Go.Proofs.Tryz.prog 110 1 1 := ⟨by show _ = _; kernel_rfl⟩
instance fk681 : KFieldA Go.Proofs.Tryz.prog 110 1 1 4 := ⟨by show _ = _; kernel_rfl⟩
instance fk682 : KFieldOff Go.Proofs.Tryz.prog 110 2 5 := ⟨by show _ = _; kernel_rfl⟩
instance fk683 : KField1 Go.Proofs.Tryz.prog 110 2 5 1 := ⟨by show _ = _; kernel_rfl⟩
instance fk684 : KConc Go.Proofs.Tryz.prog 110 := ⟨by show _ = _; kernel_rfl⟩
instance fk685 : KSome Go.Proofs.Tryz.prog 111 := ⟨by show _ = _; kernel_rfl⟩
instance fk686 : KInfo Go.Proofs.Tryz.prog 111 [.string ⟨⟨[]⟩⟩, .int .i64 0, .bool false, .int .i64 0, .int .u32 0, .bool false] 6 56 := ⟨by show _ = _; kernel_rfl⟩
instance fk687 : KSize Go.Proofs.Tryz.prog 111 6 := ⟨by show _ = _; kernel_rfl⟩
instance fk688 : KAgg Go.Proofs.Tryz.prog 111 6 := ⟨by show _ = _; kernel_rfl⟩
instance fk689 : KStruct Go.Proofs.Tryz.prog 111 [.string ⟨⟨[]⟩⟩, .int .i64 0, .bool false, .int .i64 0, .int .u32 0, .bool false] [(0, 1), (1, 4), (5, 1)] := ⟨by show _ = _; kernel_rfl⟩
instance fk690 : KFieldOff Go.Proofs.Tryz.prog 111 0 0 := ⟨by show _ = _; kernel_rfl⟩
instance fk691 : KField1 Go.Proofs.Tryz.prog 111 0 0 1 := ⟨by show _ = _; kernel_rfl⟩
instance fk692 : KFieldOff Go.Proofs.Tryz.prog 111 1 1 := ⟨by show _ = _; kernel_rfl⟩
instance fk693 : KFieldA Go.Proofs.Tryz.prog 111 1 1 4 := ⟨by show _ = _; kernel_rfl⟩
instance fk694 : KFieldOff Go.Proofs.Tryz.prog 111 2 5 := ⟨by show _ = _; kernel_rfl⟩
instance fk695 : KField1 Go.Proofs.Tryz.prog 111 2 5 1 := ⟨by show _ = _; kernel_rfl⟩
instance fk696 : KConc Go.Proofs.Tryz.prog 111 := ⟨by show _ = _; kernel_rfl⟩
instance fk697 : KInfo Go.Proofs.Tryz.prog 112 [.nilFunc] 1 8 := ⟨by show _ = _; kernel_rfl⟩
instance fk698 : KSize Go.Proofs.Tryz.prog 112 1 := ⟨by show _ = _; kernel_rfl⟩
instance fk699 : KOne Go.Proofs.Tryz.prog 112 := ⟨by show _ = _; kernel_rfl⟩
instance fk700 : KInfo Go.Proofs.Tryz.prog 113 [.nilFunc] 1 8 := ⟨by show _ = _; kernel_rfl⟩
instance fk701 : KSize Go.Proofs.Tryz.prog 113 1 := ⟨by show _ = _; kernel_rfl⟩
instance fk702 : KOne Go.Proofs.Tryz.prog 113 := ⟨by show _ = _; kernel_rfl⟩
instance fk703 : KInfo Go.Proofs.Tryz.prog 114 [.nilFunc] 1 8 := ⟨by show _ = _; kernel_rfl⟩
instance fk704 : KSize Go.Proofs.Tryz.prog 114 1 := ⟨by show _ = _; kernel_rfl⟩
instance fk705 : KOne Go.Proofs.Tryz.prog 114 := ⟨by show _ = _; kernel_rfl⟩
instance fk706 : KInfo Go.Proofs.Tryz.prog 115 [.nilFunc] 1 8 := ⟨by show _ = _; kernel_rfl⟩
instance fk707 : KSize Go.Proofs.Tryz.prog 115 1 := ⟨by show _ = _; kernel_rfl⟩
instance fk708 : KOne Go.Proofs.Tryz.prog 115 := ⟨by show _ = _; kernel_rfl⟩
instance fk709 : KInfo Go.Proofs.Tryz.prog 116 [.nilFunc] 1 8 := ⟨by show _ = _; kernel_rfl⟩
instance fk710 : KSize Go.Proofs.Tryz.prog 116 1 := ⟨by show _ = _; kernel_rfl⟩
instance fk711 : KOne Go.Proofs.Tryz.prog 116 := ⟨by show _ = _; kernel_rfl⟩
instance fk712 : KInfo Go.Proofs.Tryz.prog 117 [.nilFunc] 1 8 := ⟨by show _ = _; kernel_rfl⟩
instance fk713 : KSize Go.Proofs.Tryz.prog 117 1 := ⟨by show _ = _; kernel_rfl⟩
instance fk714 : KOne Go.Proofs.Tryz.prog 117 := ⟨by show _ = _; kernel_rfl⟩
instance fk715 : KInfo Go.Proofs.Tryz.prog 118 [.nilFunc] 1 8 := ⟨by show _ = _; kernel_rfl⟩
instance fk716 : KSize Go.Proofs.Tryz.prog 118 1 := ⟨by show _ = _; kernel_rfl⟩
instance fk717 : KOne Go.Proofs.Tryz.prog 118 := ⟨by show _ = _; kernel_rfl⟩
instance fk718 : KInfo Go.Proofs.Tryz.prog 119 [.nilFunc] 1 8 := ⟨by show _ = _; kernel_rfl⟩
instance fk719 : KSize Go.Proofs.Tryz.prog 119 1 := ⟨by show _ = _; kernel_rfl⟩
instance fk720 : KOne Go.Proofs.Tryz.prog 119 := ⟨by show _ = _; kernel_rfl⟩
instance fk721 : KInfo Go.Proofs.Tryz.prog 120 [.nilFunc] 1 8 := ⟨by show _ = _; kernel_rfl⟩
instance fk722 : KSize Go.Proofs.Tryz.prog 120 1 := ⟨by show _ = _; kernel_rfl⟩
instance fk723 : KOne Go.Proofs.Tryz.prog 120 := ⟨by show _ = _; kernel_rfl⟩
instance fk724 : KInfo Go.Proofs.Tryz.prog 121 [.nilFunc] 1 8 := ⟨by show _ = _; kernel_rfl⟩
instance fk725 : KSize Go.Proofs.Tryz.prog 121 1 := ⟨by show _ = _; kernel_rfl⟩
instance fk726 : KOne Go.Proofs.Tryz.prog 121 := ⟨by show _ = _; kernel_rfl⟩
instance fk727 : KInfo Go.Proofs.Tryz.prog 123 [.nilFunc] 1 8 := ⟨by show _ = _; kernel_rfl⟩
instance fk728 : KSize Go.Proofs.Tryz.prog 123 1 := ⟨by show _ = _; kernel_rfl⟩
instance fk729 : KOne Go.Proofs.Tryz.prog 123 := ⟨by show _ = _; kernel_rfl⟩
instance fk730 : KUnd Go.Proofs.Tryz.prog 124 (.pointer 71) := ⟨by show _ = _; kernel_rfl⟩
instance fk731 : KSome Go.Proofs.Tryz.prog 124 := ⟨by show _ = _; kernel_rfl⟩
instance fk732 : KInfo Go.Proofs.Tryz.prog 124 [.pointer none] 1 8 := ⟨by show _ = _; kernel_rfl⟩
instance fk733 : KSize Go.Proofs.Tryz.prog 124 1 := ⟨by show _ = _; kernel_rfl⟩
instance fk734 : KOne Go.Proofs.Tryz.prog 124 := ⟨by show _ = _; kernel_rfl⟩
instance fk735 : KZero Go.Proofs.Tryz.prog 124 (.pointer none) := ⟨by show _ = _; kernel_rfl⟩
instance fk736 : KConc Go.Proofs.Tryz.prog 124 := ⟨by show _ = _; kernel_rfl⟩
instance fk737 : KInfo Go.Proofs.Tryz.prog 125 [.nilFunc] 1 8 := ⟨by show _ = _; kernel_rfl⟩
instance fk738 : KSize Go.Proofs.Tryz.prog 125 1 := ⟨by show _ = _; kernel_rfl⟩
instance fk739 : KOne Go.Proofs.Tryz.prog 125 := ⟨by show _ = _; kernel_rfl⟩
instance fk740 : KInfo Go.Proofs.Tryz.prog 126 [.nilFunc] 1 8 := ⟨by show _ = _; kernel_rfl⟩
instance fk741 : KSize Go.Proofs.Tryz.prog 126 1 := ⟨by show _ = _; kernel_rfl⟩
instance fk742 : KOne Go.Proofs.Tryz.prog 126 := ⟨by show _ = _; kernel_rfl⟩
instance fk743 : KInfo Go.Proofs.Tryz.prog 127 [.nilFunc] 1 8 := ⟨by show _ = _; kernel_rfl⟩
instance fk744 : KSize Go.Proofs.Tryz.prog 127 1 := ⟨by show _ = _; kernel_rfl⟩
instance fk745 : KOne Go.Proofs.Tryz.prog 127 := ⟨by show _ = _; kernel_rfl⟩
instance fk746 : KInfo Go.Proofs.Tryz.prog 128 [.nilFunc] 1 8 := ⟨by show _ = _; kernel_rfl⟩
instance fk747 : KSize Go.Proofs.Tryz.prog 128 1 := ⟨by show _ = _; kernel_rfl⟩
instance fk748 : KOne Go.Proofs.Tryz.prog 128 := ⟨by show _ = _; kernel_rfl⟩
instance fk749 : KInfo Go.Proofs.Tryz.prog 129 [.nilFunc] 1 8 := ⟨by show _ = _; kernel_rfl⟩
instance fk750 : KSize Go.Proofs.Tryz.prog 129 1 := ⟨by show _ = _; kernel_rfl⟩
instance fk751 : KOne Go.Proofs.Tryz.prog 129 := ⟨by show _ = _; kernel_rfl⟩
instance fk752 : KInfo Go.Proofs.Tryz.prog 130 [.nilFunc] 1 8 := ⟨by show _ = _; kernel_rfl⟩
instance fk753 : KSize Go.Proofs.Tryz.prog 130 1 := ⟨by show _ = _; kernel_rfl⟩
instance fk754 : KOne Go.Proofs.Tryz.prog 130 := ⟨by show _ = _; kernel_rfl⟩
instance fk755 : KSome Go.Proofs.Tryz.prog 132 := ⟨by show _ = _; kernel_rfl⟩
instance fk756 : KInfo Go.Proofs.Tryz.prog 132 [.int .u8 0, .int .u8 0] 2 2 := ⟨by show _ = _; kernel_rfl⟩
instance fk757 : KSize Go.Proofs.Tryz.prog 132 2 := ⟨by show _ = _; kernel_rfl⟩
instance fk758 : KAgg Go.Proofs.Tryz.prog 132 2 := ⟨by show _ = _; kernel_rfl⟩
instance fk759 : KStruct Go.Proofs.Tryz.prog 132 [.int .u8 0, .int .u8 0] [(0, 1), (1, 1)] := ⟨by show _ = _; kernel_rfl⟩
instance fk760 : KFieldOff Go.Proofs.Tryz.prog 132 0 0 := ⟨by show _ = _; kernel_rfl⟩
instance fk761 : KField1 Go.Proofs.Tryz.prog 132 0 0 1 := ⟨by show _ = _; kernel_rfl⟩
instance fk762 : KFieldOff Go.Proofs.Tryz.prog 132 1 1 := ⟨by show _ = _; kernel_rfl⟩
instance fk763 : KField1 Go.Proofs.Tryz.prog 132 1 1 1 := ⟨by show _ = _; kernel_rfl⟩
instance fk764 : KConc Go.Proofs.Tryz.prog 132 := ⟨by show _ = _; kernel_rfl⟩
instance fk765 : KSome Go.Proofs.Tryz.prog 133 := ⟨by show _ = _; kernel_rfl⟩
instance fk766 : KInfo Go.Proofs.Tryz.prog 133 [.int .u8 0, .int .u8 0] 2 2 := ⟨by show _ = _; kernel_rfl⟩
instance fk767 : KSize Go.Proofs.Tryz.prog 133 2 := ⟨by show _ = _; kernel_rfl⟩
instance fk768 : KAgg Go.Proofs.Tryz.prog 133 2 := ⟨by show _ = _; kernel_rfl⟩
instance fk769 : KStruct Go.Proofs.Tryz.prog 133 [.int .u8 0, .int .u8 0] [(0, 1), (1, 1)] := ⟨by show _ = _; kernel_rfl⟩
instance fk770 : KFieldOff Go.Proofs.Tryz.prog 133 0 0 := ⟨by show _ = _; kernel_rfl⟩
instance fk771 : KField1 Go.Proofs.Tryz.prog 133 0 0 1 := ⟨by show _ = _; kernel_rfl⟩
instance fk772 : KFieldOff Go.Proofs.Tryz.prog 133 1 1 := ⟨by show _ = _; kernel_rfl⟩
instance fk773 : KField1 Go.Proofs.Tryz.prog 133 1 1 1 := ⟨by show _ = _; kernel_rfl⟩
instance fk774 : KConc Go.Proofs.Tryz.prog 133 := ⟨by show _ = _; kernel_rfl⟩
instance fk775 : KUnd Go.Proofs.Tryz.prog 135 (.int .u64) := ⟨by show _ = _; kernel_rfl⟩
instance fk776 : KSome Go.Proofs.Tryz.prog 135 := ⟨by show _ = _; kernel_rfl⟩
instance fk777 : KInfo Go.Proofs.Tryz.prog 135 [.int .u64 0] 1 8 := ⟨by show _ = _; kernel_rfl⟩
instance fk778 : KSize Go.Proofs.Tryz.prog 135 1 := ⟨by show _ = _; kernel_rfl⟩
instance fk779 : KOne Go.Proofs.Tryz.prog 135 := ⟨by show _ = _; kernel_rfl⟩
instance fk780 : KZero Go.Proofs.Tryz.prog 135 (.int .u64 0) := ⟨by show _ = _; kernel_rfl⟩
instance fk781 : KConc Go.Proofs.Tryz.prog 135 := ⟨by show _ = _; kernel_rfl⟩
instance fk782 : KInfo Go.Proofs.Tryz.prog 137 [.nilFunc] 1 8 := ⟨by show _ = _; kernel_rfl⟩
instance fk783 : KSize Go.Proofs.Tryz.prog 137 1 := ⟨by show _ = _; kernel_rfl⟩
instance fk784 : KOne Go.Proofs.Tryz.prog 137 := ⟨by show _ = _; kernel_rfl⟩
instance fk785 : KInfo Go.Proofs.Tryz.prog 138 [.nilFunc] 1 8 := ⟨by show _ = _; kernel_rfl⟩
instance fk786 : KSize Go.Proofs.Tryz.prog 138 1 := ⟨by show _ = _; kernel_rfl⟩
instance fk787 : KOne Go.Proofs.Tryz.prog 138 := ⟨by show _ = _; kernel_rfl⟩
instance fk788 : KInfo Go.Proofs.Tryz.prog 139 [.nilFunc] 1 8 := ⟨by show _ = _; kernel_rfl⟩
instance fk789 : KSize Go.Proofs.Tryz.prog 139 1 := ⟨by show _ = _; kernel_rfl⟩
instance fk790 : KOne Go.Proofs.Tryz.prog 139 := ⟨by show _ = _; kernel_rfl⟩
instance fk791 : KInfo Go.Proofs.Tryz.prog 140 [.nilFunc] 1 8 := ⟨by show _ = _; kernel_rfl⟩
instance fk792 : KSize Go.Proofs.Tryz.prog 140 1 := ⟨by show _ = _; kernel_rfl⟩
instance fk793 : KOne Go.Proofs.Tryz.prog 140 := ⟨by show _ = _; kernel_rfl⟩
instance fk794 : KInfo Go.Proofs.Tryz.prog 141 [.nilFunc] 1 8 := ⟨by show _ = _; kernel_rfl⟩
instance fk795 : KSize Go.Proofs.Tryz.prog 141 1 := ⟨by show _ = _; kernel_rfl⟩
instance fk796 : KOne Go.Proofs.Tryz.prog 141 := ⟨by show _ = _; kernel_rfl⟩
instance fk797 : KInfo Go.Proofs.Tryz.prog 142 [.nilFunc] 1 8 := ⟨by show _ = _; kernel_rfl⟩
instance fk798 : KSize Go.Proofs.Tryz.prog 142 1 := ⟨by show _ = _; kernel_rfl⟩
instance fk799 : KOne Go.Proofs.Tryz.prog 142 := ⟨by show _ = _; kernel_rfl⟩
instance fk800 : KInfo Go.Proofs.Tryz.prog 143 [.nilFunc] 1 8 := ⟨by show _ = _; kernel_rfl⟩
instance fk801 : KSize Go.Proofs.Tryz.prog 143 1 := ⟨by show _ = _; kernel_rfl⟩
instance fk802 : KOne Go.Proofs.Tryz.prog 143 := ⟨by show _ = _; kernel_rfl⟩
instance fk803 : KInfo Go.Proofs.Tryz.prog 144 [.nilFunc] 1 8 := ⟨by show _ = _; kernel_rfl⟩
instance fk804 : KSize Go.Proofs.Tryz.prog 144 1 := ⟨by show _ = _; kernel_rfl⟩
instance fk805 : KOne Go.Proofs.Tryz.prog 144 := ⟨by show _ = _; kernel_rfl⟩
instance fk806 : KInfo Go.Proofs.Tryz.prog 145 [.nilFunc] 1 8 := ⟨by show _ = _; kernel_rfl⟩
instance fk807 : KSize Go.Proofs.Tryz.prog 145 1 := ⟨by show _ = _; kernel_rfl⟩
instance fk808 : KOne Go.Proofs.Tryz.prog 145 := ⟨by show _ = _; kernel_rfl⟩
instance fk809 : KUnd Go.Proofs.Tryz.prog 146 (.int .u64) := ⟨by show _ = _; kernel_rfl⟩
instance fk810 : KSome Go.Proofs.Tryz.prog 146 := ⟨by show _ = _; kernel_rfl⟩
instance fk811 : KInfo Go.Proofs.Tryz.prog 146 [.int .u64 0] 1 8 := ⟨by show _ = _; kernel_rfl⟩
instance fk812 : KSize Go.Proofs.Tryz.prog 146 1 := ⟨by show _ = _; kernel_rfl⟩
instance fk813 : KOne Go.Proofs.Tryz.prog 146 := ⟨by show _ = _; kernel_rfl⟩
instance fk814 : KZero Go.Proofs.Tryz.prog 146 (.int .u64 0) := ⟨by show _ = _; kernel_rfl⟩
instance fk815 : KConc Go.Proofs.Tryz.prog 146 := ⟨by show _ = _; kernel_rfl⟩
instance fk816 : KInfo Go.Proofs.Tryz.prog 147 [.nilFunc] 1 8 := ⟨by show _ = _; kernel_rfl⟩
instance fk817 : KSize Go.Proofs.Tryz.prog 147 1 := ⟨by show _ = _; kernel_rfl⟩
instance fk818 : KOne Go.Proofs.Tryz.prog 147 := ⟨by show _ = _; kernel_rfl⟩
instance fk819 : KInfo Go.Proofs.Tryz.prog 148 [.nilFunc] 1 8 := ⟨by show _ = _; kernel_rfl⟩
instance fk820 : KSize Go.Proofs.Tryz.prog 148 1 := ⟨by show _ = _; kernel_rfl⟩
instance fk821 : KOne Go.Proofs.Tryz.prog 148 := ⟨by show _ = _; kernel_rfl⟩
instance fk822 : KInfo Go.Proofs.Tryz.prog 149 [.nilFunc] 1 8 := ⟨by show _ = _; kernel_rfl⟩
instance fk823 : KSize Go.Proofs.Tryz.prog 149 1 := ⟨by show _ = _; kernel_rfl⟩
instance fk824 : KOne Go.Proofs.Tryz.prog 149 := ⟨by show _ = _; kernel_rfl⟩
instance fk825 : KInfo Go.Proofs.Tryz.prog 150 [.nilFunc] 1 8 := ⟨by show _ = _; kernel_rfl⟩
instance fk826 : KSize Go.Proofs.Tryz.prog 150 1 := ⟨by show _ = _; kernel_rfl⟩
instance fk827 : KOne Go.Proofs.Tryz.prog 150 := ⟨by show _ = _; kernel_rfl⟩
instance fk828 : KUnd Go.Proofs.Tryz.prog 151 (.int .i64) := ⟨by show _ = _; kernel_rfl⟩
instance fk829 : KSome Go.Proofs.Tryz.prog 151 := ⟨by show _ = _; kernel_rfl⟩
instance fk830 : KInfo Go.Proofs.Tryz.prog 151 [.int .i64 0] 1 8 := ⟨by show _ = _; kernel_rfl⟩
instance fk831 : KSize Go.Proofs.Tryz.prog 151 1 := ⟨by show _ = _; kernel_rfl⟩
instance fk832 : KOne Go.Proofs.Tryz.prog 151 := ⟨by show _ = _; kernel_rfl⟩
instance fk833 : KZero Go.Proofs.Tryz.prog 151 (.int .i64 0) := ⟨by show _ = _; kernel_rfl⟩
instance fk834 : KConc Go.Proofs.Tryz.prog 151 := ⟨by show _ = _; kernel_rfl⟩
instance fk835 : KInfo Go.Proofs.Tryz.prog 153 [.nilFunc] 1 8 := ⟨by show _ = _; kernel_rfl⟩
instance fk836 : KSize Go.Proofs.Tryz.prog 153 1 := ⟨by show _ = _; kernel_rfl⟩
instance fk837 : KOne Go.Proofs.Tryz.prog 153 := ⟨by show _ = _; kernel_rfl⟩
instance fk838 : KInfo Go.Proofs.Tryz.prog 154 [.nilFunc] 1 8 := ⟨by show _ = _; kernel_rfl⟩
instance fk839 : KSize Go.Proofs.Tryz.prog 154 1 := ⟨by show _ = _; kernel_rfl⟩
instance fk840 : KOne Go.Proofs.Tryz.prog 154 := ⟨by show _ = _; kernel_rfl⟩
instance fk841 : KInfo Go.Proofs.Tryz.prog 155 [.nilFunc] 1 8 := ⟨by show _ = _; kernel_rfl⟩
instance fk842 : KSize Go.Proofs.Tryz.prog 155 1 := ⟨by show _ = _; kernel_rfl⟩
instance fk843 : KOne Go.Proofs.Tryz.prog 155 := ⟨by show _ = _; kernel_rfl⟩
instance fk844 : KInfo Go.Proofs.Tryz.prog 157 [.nilFunc] 1 8 := ⟨by show _ = _; kernel_rfl⟩
instance fk845 : KSize Go.Proofs.Tryz.prog 157 1 := ⟨by show _ = _; kernel_rfl⟩
instance fk846 : KOne Go.Proofs.Tryz.prog 157 := ⟨by show _ = _; kernel_rfl⟩
instance fk847 : KInfo Go.Proofs.Tryz.prog 158 [.nilFunc] 1 8 := ⟨by show _ = _; kernel_rfl⟩
instance fk848 : KSize Go.Proofs.Tryz.prog 158 1 := ⟨by show _ = _; kernel_rfl⟩
instance fk849 : KOne Go.Proofs.Tryz.prog 158 := ⟨by show _ = _; kernel_rfl⟩
instance fk850 : KInfo Go.Proofs.Tryz.prog 159 [.nilFunc] 1 8 := ⟨by show _ = _; kernel_rfl⟩
instance fk851 : KSize Go.Proofs.Tryz.prog 159 1 := ⟨by show _ = _; kernel_rfl⟩
instance fk852 : KOne Go.Proofs.Tryz.prog 159 := ⟨by show _ = _; kernel_rfl⟩
instance fk853 : KInfo Go.Proofs.Tryz.prog 160 [.nilFunc] 1 8 := ⟨by show _ = _; kernel_rfl⟩
instance fk854 : KSize Go.Proofs.Tryz.prog 160 1 := ⟨by show _ = _; kernel_rfl⟩
instance fk855 : KOne Go.Proofs.Tryz.prog 160 := ⟨by show _ = _; kernel_rfl⟩
instance fk856 : KInfo Go.Proofs.Tryz.prog 161 [.nilFunc] 1 8 := ⟨by show _ = _; kernel_rfl⟩
instance fk857 : KSize Go.Proofs.Tryz.prog 161 1 := ⟨by show _ = _; kernel_rfl⟩
instance fk858 : KOne Go.Proofs.Tryz.prog 161 := ⟨by show _ = _; kernel_rfl⟩
instance fk859 : KInfo Go.Proofs.Tryz.prog 162 [.nilFunc] 1 8 := ⟨by show _ = _; kernel_rfl⟩
instance fk860 : KSize Go.Proofs.Tryz.prog 162 1 := ⟨by show _ = _; kernel_rfl⟩
instance fk861 : KOne Go.Proofs.Tryz.prog 162 := ⟨by show _ = _; kernel_rfl⟩
instance fk862 : KInfo Go.Proofs.Tryz.prog 163 [.nilFunc] 1 8 := ⟨by show _ = _; kernel_rfl⟩
instance fk863 : KSize Go.Proofs.Tryz.prog 163 1 := ⟨by show _ = _; kernel_rfl⟩
instance fk864 : KOne Go.Proofs.Tryz.prog 163 := ⟨by show _ = _; kernel_rfl⟩
instance fk865 : KUnd Go.Proofs.Tryz.prog 164 (.int .u64) := ⟨by show _ = _; kernel_rfl⟩
instance fk866 : KSome Go.Proofs.Tryz.prog 164 := ⟨by show _ = _; kernel_rfl⟩
instance fk867 : KInfo Go.Proofs.Tryz.prog 164 [.int .u64 0] 1 8 := ⟨by show _ = _; kernel_rfl⟩
instance fk868 : KSize Go.Proofs.Tryz.prog 164 1 := ⟨by show _ = _; kernel_rfl⟩
instance fk869 : KOne Go.Proofs.Tryz.prog 164 := ⟨by show _ = _; kernel_rfl⟩
instance fk870 : KZero Go.Proofs.Tryz.prog 164 (.int .u64 0) := ⟨by show _ = _; kernel_rfl⟩
instance fk871 : KConc Go.Proofs.Tryz.prog 164 := ⟨by show _ = _; kernel_rfl⟩
instance fk872 : KInfo Go.Proofs.Tryz.prog 165 [.nilFunc] 1 8 := ⟨by show _ = _; kernel_rfl⟩
instance fk873 : KSize Go.Proofs.Tryz.prog 165 1 := ⟨by show _ = _; kernel_rfl⟩
instance fk874 : KOne Go.Proofs.Tryz.prog 165 := ⟨by show _ = _; kernel_rfl⟩
instance fk875 : KInfo Go.Proofs.Tryz.prog 166 [.nilFunc] 1 8 := ⟨by show _ = _; kernel_rfl⟩
instance fk876 : KSize Go.Proofs.Tryz.prog 166 1 := ⟨by show _ = _; kernel_rfl⟩
instance fk877 : KOne Go.Proofs.Tryz.prog 166 := ⟨by show _ = _; kernel_rfl⟩
instance fk878 : KInfo Go.Proofs.Tryz.prog 167 [.nilFunc] 1 8 := ⟨by show _ = _; kernel_rfl⟩
instance fk879 : KSize Go.Proofs.Tryz.prog 167 1 := ⟨by show _ = _; kernel_rfl⟩
instance fk880 : KOne Go.Proofs.Tryz.prog 167 := ⟨by show _ = _; kernel_rfl⟩
instance fk881 : KUnd Go.Proofs.Tryz.prog 168 (.pointer 3) := ⟨by show _ = _; kernel_rfl⟩
instance fk882 : KSome Go.Proofs.Tryz.prog 168 := ⟨by show _ = _; kernel_rfl⟩
instance fk883 : KInfo Go.Proofs.Tryz.prog 168 [.pointer none] 1 8 := ⟨by show _ = _; kernel_rfl⟩
instance fk884 : KSize Go.Proofs.Tryz.prog 168 1 := ⟨by show _ = _; kernel_rfl⟩
instance fk885 : KOne Go.Proofs.Tryz.prog 168 := ⟨by show _ = _; kernel_rfl⟩
instance fk886 : KZero Go.Proofs.Tryz.prog 168 (.pointer none) := ⟨by show _ = _; kernel_rfl⟩
instance fk887 : KConc Go.Proofs.Tryz.prog 168 := ⟨by show _ = _; kernel_rfl⟩
instance fk888 : KInfo Go.Proofs.Tryz.prog 169 [.nilFunc] 1 8 := ⟨by show _ = _; kernel_rfl⟩
instance fk889 : KSize Go.Proofs.Tryz.prog 169 1 := ⟨by show _ = _; kernel_rfl⟩
instance fk890 : KOne Go.Proofs.Tryz.prog 169 := ⟨by show _ = _; kernel_rfl⟩
instance fk891 : KInfo Go.Proofs.Tryz.prog 170 [.nilFunc] 1 8 := ⟨by show _ = _; kernel_rfl⟩
instance fk892 : KSize Go.Proofs.Tryz.prog 170 1 := ⟨by show _ = _; kernel_rfl⟩
instance fk893 : KOne Go.Proofs.Tryz.prog 170 := ⟨by show _ = _; kernel_rfl⟩
instance fk894 : KUnd Go.Proofs.Tryz.prog 171 (.slice 3) := ⟨by show _ = _; kernel_rfl⟩
instance fk895 : KSome Go.Proofs.Tryz.prog 171 := ⟨by show _ = _; kernel_rfl⟩
instance fk896 : KInfo Go.Proofs.Tryz.prog 171 [.slice none 0 0] 1 24 := ⟨by show _ = _; kernel_rfl⟩
instance fk897 : KSize Go.Proofs.Tryz.prog 171 1 := ⟨by show _ = _; kernel_rfl⟩
instance fk898 : KOne Go.Proofs.Tryz.prog 171 := ⟨by show _ = _; kernel_rfl⟩
instance fk899 : KZero Go.Proofs.Tryz.prog 171 (.slice none 0 0) := ⟨by show _ = _; kernel_rfl⟩
instance fk900 : KSlice Go.Proofs.Tryz.prog 171 3 1 := ⟨⟨by kernel_rfl, by kernel_rfl⟩⟩
instance fk901 : KConc Go.Proofs.Tryz.prog 171 := ⟨by show _ = _; kernel_rfl⟩
instance fk902 : KInfo Go.Proofs.Tryz.prog 172 [.nilFunc] 1 8 := ⟨by show _ = _; kernel_rfl⟩
instance fk903 : KSize Go.Proofs.Tryz.prog 172 1 := ⟨by show _ = _; kernel_rfl⟩
instance fk904 : KOne Go.Proofs.Tryz.prog 172 := ⟨by show _ = _; kernel_rfl⟩
instance fk905 : KUnd Go.Proofs.Tryz.prog 173 (.pointer 164) := ⟨by show _ = _; kernel_rfl⟩
instance fk906 : KSome Go.Proofs.Tryz.prog 173 := ⟨by show _ = _; kernel_rfl⟩
instance fk907 : KInfo Go.Proofs.Tryz.prog 173 [.pointer none] 1 8 := ⟨by show _ = _; kernel_rfl⟩
instance fk908 : KSize Go.Proofs.Tryz.prog 173 1 := ⟨by show _ = _; kernel_rfl⟩
instance fk909 : KOne Go.Proofs.Tryz.prog 173 := ⟨by show _ = _; kernel_rfl⟩
instance fk910 : KZero Go.Proofs.Tryz.prog 173 (.pointer none) := ⟨by show _ = _; kernel_rfl⟩
instance fk911 : KConc Go.Proofs.Tryz.prog 173 := ⟨by show _ = _; kernel_rfl⟩
instance fk912 : KInfo Go.Proofs.Tryz.prog 175 [.nilFunc] 1 8 := ⟨by show _ = _; kernel_rfl⟩
instance fk913 : KSize Go.Proofs.Tryz.prog 175 1 := ⟨by show _ = _; kernel_rfl⟩
instance fk914 : KOne Go.Proofs.Tryz.prog 175 := ⟨by show _ = _; kernel_rfl⟩
instance fk915 : KInfo Go.Proofs.Tryz.prog 176 [.nilFunc] 1 8 := ⟨by show _ = _; kernel_rfl⟩
instance fk916 : KSize Go.Proofs.Tryz.prog 176 1 := ⟨by show _ = _; kernel_rfl⟩
instance fk917 : KOne Go.Proofs.Tryz.prog 176 := ⟨by show _ = _; kernel_rfl⟩
instance fk918 : KInfo Go.Proofs.Tryz.prog 177 [.nilFunc] 1 8 := ⟨by show _ = _; kernel_rfl⟩
instance fk919 : KSize Go.Proofs.Tryz.prog 177 1 := ⟨by show _ = _; kernel_rfl⟩
instance fk920 : KOne Go.Proofs.Tryz.prog 177 := ⟨by show _ = _; kernel_rfl⟩
instance fk921 : KInfo Go.Proofs.Tryz.prog 178 [.nilFunc] 1 8 := ⟨by show _ = _; kernel_rfl⟩
instance fk922 : KSize Go.Proofs.Tryz.prog 178 1 := ⟨by show _ = _; kernel_rfl⟩
instance fk923 : KOne Go.Proofs.Tryz.prog 178 := ⟨by show _ = _; kernel_rfl⟩
instance fk924 : KSome Go.Proofs.Tryz.prog 179 := ⟨by show _ = _; kernel_rfl⟩
instance fk925 : KInfo Go.Proofs.Tryz.prog 179 [.pointer none, .pointer none, .pointer none, .string ⟨⟨[]⟩⟩] 4 40 := ⟨by show _ = _; kernel_rfl⟩
instance fk926 : KSize Go.Proofs.Tryz.prog 179 4 := ⟨by show _ = _; kernel_rfl⟩
instance fk927 : KAgg Go.Proofs.Tryz.prog 179 4 := ⟨by show _ = _; kernel_rfl⟩
instance fk928 : KStruct Go.Proofs.Tryz.prog 179 [.pointer none, .pointer none, .pointer none, .string ⟨⟨[]⟩⟩] [(0, 1), (1, 1), (2, 1), (3, 1)] := ⟨by show _ = _; kernel_rfl⟩
instance fk929 : KFieldOff Go.Proofs.Tryz.prog 179 0 0 := ⟨by show _ = _; kernel_rfl⟩
instance fk930 : KField1 Go.Proofs.Tryz.prog 179 0 0 1 := ⟨by show _ = _; kernel_rfl⟩
instance fk931 : KFieldOff Go.Proofs.Tryz.prog 179 1 1 := ⟨by show _ = _; kernel_rfl⟩
instance fk932 : KField1 Go.Proofs.Tryz.prog 179 1 1 1 := ⟨by show _ = _; kernel_rfl⟩
instance fk933 : KFieldOff Go.Proofs.Tryz.prog 179 2 2 := ⟨by show _ = _; kernel_rfl⟩
instance fk934 : KField1 Go.Proofs.Tryz.prog 179 2 2 1 := ⟨by show _ = _; kernel_rfl⟩
instance fk935 : KFieldOff Go.Proofs.Tryz.prog 179 3 3 := ⟨by show _ = _; kernel_rfl⟩
instance fk936 : KField1 Go.Proofs.Tryz.prog 179 3 3 1 := ⟨by show _ = _; kernel_rfl⟩
instance fk937 : KConc Go.Proofs.Tryz.prog 179 := ⟨by show _ = _; kernel_rfl⟩
instance fk938 : KSome Go.Proofs.Tryz.prog 180 := ⟨by show _ = _; kernel_rfl⟩
instance fk939 : KInfo Go.Proofs.Tryz.prog 180 [.pointer none, .pointer none, .pointer none, .string ⟨⟨[]⟩⟩] 4 40 := ⟨by show _ = _; kernel_rfl⟩
instance fk940 : KSize Go.Proofs.Tryz.prog 180 4 := ⟨by show _ = _; kernel_rfl⟩
instance fk941 : KAgg Go.Proofs.Tryz.prog 180 4 := ⟨by show _ = _; kernel_rfl⟩
instance fk942 : KStruct Go.Proofs.Tryz.prog 180 [.pointer none, .pointer none, .pointer none, .string ⟨⟨[]⟩⟩] [(0, 1), (1, 1), (2, 1), (3, 1)] := ⟨by show _ = _; kernel_rfl⟩
instance fk943 : KFieldOff Go.Proofs.Tryz.prog 180 0 0 := ⟨by show _ = _; kernel_rfl⟩
instance fk944 : KField1 Go.Proofs.Tryz.prog 180 0 0 1 := ⟨by show _ = _; kernel_rfl⟩
instance fk945 : KFieldOff Go.Proofs.Tryz.prog 180 1 1 := ⟨by show _ = _; kernel_rfl⟩
instance fk946 : KField1 Go.Proofs.Tryz.prog 180 1 1 1 := ⟨by show _ = _; kernel_rfl⟩
instance fk947 : KFieldOff Go.Proofs.Tryz.prog 180 2 2 := ⟨by show _ = _; kernel_rfl⟩
instance fk948 : KField1 Go.Proofs.Tryz.prog 180 2 2 1 := ⟨by show _ = _; kernel_rfl⟩
instance fk949 : KFieldOff Go.Proofs.Tryz.prog 180 3 3 := ⟨by show _ = _; kernel_rfl⟩
instance fk950 : KField1 Go.Proofs.Tryz.prog 180 3 3 1 := ⟨by show _ = _; kernel_rfl⟩
instance fk951 : KConc Go.Proofs.Tryz.prog 180 := ⟨by show _ = _; kernel_rfl⟩
instance fk952 : KSome Go.Proofs.Tryz.prog 182 := ⟨by show _ = _; kernel_rfl⟩
instance fk953 : KInfo Go.Proofs.Tryz.prog 182 [] 0 0 := ⟨by show _ = _; kernel_rfl⟩
instance fk954 : KSize Go.Proofs.Tryz.prog 182 0 := ⟨by show _ = _; kernel_rfl⟩
instance fk955 : KAgg Go.Proofs.Tryz.prog 182 0 := ⟨by show _ = _; kernel_rfl⟩
instance fk956 : KStruct Go.Proofs.Tryz.prog 182 [] [(0, 0)] := ⟨by show _ = _; kernel_rfl⟩
instance fk957 : KConc Go.Proofs.Tryz.prog 182 := ⟨by show _ = _; kernel_rfl⟩
instance fk958 : KSome Go.Proofs.Tryz.prog 183 := ⟨by show _ = _; kernel_rfl⟩
instance fk959 : KInfo Go.Proofs.Tryz.prog 183 [] 0 0 := ⟨by show _ = _; kernel_rfl⟩
instance fk960 : KSize Go.Proofs.Tryz.prog 183 0 := ⟨by show _ = _; kernel_rfl⟩
instance fk961 : KAgg Go.Proofs.Tryz.prog 183 0 := ⟨by show _ = _; kernel_rfl⟩
instance fk962 : KStruct Go.Proofs.Tryz.prog 183 [] [(0, 0)] := ⟨by show _ = _; kernel_rfl⟩
instance fk963 : KConc Go.Proofs.Tryz.prog 183 := ⟨by show _ = _; kernel_rfl⟩
instance fk964 : KInfo Go.Proofs.Tryz.prog 184 [.nilFunc] 1 8 := ⟨by show _ = _; kernel_rfl⟩
instance fk965 : KSize Go.Proofs.Tryz.prog 184 1 := ⟨by show _ = _; kernel_rfl⟩
instance fk966 : KOne Go.Proofs.Tryz.prog 184 := ⟨by show _ = _; kernel_rfl⟩
instance fk967 : KUnd Go.Proofs.Tryz.prog 185 (.int .u8) := ⟨by show _ = _; kernel_rfl⟩
instance fk968 : KSome Go.Proofs.Tryz.prog 185 := ⟨by show _ = _; kernel_rfl⟩
instance fk969 : KInfo Go.Proofs.Tryz.prog 185 [.int .u8 0] 1 1 := ⟨by show _ = _; kernel_rfl⟩
instance fk970 : KSize Go.Proofs.Tryz.prog 185 1 := ⟨by show _ = _; kernel_rfl⟩
instance fk971 : KOne Go.Proofs.Tryz.prog 185 := ⟨by show _ = _; kernel_rfl⟩
instance fk972 : KZero Go.Proofs.Tryz.prog 185 (.int .u8 0) := ⟨by show _ = _; kernel_rfl⟩
instance fk973 : KConc Go.Proofs.Tryz.prog 185 := ⟨by show _ = _; kernel_rfl⟩
instance fk974 : KUnd Go.Proofs.Tryz.prog 186 (.int .u8) := ⟨by show _ = _; kernel_rfl⟩
instance fk975 : KSome Go.Proofs.Tryz.prog 186 := ⟨by show _ = _; kernel_rfl⟩
instance fk976 : KInfo Go.Proofs.Tryz.prog 186 [.int .u8 0] 1 1 := ⟨by show _ = _; kernel_rfl⟩
instance fk977 : KSize Go.Proofs.Tryz.prog 186 1 := ⟨by show _ = _; kernel_rfl⟩
instance fk978 : KOne Go.Proofs.Tryz.prog 186 := ⟨by show _ = _; kernel_rfl⟩
instance fk979 : KZero Go.Proofs.Tryz.prog 186 (.int .u8 0) := ⟨by show _ = _; kernel_rfl⟩
instance fk980 : KConc Go.Proofs.Tryz.prog 186 := ⟨by show _ = _; kernel_rfl⟩
instance fk981 : KInfo Go.Proofs.Tryz.prog 187 [.nilFunc] 1 8 := ⟨by show _ = _; kernel_rfl⟩
instance fk982 : KSize Go.Proofs.Tryz.prog 187 1 := ⟨by show _ = _; kernel_rfl⟩
instance fk983 : KOne Go.Proofs.Tryz.prog 187 := ⟨by show _ = _; kernel_rfl⟩
instance fk984 : KUnd Go.Proofs.Tryz.prog 188 (.pointer 5) := ⟨by show _ = _; kernel_rfl⟩
instance fk985 : KSome Go.Proofs.Tryz.prog 188 := ⟨by show _ = _; kernel_rfl⟩
instance fk986 : KInfo Go.Proofs.Tryz.prog 188 [.pointer none] 1 8 := ⟨by show _ = _; kernel_rfl⟩
instance fk987 : KSize Go.Proofs.Tryz.prog 188 1 := ⟨by show _ = _; kernel_rfl⟩
instance fk988 : KOne Go.Proofs.Tryz.prog 188 := ⟨by show _ = _; kernel_rfl⟩
instance fk989 : KZero Go.Proofs.Tryz.prog 188 (.pointer none) := ⟨by show _ = _; kernel_rfl⟩
instance fk990 : KConc Go.Proofs.Tryz.prog 188 := ⟨by show _ = _; kernel_rfl⟩
instance fk991 : KUnd Go.Proofs.Tryz.prog 189 (.int .i32) := ⟨by show _ = _; kernel_rfl⟩
instance fk992 : KSome Go.Proofs.Tryz.prog 189 := ⟨by show _ = _; kernel_rfl⟩
instance fk993 : KInfo Go.Proofs.Tryz.prog 189 [.int .i32 0] 1 4 := ⟨by show _ = _; kernel_rfl⟩
instance fk994 : KSize Go.Proofs.Tryz.prog 189 1 := ⟨by show _ = _; kernel_rfl⟩
instance fk995 : KOne Go.Proofs.Tryz.prog 189 := ⟨by show _ = _; kernel_rfl⟩
instance fk996 : KZero Go.Proofs.Tryz.prog 189 (.int .i32 0) := ⟨by show _ = _; kernel_rfl⟩
instance fk997 : KConc Go.Proofs.Tryz.prog 189 := ⟨by show _ = _; kernel_rfl⟩
instance fk998 : KUnd Go.Proofs.Tryz.prog 190 (.int .i32) := ⟨by show _ = _; kernel_rfl⟩
instance fk999 : KSome Go.Proofs.Tryz.prog 190 := ⟨by show _ = _; kernel_rfl⟩
instance fk1000 : KInfo Go.Proofs.Tryz.prog 190 [.int .i32 0] 1 4 := ⟨by show _ = _; kernel_rfl⟩
instance fk1001 : KSize Go.Proofs.Tryz.prog 190 1 := ⟨by show _ = _; kernel_rfl⟩
instance fk1002 : KOne Go.Proofs.Tryz.prog 190 := ⟨by show _ = _; kernel_rfl⟩
instance fk1003 : KZero Go.Proofs.Tryz.prog 190 (.int .i32 0) := ⟨by show _ = _; kernel_rfl⟩
instance fk1004 : KConc Go.Proofs.Tryz.prog 190 := ⟨by show _ = _; kernel_rfl⟩
instance fk1005 : KSome Go.Proofs.Tryz.prog 191 := ⟨by show _ = _; kernel_rfl⟩
instance fk1006 : KInfo Go.Proofs.Tryz.prog 191 [.int .u64 0, .int .u64 0, .int .u32 0, .int .u8 0, .int .u8 0, .int .u8 0, .int .u8 0, .nilFunc, .pointer none, .int .i32 0, .int .i32 0] 11 48 := ⟨by show _ = _; kernel_rfl⟩
instance fk1007 : KSize Go.Proofs.Tryz.prog 191 11 := ⟨by show _ = _; kernel_rfl⟩
instance fk1008 : KAgg Go.Proofs.Tryz.prog 191 11 := ⟨by show _ = _; kernel_rfl⟩
instance fk1009 : KStruct Go.Proofs.Tryz.prog 191 [.int .u64 0, .int .u64 0, .int .u32 0, .int .u8 0, .int .u8 0, .int .u8 0, .int .u8 0, .nilFunc, .pointer none, .int .i32 0, .int .i32 0] [(0, 1), (1, 1), (2, 1), (3, 1), (4, 1), (5, 1), (6, 1), (7, 1), (8, 1), (9, 1), (10, 1)] := ⟨by show _ = _; kernel_rfl⟩
instance fk1010 : KFieldOff Go.Proofs.Tryz.prog 191 0 0 := ⟨by show _ = _; kernel_rfl⟩
instance fk1011 : KField1 Go.Proofs.Tryz.prog 191 0 0 1 := ⟨by show _ = _; kernel_rfl⟩
instance fk1012 : KFieldOff Go.Proofs.Tryz.prog 191 1 1 := ⟨by show _ = _; kernel_rfl⟩
instance fk1013 : KField1 Go.Proofs.Tryz.prog 191 1 1 1 := ⟨by show _ = _; kernel_rfl⟩
instance fk1014 : KFieldOff Go.Proofs.Tryz.prog 191 2 2 := ⟨by show _ = _; kernel_rfl⟩
instance fk1015 : KField1 Go.Proofs.Tryz.prog 191 2 2 1 := ⟨by show _ = _; kernel_rfl⟩
instance fk1016 : KFieldOff Go.Proofs.Tryz.prog 191 3 3 := ⟨by show _ = _; kernel_rfl⟩
instance fk1017 : KField1 Go.Proofs.Tryz.prog 191 3 3 1 := ⟨by show _ = _; kernel_rfl⟩
instance fk1018 : KFieldOff Go.Proofs.Tryz.prog 191 4 4 := ⟨by show _ = _; kernel_rfl⟩
instance fk1019 : KField1 Go.Proofs.Tryz.prog 191 4 4 1 := ⟨by show _ = _; kernel_rfl⟩
instance fk1020 : KFieldOff Go.Proofs.Tryz.prog 191 5 5 := ⟨by show _ = _; kernel_rfl⟩
instance fk1021 : KField1 Go.Proofs.Tryz.prog 191 5 5 1 := ⟨by show _ = _; kernel_rfl⟩
instance fk1022 : KFieldOff Go.Proofs.Tryz.prog 191 6 6 := ⟨by show _ = _; kernel_rfl⟩
instance fk1023 : KField1 Go.Proofs.Tryz.prog 191 6 6 1 := ⟨by show _ = _; kernel_rfl⟩
instance fk1024 : KFieldOff Go.Proofs.Tryz.prog 191 7 7 := ⟨by show _ = _; kernel_rfl⟩
instance fk1025 : KField1 Go.Proofs.Tryz.prog 191 7 7 1 := ⟨by show _ = _; kernel_rfl⟩
instance fk1026 : KFieldOff Go.Proofs.Tryz.prog 191 8 8 := ⟨by show _ = _; kernel_rfl⟩
instance fk1027 : KField1 Go.Proofs.Tryz.prog 191 8 8 1 := ⟨by show _ = _; kernel_rfl⟩
instance fk1028 : KFieldOff Go.Proofs.Tryz.prog 191 9 9 := ⟨by show _ = _; kernel_rfl⟩
instance fk1029 : KField1 Go.Proofs.Tryz.prog 191 9 9 1 := ⟨by show _ = _; kernel_rfl⟩
instance fk1030 : KFieldOff Go.Proofs.Tryz.prog 191 10 10 := ⟨by show _ = _; kernel_rfl⟩
instance fk1031 : KField1 Go.Proofs.Tryz.prog 191 10 10 1 := ⟨by show _ = _; kernel_rfl⟩
instance fk1032 : KConc Go.Proofs.Tryz.prog 191 := ⟨by show _ = _; kernel_rfl⟩
instance fk1033 : KSome Go.Proofs.Tryz.prog 192 := ⟨by show _ = _; kernel_rfl⟩
instance fk1034 : KInfo Go.Proofs.Tryz.prog 192 [.int .u64 0, .int .u64 0, .int .u32 0, .int .u8 0, .int .u8 0, .int .u8 0, .int .u8 0, .nilFunc, .pointer none, .int .i32 0, .int .i32 0] 11 48 := ⟨by show _ = _; kernel_rfl⟩
instance fk1035 : KSize Go.Proofs.Tryz.prog 192 11 := ⟨by show _ = _; kernel_rfl⟩
instance fk1036 : KAgg Go.Proofs.Tryz.prog 192 11 := ⟨by show _ = _; kernel_rfl⟩
instance fk1037 : KStruct Go.Proofs.Tryz.prog 192 [.int .u64 0, .int .u64 0, .int .u32 0, .int .u8 0, .int .u8 0, .int .u8 0, .int .u8 0, .nilFunc, .pointer none, .int .i32 0, .int .i32 0] [(0, 1), (1, 1), (2, 1), (3, 1), (4, 1), (5, 1), (6, 1), (7, 1), (8, 1), (9, 1), (10, 1)] := ⟨by show _ = _; kernel_rfl⟩
instance fk1038 : KFieldOff Go.Proofs.Tryz.prog 192 0 0 := ⟨by show _ = _; kernel_rfl⟩
instance fk1039 : KField1 Go.Proofs.Tryz.prog 192 0 0 1 := ⟨by show _ = _; kernel_rfl⟩
instance fk1040 : KFieldOff Go.Proofs.Tryz.prog 192 1 1 := ⟨by show _ = _; kernel_rfl⟩
instance fk1041 : KField1 Go.Proofs.Tryz.prog 192 1 1 1 := ⟨by show _ = _; kernel_rfl⟩
instance fk1042 : KFieldOff Go.Proofs.Tryz.prog 192 2 2 := ⟨by show _ = _; kernel_rfl⟩
instance fk1043 : KField1 Go.Proofs.Tryz.prog 192 2 2 1 := ⟨by show _ = _; kernel_rfl⟩
instance fk1044 : KFieldOff Go.Proofs.Tryz.prog 192 3 3 := ⟨by show _ = _; kernel_rfl⟩
instance fk1045 : KField1 Go.Proofs.Tryz.prog 192 3 3 1 := ⟨by show _ = _; kernel_rfl⟩
instance fk1046 : KFieldOff Go.Proofs.Tryz.prog 192 4 4 := ⟨by show _ = _; kernel_rfl⟩
instance fk1047 : KField1 Go.Proofs.Tryz.prog 192 4 4 1 := ⟨by show _ = _; kernel_rfl⟩
instance fk1048 : KFieldOff Go.Proofs.Tryz.prog 192 5 5 := ⟨by show _ = _; kernel_rfl⟩
instance fk1049 : KField1 Go.Proofs.Tryz.prog 192 5 5 1 := ⟨by show _ = _; kernel_rfl⟩
instance fk1050 : KFieldOff Go.Proofs.Tryz.prog 192 6 6 := ⟨by show _ = _; kernel_rfl⟩
instance fk1051 : KField1 Go.Proofs.Tryz.prog 192 6 6 1 := ⟨by show _ = _; kernel_rfl⟩
instance fk1052 : KFieldOff Go.Proofs.Tryz.prog 192 7 7 := ⟨by show _ = _; kernel_rfl⟩
instance fk1053 : KField1 Go.Proofs.Tryz.prog 192 7 7 1 := ⟨by show _ = _; kernel_rfl⟩
instance fk1054 : KFieldOff Go.Proofs.Tryz.prog 192 8 8 := ⟨by show _ = _; kernel_rfl⟩
instance fk1055 : KField1 Go.Proofs.Tryz.prog 192 8 8 1 := ⟨by show _ = _; kernel_rfl⟩
instance fk1056 : KFieldOff Go.Proofs.Tryz.prog 192 9 9 := ⟨by show _ = _; kernel_rfl⟩
instance fk1057 : KField1 Go.Proofs.Tryz.prog 192 9 9 1 := ⟨by show _ = _; kernel_rfl⟩
instance fk1058 : KFieldOff Go.Proofs.Tryz.prog 192 10 10 := ⟨by show _ = _; kernel_rfl⟩
instance fk1059 : KField1 Go.Proofs.Tryz.prog 192 10 10 1 := ⟨by show _ = _; kernel_rfl⟩
instance fk1060 : KConc Go.Proofs.Tryz.prog 192 := ⟨by show _ = _; kernel_rfl⟩
instance fk1061 : KCall Go.Proofs.Tryz.prog 3 := ⟨by show _ = _; kernel_rfl⟩
instance fk1062 : KCall Go.Proofs.Tryz.prog 4 := ⟨by show _ = _; kernel_rfl⟩
instance fk1063 : KCall Go.Proofs.Tryz.prog 5 := ⟨by show _ = _; kernel_rfl⟩
instance fk1064 : KCall Go.Proofs.Tryz.prog 6 := ⟨by show _ = _; kernel_rfl⟩
instance fk1065 : KCall Go.Proofs.Tryz.prog 7 := ⟨by show _ = _; kernel_rfl⟩
instance fk1066 : KCall Go.Proofs.Tryz.prog 8 := ⟨by show _ = _; kernel_rfl⟩
instance fk1067 : KCall Go.Proofs.Tryz.prog 9 := ⟨by show _ = _; kernel_rfl⟩
instance fk1068 : KCall Go.Proofs.Tryz.prog 10 := ⟨by show _ = _; kernel_rfl⟩
instance fk1069 : KCall Go.Proofs.Tryz.prog 11 := ⟨by show _ = _; kernel_rfl⟩
instance fk1070 : KCall Go.Proofs.Tryz.prog 12 := ⟨by show _ = _; kernel_rfl⟩
instance fk1071 : KCall Go.Proofs.Tryz.prog 13 := ⟨by show _ = _; kernel_rfl⟩
instance fk1072 : KCall Go.Proofs.Tryz.prog 14 := ⟨by show _ = _; kernel_rfl⟩
instance fk1073 : KCall Go.Proofs.Tryz.prog 15 := ⟨by show _ = _; kernel_rfl⟩
instance fk1074 : KCall Go.Proofs.Tryz.prog 16 := ⟨by show _ = _; kernel_rfl⟩
instance fk1075 : KCall Go.Proofs.Tryz.prog 17 := ⟨by show _ = _; kernel_rfl⟩
instance fk1076 : KCall Go.Proofs.Tryz.prog 18 := ⟨by show _ = _; kernel_rfl⟩
instance fk1077 : KCall Go.Proofs.Tryz.prog 19 := ⟨by show _ = _; kernel_rfl⟩
instance fk1078 : KCall Go.Proofs.Tryz.prog 20 := ⟨by show _ = _; kernel_rfl⟩
instance fk1079 : KCall Go.Proofs.Tryz.prog 21 := ⟨by show _ = _; kernel_rfl⟩
instance fk1080 : KCall Go.Proofs.Tryz.prog 22 := ⟨by show _ = _; kernel_rfl⟩
instance fk1081 : KCall Go.Proofs.Tryz.prog 23 := ⟨by show _ = _; kernel_rfl⟩
instance fk1082 : KCall Go.Proofs.Tryz.prog 24 := ⟨by show _ = _; kernel_rfl⟩
instance fk1083 : KCall Go.Proofs.Tryz.prog 25 := ⟨by show _ = _; kernel_rfl⟩
instance fk1084 : KCall Go.Proofs.Tryz.prog 26 := ⟨by show _ = _; kernel_rfl⟩
instance fk1085 : KCall Go.Proofs.Tryz.prog 27 := ⟨by show _ = _; kernel_rfl⟩
instance fk1086 : KCall Go.Proofs.Tryz.prog 28 := ⟨by show _ = _; kernel_rfl⟩
instance fk1087 : KCall Go.Proofs.Tryz.prog 29 := ⟨by show _ = _; kernel_rfl⟩
instance fk1088 : KCall Go.Proofs.Tryz.prog 30 := ⟨by show _ = _; kernel_rfl⟩
instance fk1089 : KCall Go.Proofs.Tryz.prog 31 := ⟨by show _ = _; kernel_rfl⟩
instance fk1090 : KCall Go.Proofs.Tryz.prog 32 := ⟨by show _ = _; kernel_rfl⟩
instance fk1091 : KCall Go.Proofs.Tryz.prog 33 := ⟨by show _ = _; kernel_rfl⟩
instance fk1092 : KCall Go.Proofs.Tryz.prog 34 := ⟨by show _ = _; kernel_rfl⟩
instance fk1093 : KCall Go.Proofs.Tryz.prog 35 := ⟨by show _ = _; kernel_rfl⟩
instance fk1094 : KCall Go.Proofs.Tryz.prog 36 := ⟨by show _ = _; kernel_rfl⟩
instance fk1095 : KCall Go.Proofs.Tryz.prog 37 := ⟨by show _ = _; kernel_rfl⟩
instance fk1096 : KCall Go.Proofs.Tryz.prog 38 := ⟨by show _ = _; kernel_rfl⟩
instance fk1097 : KCall Go.Proofs.Tryz.prog 39 := ⟨by show _ = _; kernel_rfl⟩
instance fk1098 : KCall Go.Proofs.Tryz.prog 40 := ⟨by show _ = _; kernel_rfl⟩
instance fk1099 : KCall Go.Proofs.Tryz.prog 41 := ⟨by show _ = _; kernel_rfl⟩
instance fk1100 : KCall Go.Proofs.Tryz.prog 42 := ⟨by show _ = _; kernel_rfl⟩
instance fk1101 : KCall Go.Proofs.Tryz.prog 43 := ⟨by show _ = _; kernel_rfl⟩
instance fk1102 : KCall Go.Proofs.Tryz.prog 44 := ⟨by show _ = _; kernel_rfl⟩
instance fk1103 : KCall Go.Proofs.Tryz.prog 45 := ⟨by show _ = _; kernel_rfl⟩
instance fk1104 : KCall Go.Proofs.Tryz.prog 46 := ⟨by show _ = _; kernel_rfl⟩
instance fk1105 : KCall Go.Proofs.Tryz.prog 47 := ⟨by show _ = _; kernel_rfl⟩
instance fk1106 : KCall Go.Proofs.Tryz.prog 48 := ⟨by show _ = _; kernel_rfl⟩
instance fk1107 : KCall Go.Proofs.Tryz.prog 49 := ⟨by show _ = _; kernel_rfl⟩
instance fk1108 : KCall Go.Proofs.Tryz.prog 50 := ⟨by show _ = _; kernel_rfl⟩
instance fk1109 : KCall Go.Proofs.Tryz.prog 51 := ⟨by show _ = _; kernel_rfl⟩
instance fk1110 : KCall Go.Proofs.Tryz.prog 52 := ⟨by show _ = _; kernel_rfl⟩
instance fk1111 : KCall Go.Proofs.Tryz.prog 53 := ⟨by show _ = _; kernel_rfl⟩
instance fk1112 : KCall Go.Proofs.Tryz.prog 54 := ⟨by show _ = _; kernel_rfl⟩
instance fk1113 : KCall Go.Proofs.Tryz.prog 55 := ⟨by show _ = _; kernel_rfl⟩
instance fk1114 : KCall Go.Proofs.Tryz.prog 56 := ⟨by show _ = _; kernel_rfl⟩
instance fk1115 : KCall Go.Proofs.Tryz.prog 57 := ⟨by show _ = _; kernel_rfl⟩
instance fk1116 : KCall Go.Proofs.Tryz.prog 58 := ⟨by show _ = _; kernel_rfl⟩
instance fk1117 : KCall Go.Proofs.Tryz.prog 59 := ⟨by show _ = _; kernel_rfl⟩
instance fk1118 : KCall Go.Proofs.Tryz.prog 60 := ⟨by show _ = _; kernel_rfl⟩
instance fk1119 : KCall Go.Proofs.Tryz.prog 61 := ⟨by show _ = _; kernel_rfl⟩
instance fk1120 : KCall Go.Proofs.Tryz.prog 62 := ⟨by show _ = _; kernel_rfl⟩
instance fk1121 : KCall Go.Proofs.Tryz.prog 63 := ⟨by show _ = _; kernel_rfl⟩
instance fk1122 : KCall Go.Proofs.Tryz.prog 64 := ⟨by show _ = _; kernel_rfl⟩
instance fk1123 : KCall Go.Proofs.Tryz.prog 65 := ⟨by show _ = _; kernel_rfl⟩
instance fk1124 : KCall Go.Proofs.Tryz.prog 66 := ⟨by show _ = _; kernel_rfl⟩
instance fk1125 : KCall Go.Proofs.Tryz.prog 67 := ⟨by show _ = _; kernel_rfl⟩
instance fk1126 : KCall Go.Proofs.Tryz.prog 68 := ⟨by show _ = _; kernel_rfl⟩
instance fk1127 : KCall Go.Proofs.Tryz.prog 69 := ⟨by show _ = _; kernel_rfl⟩
instance fk1128 : KCall Go.Proofs.Tryz.prog 70 := ⟨by show _ = _; kernel_rfl⟩
instance fk1129 : KCall Go.Proofs.Tryz.prog 71 := ⟨by show _ = _; kernel_rfl⟩
instance fk1130 : KCall Go.Proofs.Tryz.prog 72 := ⟨by show _ = _; kernel_rfl⟩
instance fk1131 : KCall Go.Proofs.Tryz.prog 73 := ⟨by show _ = _; kernel_rfl⟩
instance fk1132 : KCall Go.Proofs.Tryz.prog 74 := ⟨by show _ = _; kernel_rfl⟩
instance fk1133 : KCall Go.Proofs.Tryz.prog 75 := ⟨by show _ = _; kernel_rfl⟩
instance fk1134 : KCall Go.Proofs.Tryz.prog 76 := ⟨by show _ = _; kernel_rfl⟩
instance fk1135 : KCall Go.Proofs.Tryz.prog 77 := ⟨by show _ = _; kernel_rfl⟩
instance fk1136 : KCall Go.Proofs.Tryz.prog 78 := ⟨by show _ = _; kernel_rfl⟩
instance fk1137 : KCall Go.Proofs.Tryz.prog 79 := ⟨by show _ = _; kernel_rfl⟩
instance fk1138 : KCall Go.Proofs.Tryz.prog 80 := ⟨by show _ = _; kernel_rfl⟩
instance fk1139 : KCall Go.Proofs.Tryz.prog 81 := ⟨by show _ = _; kernel_rfl⟩
instance fk1140 : KCall Go.Proofs.Tryz.prog 82 := ⟨by show _ = _; kernel_rfl⟩
instance fk1141 : KCall Go.Proofs.Tryz.prog 83 := ⟨by show _ = _; kernel_rfl⟩
instance fk1142 : KCall Go.Proofs.Tryz.prog 85 := ⟨by show _ = _; kernel_rfl⟩
instance fk1143 : KCall Go.Proofs.Tryz.prog 86 := ⟨by show _ = _; kernel_rfl⟩
instance fk1144 : KCall Go.Proofs.Tryz.prog 87 := ⟨by show _ = _; kernel_rfl⟩
instance fk1145 : KCall Go.Proofs.Tryz.prog 88 := ⟨by show _ = _; kernel_rfl⟩
instance fk1146 : KCall Go.Proofs.Tryz.prog 89 := ⟨by show _ = _; kernel_rfl⟩
instance fk1147 : KCall Go.Proofs.Tryz.prog 90 := ⟨by show _ = _; kernel_rfl⟩
instance fk1148 : KCall Go.Proofs.Tryz.prog 91 := ⟨by show _ = _; kernel_rfl⟩
instance fk1149 : KCall Go.Proofs.Tryz.prog 92 := ⟨by show _ = _; kernel_rfl⟩
instance fk1150 : KCall Go.Proofs.Tryz.prog 93 := ⟨by show _ = _; kernel_rfl⟩
instance fk1151 : KCall Go.Proofs.Tryz.prog 94 := ⟨by show _ = _; kernel_rfl⟩
instance fk1152 : KCall Go.Proofs.Tryz.prog 95 := ⟨by show _ = _; kernel_rfl⟩
instance fk1153 : KCall Go.Proofs.Tryz.prog 96 := ⟨by show _ = _; kernel_rfl⟩
instance fk1154 : KCall Go.Proofs.Tryz.prog 97 := ⟨by show _ = _; kernel_rfl⟩
instance fk1155 : KCall Go.Proofs.Tryz.prog 98 := ⟨by show _ = _; kernel_rfl⟩
instance fk1156 : KCall Go.Proofs.Tryz.prog 99 := ⟨by show _ = _; kernel_rfl⟩
instance fk1157 : KCall Go.Proofs.Tryz.prog 100 := ⟨by show _ = _; kernel_rfl⟩
instance fk1158 : KCall Go.Proofs.Tryz.prog 101 := ⟨by show _ = _; kernel_rfl⟩
instance fk1159 : KCall Go.Proofs.Tryz.prog 102 := ⟨by show _ = _; kernel_rfl⟩
instance fk1160 : KCall Go.Proofs.Tryz.prog 103 := ⟨by show _ = _; kernel_rfl⟩
instance fk1161 : KCall Go.Proofs.Tryz.prog 104 := ⟨by show _ = _; kernel_rfl⟩
instance fk1162 : KCall Go.Proofs.Tryz.prog 105 := ⟨by show _ = _; kernel_rfl⟩
instance fk1163 : KCall Go.Proofs.Tryz.prog 106 := ⟨by show _ = _; kernel_rfl⟩
instance fk1164 : KCall Go.Proofs.Tryz.prog 107 := ⟨by show _ = _; kernel_rfl⟩
instance fk1165 : KCall Go.Proofs.Tryz.prog 108 := ⟨by show _ = _; kernel_rfl⟩
instance fk1166 : KCall Go.Proofs.Tryz.prog 109 := ⟨by show _ = _; kernel_rfl⟩
instance fk1167 : KCall Go.Proofs.Tryz.prog 110 := ⟨by show _ = _; kernel_rfl⟩
instance fk1168 : KCall Go.Proofs.Tryz.prog 111 := ⟨by show _ = _; kernel_rfl⟩
instance fk1169 : KCall Go.Proofs.Tryz.prog 112 := ⟨by show _ = _; kernel_rfl⟩
instance fk1170 : KCall Go.Proofs.Tryz.prog 113 := ⟨by show _ = _; kernel_rfl⟩
instance fk1171 : KCall Go.Proofs.Tryz.prog 114 := ⟨by show _ = _; kernel_rfl⟩
instance fk1172 : KCall Go.Proofs.Tryz.prog 115 := ⟨by show _ = _; kernel_rfl⟩
instance fk1173 : KCall Go.Proofs.Tryz.prog 116 := ⟨by show _ = _; kernel_rfl⟩
instance fk1174 : KCall Go.Proofs.Tryz.prog 117 := ⟨by show _ = _; kernel_rfl⟩
instance fk1175 : KCall Go.Proofs.Tryz.prog 118 := ⟨by show _ = _; kernel_rfl⟩
instance fk1176 : KCall Go.Proofs.Tryz.prog 119 := ⟨by show _ = _; kernel_rfl⟩
instance fk1177 : KCall Go.Proofs.Tryz.prog 120 := ⟨by show _ = _; kernel_rfl⟩
instance fk1178 : KCall Go.Proofs.Tryz.prog 121 := ⟨by show _ = _; kernel_rfl⟩
instance fk1179 : KCall Go.Proofs.Tryz.prog 122 := ⟨by show _ = _; kernel_rfl⟩
instance fk1180 : KCall Go.Proofs.Tryz.prog 123 := ⟨by show _ = _; kernel_rfl⟩
instance fk1181 : KCall Go.Proofs.Tryz.prog 124 := ⟨by show _ = _; kernel_rfl⟩
instance fk1182 : KCall Go.Proofs.Tryz.prog 125 := ⟨by show _ = _; kernel_rfl⟩
instance fk1183 : KCall Go.Proofs.Tryz.prog 126 := ⟨by show _ = _; kernel_rfl⟩
instance fk1184 : KCall Go.Proofs.Tryz.prog 127 := ⟨by show _ = _; kernel_rfl⟩
instance fk1185 : KCall Go.Proofs.Tryz.prog 128 := ⟨by show _ = _; kernel_rfl⟩
instance fk1186 : KCall Go.Proofs.Tryz.prog 129 := ⟨by show _ = _; kernel_rfl⟩
instance fk1187 : KCall Go.Proofs.Tryz.prog 130 := ⟨by show _ = _; kernel_rfl⟩
instance fk1188 : KCall Go.Proofs.Tryz.prog 131 := ⟨by show _ = _; kernel_rfl⟩
instance fk1189 : KCall Go.Proofs.Tryz.prog 132 := ⟨by show _ = _; kernel_rfl⟩
instance fkmix : KMix Go.Proofs.Tryz.prog := ⟨by kernel_rfl⟩
end Go.Proofs.YtikodfclemgfoaaGreatDoor
