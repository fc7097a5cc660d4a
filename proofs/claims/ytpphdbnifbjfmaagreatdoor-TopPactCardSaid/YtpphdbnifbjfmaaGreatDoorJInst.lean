/- Written by program (gen_inst.py) for this seat: what the walk asks of its types and functions. -/
import Derived.Test.YtpphdbnifbjfmaaGreatDoorJKB
import Derived.Test.YtpphdbnifbjfmaaGreatDoorProg
set_option maxRecDepth 100000
namespace Go.Proofs.YtpphdbnifbjfmaaGreatDoor
open Go Go.Sx Go.Proofs
instance : TSz Tryz.prog 3 1 := ⟨Tryz.sizeOf3⟩
instance : TAgg Tryz.prog 3 false := ⟨Tryz.isAgg3⟩
instance : TIt Tryz.prog 3 .i64 := ⟨Tryz.underlying3⟩
instance : TZ Tryz.prog 3 (.int .i64 0) := ⟨Tryz.zeroValue3⟩
instance : TIn Tryz.prog 3 1 8 (.int .i64 0) := ⟨_, rfl, rfl, rfl, rfl, rfl, by decide⟩
instance : TSz Tryz.prog 4 1 := ⟨Tryz.sizeOf4⟩
instance : TAgg Tryz.prog 4 false := ⟨Tryz.isAgg4⟩
instance : TSz Tryz.prog 5 1 := ⟨Tryz.sizeOf5⟩
instance : TIt Tryz.prog 5 .u8 := ⟨Tryz.underlying5⟩
instance : TZ Tryz.prog 5 (.int .u8 0) := ⟨Tryz.zeroValue5⟩
instance : TSz Tryz.prog 9 1 := ⟨Tryz.sizeOf9⟩
instance : TAgg Tryz.prog 9 false := ⟨Tryz.isAgg9⟩
instance : TSt Tryz.prog 9 := ⟨Tryz.underlying9⟩
instance : TZ Tryz.prog 9 (.string ⟨#[]⟩) := ⟨Tryz.zeroValue9⟩
instance : TIn Tryz.prog 9 1 16 (.string ⟨#[]⟩) := ⟨_, rfl, rfl, rfl, rfl, rfl, by decide⟩
instance : TSl Tryz.prog 22 33 := ⟨Tryz.underlying22⟩
instance : TPt Tryz.prog 23 := ⟨_, Tryz.underlying23⟩
instance : TSz Tryz.prog 24 1 := ⟨Tryz.sizeOf24⟩
instance : TAgg Tryz.prog 24 false := ⟨Tryz.isAgg24⟩
instance : TZL Tryz.prog 24 [.int .i64 0] := ⟨_, Tryz.zeroValue24, rfl⟩
instance : TAgg Tryz.prog 28 false := ⟨Tryz.isAgg28⟩
instance : TMap Tryz.prog 28 45 38 := ⟨Tryz.underlying28⟩
instance : TAgg Tryz.prog 29 false := ⟨Tryz.isAgg29⟩
instance : TMap Tryz.prog 29 45 3 := ⟨Tryz.underlying29⟩
instance : TAgg Tryz.prog 30 false := ⟨Tryz.isAgg30⟩
instance : TSz Tryz.prog 31 1 := ⟨Tryz.sizeOf31⟩
instance : TAgg Tryz.prog 31 false := ⟨Tryz.isAgg31⟩
instance : TSl Tryz.prog 31 38 := ⟨Tryz.underlying31⟩
instance : TSz Tryz.prog 33 3 := ⟨Tryz.sizeOf33⟩
instance : TAgg Tryz.prog 33 true := ⟨Tryz.isAgg33⟩
instance : TPl Tryz.prog 33 [(0, 1), (1, 1), (2, 1)] := ⟨_, Tryz.underlying33, fun w => by simp [List.mapM_cons]⟩
instance : TFd Tryz.prog 33 0 0 30 := ⟨_, _, Tryz.underlying33, rfl, rfl, rfl, fun w => ⟨0, Tryz.sizeOf30 w⟩⟩
instance : TFd Tryz.prog 33 1 1 3 := ⟨_, _, Tryz.underlying33, rfl, rfl, rfl, fun w => ⟨0, Tryz.sizeOf3 w⟩⟩
instance : TFd Tryz.prog 33 2 2 31 := ⟨_, _, Tryz.underlying33, rfl, rfl, rfl, fun w => ⟨0, Tryz.sizeOf31 w⟩⟩
instance : TZL Tryz.prog 33 [.int .i64 0, .int .i64 0, .slice none 0 0] := ⟨_, Tryz.zeroValue33, rfl⟩
instance : TIt Tryz.prog 34 .u64 := ⟨Tryz.underlying34⟩
instance : TSl Tryz.prog 35 5 := ⟨Tryz.underlying35⟩
instance : TSz Tryz.prog 36 1 := ⟨Tryz.sizeOf36⟩
instance : TAgg Tryz.prog 36 false := ⟨Tryz.isAgg36⟩
instance : TSl Tryz.prog 36 9 := ⟨Tryz.underlying36⟩
instance : TZ Tryz.prog 36 (.slice none 0 0) := ⟨Tryz.zeroValue36⟩
instance : TSz Tryz.prog 38 3 := ⟨Tryz.sizeOf38⟩
instance : TAgg Tryz.prog 38 true := ⟨Tryz.isAgg38⟩
instance : TPl Tryz.prog 38 [(0, 1), (1, 1), (2, 1)] := ⟨_, Tryz.underlying38, fun w => by simp [List.mapM_cons]⟩
instance : TFd Tryz.prog 38 0 0 3 := ⟨_, _, Tryz.underlying38, rfl, rfl, rfl, fun w => ⟨0, Tryz.sizeOf3 w⟩⟩
instance : TFd Tryz.prog 38 1 1 36 := ⟨_, _, Tryz.underlying38, rfl, rfl, rfl, fun w => ⟨0, Tryz.sizeOf36 w⟩⟩
instance : TFd Tryz.prog 38 2 2 36 := ⟨_, _, Tryz.underlying38, rfl, rfl, rfl, fun w => ⟨0, Tryz.sizeOf36 w⟩⟩
instance : TZ Tryz.prog 38 (.agg #[.int .i64 0, .slice none 0 0, .slice none 0 0]) := ⟨Tryz.zeroValue38⟩
instance : TZL Tryz.prog 38 [.int .i64 0, .slice none 0 0, .slice none 0 0] := ⟨_, Tryz.zeroValue38, rfl⟩
instance : TSz Tryz.prog 41 1 := ⟨Tryz.sizeOf41⟩
instance : TAgg Tryz.prog 41 false := ⟨Tryz.isAgg41⟩
instance : TSl Tryz.prog 41 50 := ⟨Tryz.underlying41⟩
instance : TAgg Tryz.prog 43 false := ⟨Tryz.isAgg43⟩
instance : TSz Tryz.prog 45 3 := ⟨Tryz.sizeOf45⟩
instance : TAgg Tryz.prog 45 true := ⟨Tryz.isAgg45⟩
instance : TPl Tryz.prog 45 [(0, 1), (1, 1), (2, 1)] := ⟨_, Tryz.underlying45, fun w => by simp [List.mapM_cons]⟩
instance : TFd Tryz.prog 45 0 0 3 := ⟨_, _, Tryz.underlying45, rfl, rfl, rfl, fun w => ⟨0, Tryz.sizeOf3 w⟩⟩
instance : TFd Tryz.prog 45 1 1 3 := ⟨_, _, Tryz.underlying45, rfl, rfl, rfl, fun w => ⟨0, Tryz.sizeOf3 w⟩⟩
instance : TZ Tryz.prog 45 (.agg #[.int .i64 0, .int .i64 0, .int .i64 0]) := ⟨Tryz.zeroValue45⟩
instance : TZL Tryz.prog 45 [.int .i64 0, .int .i64 0, .int .i64 0] := ⟨_, Tryz.zeroValue45, rfl⟩
instance : TIn Tryz.prog 45 3 24 (.agg #[.int .i64 0, .int .i64 0, .int .i64 0]) := ⟨_, rfl, rfl, rfl, rfl, rfl, by decide⟩
instance : TSz Tryz.prog 46 1 := ⟨Tryz.sizeOf46⟩
instance : TAgg Tryz.prog 46 false := ⟨Tryz.isAgg46⟩
instance : TSl Tryz.prog 46 3 := ⟨Tryz.underlying46⟩
instance : TSz Tryz.prog 48 9 := ⟨Tryz.sizeOf48⟩
instance : TAgg Tryz.prog 48 true := ⟨Tryz.isAgg48⟩
instance : TPl Tryz.prog 48 [(0, 1), (1, 3), (4, 3), (7, 1), (8, 1)] := ⟨_, Tryz.underlying48, fun w => by simp [List.mapM_cons]⟩
instance : TFd Tryz.prog 48 0 0 43 := ⟨_, _, Tryz.underlying48, rfl, rfl, rfl, fun w => ⟨0, Tryz.sizeOf43 w⟩⟩
instance : TFd Tryz.prog 48 1 1 45 := ⟨_, _, Tryz.underlying48, rfl, rfl, rfl, fun w => ⟨2, Tryz.sizeOf45 w⟩⟩
instance : TFd Tryz.prog 48 2 4 38 := ⟨_, _, Tryz.underlying48, rfl, rfl, rfl, fun w => ⟨2, Tryz.sizeOf38 w⟩⟩
instance : TFd Tryz.prog 48 4 8 46 := ⟨_, _, Tryz.underlying48, rfl, rfl, rfl, fun w => ⟨0, Tryz.sizeOf46 w⟩⟩
instance : TZ Tryz.prog 48 (.agg #[.int .i64 0, .int .i64 0, .int .i64 0, .int .i64 0, .int .i64 0, .slice none 0 0, .slice none 0 0, .bool false, .slice none 0 0]) := ⟨Tryz.zeroValue48⟩
instance : TZL Tryz.prog 48 [.int .i64 0, .int .i64 0, .int .i64 0, .int .i64 0, .int .i64 0, .slice none 0 0, .slice none 0 0, .bool false, .slice none 0 0] := ⟨_, Tryz.zeroValue48, rfl⟩
instance : TIn Tryz.prog 48 9 120 (.agg #[.int .i64 0, .int .i64 0, .int .i64 0, .int .i64 0, .int .i64 0, .slice none 0 0, .slice none 0 0, .bool false, .slice none 0 0]) := ⟨_, rfl, rfl, rfl, rfl, rfl, by decide⟩
instance : TSz Tryz.prog 50 10 := ⟨Tryz.sizeOf50⟩
instance : TAgg Tryz.prog 50 true := ⟨Tryz.isAgg50⟩
instance : TPl Tryz.prog 50 [(0, 1), (1, 9)] := ⟨_, Tryz.underlying50, fun w => by simp [List.mapM_cons]⟩
instance : TFd Tryz.prog 50 1 1 48 := ⟨_, _, Tryz.underlying50, rfl, rfl, rfl, fun w => ⟨8, Tryz.sizeOf48 w⟩⟩
instance : TZ Tryz.prog 50 (.agg #[.int .i64 0, .int .i64 0, .int .i64 0, .int .i64 0, .int .i64 0, .int .i64 0, .slice none 0 0, .slice none 0 0, .bool false, .slice none 0 0]) := ⟨Tryz.zeroValue50⟩
instance : TZL Tryz.prog 50 [.int .i64 0, .int .i64 0, .int .i64 0, .int .i64 0, .int .i64 0, .int .i64 0, .slice none 0 0, .slice none 0 0, .bool false, .slice none 0 0] := ⟨_, Tryz.zeroValue50, rfl⟩
instance : TIn Tryz.prog 50 10 128 (.agg #[.int .i64 0, .int .i64 0, .int .i64 0, .int .i64 0, .int .i64 0, .int .i64 0, .slice none 0 0, .slice none 0 0, .bool false, .slice none 0 0]) := ⟨_, rfl, rfl, rfl, rfl, rfl, by decide⟩
instance : TSl Tryz.prog 51 54 := ⟨Tryz.underlying51⟩
instance : TSz Tryz.prog 54 2 := ⟨Tryz.sizeOf54⟩
instance : TAgg Tryz.prog 54 true := ⟨Tryz.isAgg54⟩
instance : TPl Tryz.prog 54 [(0, 1), (1, 1)] := ⟨_, Tryz.underlying54, fun w => by simp [List.mapM_cons]⟩
instance : TFd Tryz.prog 54 0 0 9 := ⟨_, _, Tryz.underlying54, rfl, rfl, rfl, fun w => ⟨0, Tryz.sizeOf9 w⟩⟩
instance : TFd Tryz.prog 54 1 1 3 := ⟨_, _, Tryz.underlying54, rfl, rfl, rfl, fun w => ⟨0, Tryz.sizeOf3 w⟩⟩
instance : TZ Tryz.prog 54 (.agg #[.string ⟨#[]⟩, .int .i64 0]) := ⟨Tryz.zeroValue54⟩
instance : TZL Tryz.prog 54 [.string ⟨#[]⟩, .int .i64 0] := ⟨_, Tryz.zeroValue54, rfl⟩
instance : TIn Tryz.prog 54 2 24 (.agg #[.string ⟨#[]⟩, .int .i64 0]) := ⟨_, rfl, rfl, rfl, rfl, rfl, by decide⟩
instance : TAgg Tryz.prog 56 false := ⟨Tryz.isAgg56⟩
instance : TSz Tryz.prog 58 1 := ⟨Tryz.sizeOf58⟩
instance : TAgg Tryz.prog 58 false := ⟨Tryz.isAgg58⟩
instance : TSl Tryz.prog 58 66 := ⟨Tryz.underlying58⟩
instance : TPl Tryz.prog 60 [(0, 1), (1, 1), (2, 1), (3, 1)] := ⟨_, Tryz.underlying60, fun w => by simp [List.mapM_cons]⟩
instance : TFd Tryz.prog 60 0 0 58 := ⟨_, _, Tryz.underlying60, rfl, rfl, rfl, fun w => ⟨0, Tryz.sizeOf58 w⟩⟩
instance : TFd Tryz.prog 60 1 1 56 := ⟨_, _, Tryz.underlying60, rfl, rfl, rfl, fun w => ⟨0, Tryz.sizeOf56 w⟩⟩
instance : TFd Tryz.prog 60 2 2 3 := ⟨_, _, Tryz.underlying60, rfl, rfl, rfl, fun w => ⟨0, Tryz.sizeOf3 w⟩⟩
instance : TFd Tryz.prog 60 3 3 41 := ⟨_, _, Tryz.underlying60, rfl, rfl, rfl, fun w => ⟨0, Tryz.sizeOf41 w⟩⟩
instance : TZL Tryz.prog 60 [.slice none 0 0, .pointer none, .int .i64 0, .slice none 0 0] := ⟨_, Tryz.zeroValue60, rfl⟩
instance : TSz Tryz.prog 61 1 := ⟨Tryz.sizeOf61⟩
instance : TAgg Tryz.prog 61 false := ⟨Tryz.isAgg61⟩
instance : TSz Tryz.prog 63 1 := ⟨Tryz.sizeOf63⟩
instance : TAgg Tryz.prog 63 false := ⟨Tryz.isAgg63⟩
instance : TSz Tryz.prog 66 3 := ⟨Tryz.sizeOf66⟩
instance : TAgg Tryz.prog 66 true := ⟨Tryz.isAgg66⟩
instance : TPl Tryz.prog 66 [(0, 1), (1, 1), (2, 1)] := ⟨_, Tryz.underlying66, fun w => by simp [List.mapM_cons]⟩
instance : TFd Tryz.prog 66 0 0 61 := ⟨_, _, Tryz.underlying66, rfl, rfl, rfl, fun w => ⟨0, Tryz.sizeOf61 w⟩⟩
instance : TFd Tryz.prog 66 1 1 63 := ⟨_, _, Tryz.underlying66, rfl, rfl, rfl, fun w => ⟨0, Tryz.sizeOf63 w⟩⟩
instance : TFd Tryz.prog 66 2 2 3 := ⟨_, _, Tryz.underlying66, rfl, rfl, rfl, fun w => ⟨0, Tryz.sizeOf3 w⟩⟩
instance : TZ Tryz.prog 66 (.agg #[.pointer none, .pointer none, .int .i64 0]) := ⟨Tryz.zeroValue66⟩
instance : TZL Tryz.prog 66 [.pointer none, .pointer none, .int .i64 0] := ⟨_, Tryz.zeroValue66, rfl⟩
instance : TIn Tryz.prog 66 3 24 (.agg #[.pointer none, .pointer none, .int .i64 0]) := ⟨_, rfl, rfl, rfl, rfl, rfl, by decide⟩
instance : TSz Tryz.prog 68 1 := ⟨Tryz.sizeOf68⟩
instance : TAgg Tryz.prog 68 false := ⟨Tryz.isAgg68⟩
instance : TSl Tryz.prog 68 81 := ⟨Tryz.underlying68⟩
instance : TSz Tryz.prog 72 1 := ⟨Tryz.sizeOf72⟩
instance : TAgg Tryz.prog 72 false := ⟨Tryz.isAgg72⟩
instance : TFd Tryz.prog 75 1 1 46 := ⟨_, _, Tryz.underlying75, rfl, rfl, rfl, fun w => ⟨0, Tryz.sizeOf46 w⟩⟩
instance : TFd Tryz.prog 77 2 2 75 := ⟨_, _, Tryz.underlying77, rfl, rfl, rfl, fun w => ⟨1, Tryz.sizeOf75 w⟩⟩
instance : TFd Tryz.prog 79 2 2 75 := ⟨_, _, Tryz.underlying79, rfl, rfl, rfl, fun w => ⟨1, Tryz.sizeOf75 w⟩⟩
instance : TSz Tryz.prog 81 19 := ⟨Tryz.sizeOf81⟩
instance : TAgg Tryz.prog 81 true := ⟨Tryz.isAgg81⟩
instance : TPl Tryz.prog 81 [(0, 1), (1, 1), (2, 1), (3, 3), (6, 3), (9, 1), (10, 1), (11, 4), (15, 4)] := ⟨_, Tryz.underlying81, fun w => by simp [List.mapM_cons]⟩
instance : TFd Tryz.prog 81 0 0 3 := ⟨_, _, Tryz.underlying81, rfl, rfl, rfl, fun w => ⟨0, Tryz.sizeOf3 w⟩⟩
instance : TFd Tryz.prog 81 1 1 3 := ⟨_, _, Tryz.underlying81, rfl, rfl, rfl, fun w => ⟨0, Tryz.sizeOf3 w⟩⟩
instance : TFd Tryz.prog 81 2 2 72 := ⟨_, _, Tryz.underlying81, rfl, rfl, rfl, fun w => ⟨0, Tryz.sizeOf72 w⟩⟩
instance : TFd Tryz.prog 81 3 3 45 := ⟨_, _, Tryz.underlying81, rfl, rfl, rfl, fun w => ⟨2, Tryz.sizeOf45 w⟩⟩
instance : TFd Tryz.prog 81 4 6 38 := ⟨_, _, Tryz.underlying81, rfl, rfl, rfl, fun w => ⟨2, Tryz.sizeOf38 w⟩⟩
instance : TFd Tryz.prog 81 5 9 4 := ⟨_, _, Tryz.underlying81, rfl, rfl, rfl, fun w => ⟨0, Tryz.sizeOf4 w⟩⟩
instance : TFd Tryz.prog 81 7 11 77 := ⟨_, _, Tryz.underlying81, rfl, rfl, rfl, fun w => ⟨3, Tryz.sizeOf77 w⟩⟩
instance : TFd Tryz.prog 81 8 15 79 := ⟨_, _, Tryz.underlying81, rfl, rfl, rfl, fun w => ⟨3, Tryz.sizeOf79 w⟩⟩
instance : TZ Tryz.prog 81 (.agg #[.int .i64 0, .int .i64 0, .int .i64 0, .int .i64 0, .int .i64 0, .int .i64 0, .int .i64 0, .slice none 0 0, .slice none 0 0, .bool false, .int .i64 0, .int .i64 0, .int .i64 0, .int .i64 0, .slice none 0 0, .int .i64 0, .int .i64 0, .int .i64 0, .slice none 0 0]) := ⟨Tryz.zeroValue81⟩
instance : TZL Tryz.prog 81 [.int .i64 0, .int .i64 0, .int .i64 0, .int .i64 0, .int .i64 0, .int .i64 0, .int .i64 0, .slice none 0 0, .slice none 0 0, .bool false, .int .i64 0, .int .i64 0, .int .i64 0, .int .i64 0, .slice none 0 0, .int .i64 0, .int .i64 0, .int .i64 0, .slice none 0 0] := ⟨_, Tryz.zeroValue81, rfl⟩
instance : TIn Tryz.prog 81 19 216 (.agg #[.int .i64 0, .int .i64 0, .int .i64 0, .int .i64 0, .int .i64 0, .int .i64 0, .int .i64 0, .slice none 0 0, .slice none 0 0, .bool false, .int .i64 0, .int .i64 0, .int .i64 0, .int .i64 0, .slice none 0 0, .int .i64 0, .int .i64 0, .int .i64 0, .slice none 0 0]) := ⟨_, rfl, rfl, rfl, rfl, rfl, by decide⟩
instance : TSl Tryz.prog 87 136 := ⟨Tryz.underlying87⟩
instance : TAgg Tryz.prog 98 false := ⟨Tryz.isAgg98⟩
instance : TPl Tryz.prog 100 [(0, 1), (1, 1), (2, 1)] := ⟨_, Tryz.underlying100, fun w => by simp [List.mapM_cons]⟩
instance : TFd Tryz.prog 100 0 0 98 := ⟨_, _, Tryz.underlying100, rfl, rfl, rfl, fun w => ⟨0, Tryz.sizeOf98 w⟩⟩
instance : TFd Tryz.prog 100 1 1 3 := ⟨_, _, Tryz.underlying100, rfl, rfl, rfl, fun w => ⟨0, Tryz.sizeOf3 w⟩⟩
instance : TFd Tryz.prog 100 2 2 29 := ⟨_, _, Tryz.underlying100, rfl, rfl, rfl, fun w => ⟨0, Tryz.sizeOf29 w⟩⟩
instance : TZL Tryz.prog 100 [.pointer none, .int .i64 0, .map none] := ⟨_, Tryz.zeroValue100, rfl⟩
instance : TPl Tryz.prog 102 [(0, 1)] := ⟨_, Tryz.underlying102, fun w => by simp [List.mapM_cons]⟩
instance : TFd Tryz.prog 102 0 0 68 := ⟨_, _, Tryz.underlying102, rfl, rfl, rfl, fun w => ⟨0, Tryz.sizeOf68 w⟩⟩
instance : TZL Tryz.prog 102 [.slice none 0 0] := ⟨_, Tryz.zeroValue102, rfl⟩
instance : TAgg Tryz.prog 104 false := ⟨Tryz.isAgg104⟩
instance : TMap Tryz.prog 104 45 107 := ⟨Tryz.underlying104⟩
instance : TPl Tryz.prog 106 [(0, 1), (1, 1), (2, 1), (3, 1)] := ⟨_, Tryz.underlying106, fun w => by simp [List.mapM_cons]⟩
instance : TFd Tryz.prog 106 0 0 3 := ⟨_, _, Tryz.underlying106, rfl, rfl, rfl, fun w => ⟨0, Tryz.sizeOf3 w⟩⟩
instance : TFd Tryz.prog 106 1 1 3 := ⟨_, _, Tryz.underlying106, rfl, rfl, rfl, fun w => ⟨0, Tryz.sizeOf3 w⟩⟩
instance : TFd Tryz.prog 106 2 2 3 := ⟨_, _, Tryz.underlying106, rfl, rfl, rfl, fun w => ⟨0, Tryz.sizeOf3 w⟩⟩
instance : TFd Tryz.prog 106 3 3 104 := ⟨_, _, Tryz.underlying106, rfl, rfl, rfl, fun w => ⟨0, Tryz.sizeOf104 w⟩⟩
instance : TZL Tryz.prog 106 [.int .i64 0, .int .i64 0, .int .i64 0, .map none] := ⟨_, Tryz.zeroValue106, rfl⟩
instance : TPt Tryz.prog 107 := ⟨_, Tryz.underlying107⟩
instance : TZ Tryz.prog 107 (.pointer none) := ⟨Tryz.zeroValue107⟩
instance : TSz Tryz.prog 108 1 := ⟨Tryz.sizeOf108⟩
instance : TAgg Tryz.prog 108 false := ⟨Tryz.isAgg108⟩
instance : TMap Tryz.prog 108 3 38 := ⟨Tryz.underlying108⟩
instance : TSz Tryz.prog 109 1 := ⟨Tryz.sizeOf109⟩
instance : TAgg Tryz.prog 109 false := ⟨Tryz.isAgg109⟩
instance : TMap Tryz.prog 109 3 3 := ⟨Tryz.underlying109⟩
instance : TPl Tryz.prog 111 [(0, 1), (1, 1), (2, 1), (3, 1), (4, 1)] := ⟨_, Tryz.underlying111, fun w => by simp [List.mapM_cons]⟩
instance : TFd Tryz.prog 111 0 0 4 := ⟨_, _, Tryz.underlying111, rfl, rfl, rfl, fun w => ⟨0, Tryz.sizeOf4 w⟩⟩
instance : TFd Tryz.prog 111 1 1 3 := ⟨_, _, Tryz.underlying111, rfl, rfl, rfl, fun w => ⟨0, Tryz.sizeOf3 w⟩⟩
instance : TFd Tryz.prog 111 2 2 46 := ⟨_, _, Tryz.underlying111, rfl, rfl, rfl, fun w => ⟨0, Tryz.sizeOf46 w⟩⟩
instance : TFd Tryz.prog 111 3 3 108 := ⟨_, _, Tryz.underlying111, rfl, rfl, rfl, fun w => ⟨0, Tryz.sizeOf108 w⟩⟩
instance : TFd Tryz.prog 111 4 4 109 := ⟨_, _, Tryz.underlying111, rfl, rfl, rfl, fun w => ⟨0, Tryz.sizeOf109 w⟩⟩
instance : TZL Tryz.prog 111 [.bool false, .int .i64 0, .slice none 0 0, .map none, .map none] := ⟨_, Tryz.zeroValue111, rfl⟩
instance : TSl Tryz.prog 118 48 := ⟨Tryz.underlying118⟩
instance : TSl Tryz.prog 127 157 := ⟨Tryz.underlying127⟩
instance : TSl Tryz.prog 132 45 := ⟨Tryz.underlying132⟩
instance : TSz Tryz.prog 136 5 := ⟨Tryz.sizeOf136⟩
instance : TAgg Tryz.prog 136 true := ⟨Tryz.isAgg136⟩
instance : TPl Tryz.prog 136 [(0, 3), (3, 1), (4, 1)] := ⟨_, Tryz.underlying136, fun w => by simp [List.mapM_cons]⟩
instance : TZ Tryz.prog 136 (.agg #[.int .i64 0, .int .i64 0, .int .i64 0, .bool false, .bool false]) := ⟨Tryz.zeroValue136⟩
instance : TZL Tryz.prog 136 [.int .i64 0, .int .i64 0, .int .i64 0, .bool false, .bool false] := ⟨_, Tryz.zeroValue136, rfl⟩
instance : TIn Tryz.prog 136 5 32 (.agg #[.int .i64 0, .int .i64 0, .int .i64 0, .bool false, .bool false]) := ⟨_, rfl, rfl, rfl, rfl, rfl, by decide⟩
instance : TAgg Tryz.prog 143 false := ⟨Tryz.isAgg143⟩
instance : TMap Tryz.prog 143 9 3 := ⟨Tryz.underlying143⟩
instance : TAgg Tryz.prog 144 false := ⟨Tryz.isAgg144⟩
instance : TMap Tryz.prog 144 9 45 := ⟨Tryz.underlying144⟩
instance : TPl Tryz.prog 146 [(0, 1), (1, 1), (2, 1)] := ⟨_, Tryz.underlying146, fun w => by simp [List.mapM_cons]⟩
instance : TFd Tryz.prog 146 0 0 143 := ⟨_, _, Tryz.underlying146, rfl, rfl, rfl, fun w => ⟨0, Tryz.sizeOf143 w⟩⟩
instance : TFd Tryz.prog 146 1 1 144 := ⟨_, _, Tryz.underlying146, rfl, rfl, rfl, fun w => ⟨0, Tryz.sizeOf144 w⟩⟩
instance : TFd Tryz.prog 146 2 2 28 := ⟨_, _, Tryz.underlying146, rfl, rfl, rfl, fun w => ⟨0, Tryz.sizeOf28 w⟩⟩
instance : TZL Tryz.prog 146 [.map none, .map none, .map none] := ⟨_, Tryz.zeroValue146, rfl⟩
instance : TSz Tryz.prog 157 4 := ⟨Tryz.sizeOf157⟩
instance : TAgg Tryz.prog 157 true := ⟨Tryz.isAgg157⟩
instance : TPl Tryz.prog 157 [(0, 3), (3, 1)] := ⟨_, Tryz.underlying157, fun w => by simp [List.mapM_cons]⟩
instance : TFd Tryz.prog 157 0 0 45 := ⟨_, _, Tryz.underlying157, rfl, rfl, rfl, fun w => ⟨2, Tryz.sizeOf45 w⟩⟩
instance : TFd Tryz.prog 157 1 3 3 := ⟨_, _, Tryz.underlying157, rfl, rfl, rfl, fun w => ⟨0, Tryz.sizeOf3 w⟩⟩
instance : TZ Tryz.prog 157 (.agg #[.int .i64 0, .int .i64 0, .int .i64 0, .int .i64 0]) := ⟨Tryz.zeroValue157⟩
instance : TZL Tryz.prog 157 [.int .i64 0, .int .i64 0, .int .i64 0, .int .i64 0] := ⟨_, Tryz.zeroValue157, rfl⟩
instance : TIn Tryz.prog 157 4 32 (.agg #[.int .i64 0, .int .i64 0, .int .i64 0, .int .i64 0]) := ⟨_, rfl, rfl, rfl, rfl, rfl, by decide⟩
instance : TSz Tryz.prog 176 3 := ⟨Tryz.sizeOf176⟩
instance : TAgg Tryz.prog 176 true := ⟨Tryz.isAgg176⟩
instance : TPl Tryz.prog 176 [(0, 1), (1, 1), (2, 1)] := ⟨_, Tryz.underlying176, fun w => by simp [List.mapM_cons]⟩
instance : TFd Tryz.prog 176 2 2 3 := ⟨_, _, Tryz.underlying176, rfl, rfl, rfl, fun w => ⟨0, Tryz.sizeOf3 w⟩⟩
instance : TZL Tryz.prog 176 [.int .i64 0, .int .i64 0, .int .i64 0] := ⟨_, Tryz.zeroValue176, rfl⟩
instance : TSl Tryz.prog 192 36 := ⟨Tryz.underlying192⟩
instance : TBody Tryz.prog 3 Tryz.f3 (Tryz.f3.body.getD .skip) 188 := ⟨Tryz.func3, rfl, Tryz.ntmps3⟩
instance : TFn Tryz.prog 4 := ⟨Tryz.call4⟩
instance : TBody Tryz.prog 4 Tryz.f4 (Tryz.f4.body.getD .skip) 35 := ⟨Tryz.func4, rfl, Tryz.ntmps4⟩
instance : TFn Tryz.prog 5 := ⟨Tryz.call5⟩
instance : TBody Tryz.prog 5 Tryz.f5 (Tryz.f5.body.getD .skip) 50 := ⟨Tryz.func5, rfl, Tryz.ntmps5⟩
instance : TFn Tryz.prog 6 := ⟨Tryz.call6⟩
instance : TBody Tryz.prog 6 Tryz.f6 (Tryz.f6.body.getD .skip) 143 := ⟨Tryz.func6, rfl, Tryz.ntmps6⟩
instance : TFn Tryz.prog 7 := ⟨Tryz.call7⟩
instance : TBody Tryz.prog 7 Tryz.f7 (Tryz.f7.body.getD .skip) 8 := ⟨Tryz.func7, rfl, Tryz.ntmps7⟩
instance : TFn Tryz.prog 8 := ⟨Tryz.call8⟩
instance : TBody Tryz.prog 8 Tryz.f8 (Tryz.f8.body.getD .skip) 50 := ⟨Tryz.func8, rfl, Tryz.ntmps8⟩
instance : TFn Tryz.prog 9 := ⟨Tryz.call9⟩
instance : TBody Tryz.prog 9 Tryz.f9 (Tryz.f9.body.getD .skip) 7 := ⟨Tryz.func9, rfl, Tryz.ntmps9⟩
instance : TFn Tryz.prog 10 := ⟨Tryz.call10⟩
instance : TBody Tryz.prog 10 Tryz.f10 (Tryz.f10.body.getD .skip) 20 := ⟨Tryz.func10, rfl, Tryz.ntmps10⟩
instance : TFn Tryz.prog 11 := ⟨Tryz.call11⟩
instance : TBody Tryz.prog 11 Tryz.f11 (Tryz.f11.body.getD .skip) 3 := ⟨Tryz.func11, rfl, Tryz.ntmps11⟩
instance : TFn Tryz.prog 12 := ⟨Tryz.call12⟩
instance : TBody Tryz.prog 12 Tryz.f12 (Tryz.f12.body.getD .skip) 8 := ⟨Tryz.func12, rfl, Tryz.ntmps12⟩
instance : TFn Tryz.prog 13 := ⟨Tryz.call13⟩
instance : TBody Tryz.prog 13 Tryz.f13 (Tryz.f13.body.getD .skip) 10 := ⟨Tryz.func13, rfl, Tryz.ntmps13⟩
instance : TFn Tryz.prog 14 := ⟨Tryz.call14⟩
instance : TBody Tryz.prog 14 Tryz.f14 (Tryz.f14.body.getD .skip) 69 := ⟨Tryz.func14, rfl, Tryz.ntmps14⟩
instance : TFn Tryz.prog 15 := ⟨Tryz.call15⟩
instance : TBody Tryz.prog 15 Tryz.f15 (Tryz.f15.body.getD .skip) 89 := ⟨Tryz.func15, rfl, Tryz.ntmps15⟩
instance : TFn Tryz.prog 16 := ⟨Tryz.call16⟩
instance : TBody Tryz.prog 16 Tryz.f16 (Tryz.f16.body.getD .skip) 19 := ⟨Tryz.func16, rfl, Tryz.ntmps16⟩
instance : TFn Tryz.prog 17 := ⟨Tryz.call17⟩
instance : TBody Tryz.prog 17 Tryz.f17 (Tryz.f17.body.getD .skip) 29 := ⟨Tryz.func17, rfl, Tryz.ntmps17⟩
instance : TFn Tryz.prog 18 := ⟨Tryz.call18⟩
instance : TBody Tryz.prog 18 Tryz.f18 (Tryz.f18.body.getD .skip) 59 := ⟨Tryz.func18, rfl, Tryz.ntmps18⟩
instance : TFn Tryz.prog 19 := ⟨Tryz.call19⟩
instance : TBody Tryz.prog 19 Tryz.f19 (Tryz.f19.body.getD .skip) 70 := ⟨Tryz.func19, rfl, Tryz.ntmps19⟩
instance : TFn Tryz.prog 20 := ⟨Tryz.call20⟩
instance : TBody Tryz.prog 20 Tryz.f20 (Tryz.f20.body.getD .skip) 14 := ⟨Tryz.func20, rfl, Tryz.ntmps20⟩
instance : TFn Tryz.prog 21 := ⟨Tryz.call21⟩
instance : TBody Tryz.prog 21 Tryz.f21 (Tryz.f21.body.getD .skip) 18 := ⟨Tryz.func21, rfl, Tryz.ntmps21⟩
instance : TFn Tryz.prog 22 := ⟨Tryz.call22⟩
instance : TBody Tryz.prog 22 Tryz.f22 (Tryz.f22.body.getD .skip) 62 := ⟨Tryz.func22, rfl, Tryz.ntmps22⟩
instance : TFn Tryz.prog 23 := ⟨Tryz.call23⟩
instance : TBody Tryz.prog 23 Tryz.f23 (Tryz.f23.body.getD .skip) 31 := ⟨Tryz.func23, rfl, Tryz.ntmps23⟩
instance : TFn Tryz.prog 24 := ⟨Tryz.call24⟩
instance : TBody Tryz.prog 24 Tryz.f24 (Tryz.f24.body.getD .skip) 8 := ⟨Tryz.func24, rfl, Tryz.ntmps24⟩
instance : TFn Tryz.prog 25 := ⟨Tryz.call25⟩
instance : TBody Tryz.prog 25 Tryz.f25 (Tryz.f25.body.getD .skip) 8 := ⟨Tryz.func25, rfl, Tryz.ntmps25⟩
instance : TFn Tryz.prog 26 := ⟨Tryz.call26⟩
instance : TBody Tryz.prog 26 Tryz.f26 (Tryz.f26.body.getD .skip) 8 := ⟨Tryz.func26, rfl, Tryz.ntmps26⟩
instance : TFn Tryz.prog 27 := ⟨Tryz.call27⟩
instance : TBody Tryz.prog 27 Tryz.f27 (Tryz.f27.body.getD .skip) 8 := ⟨Tryz.func27, rfl, Tryz.ntmps27⟩
instance : TFn Tryz.prog 28 := ⟨Tryz.call28⟩
instance : TBody Tryz.prog 28 Tryz.f28 (Tryz.f28.body.getD .skip) 25 := ⟨Tryz.func28, rfl, Tryz.ntmps28⟩
instance : TFn Tryz.prog 29 := ⟨Tryz.call29⟩
instance : TBody Tryz.prog 29 Tryz.f29 (Tryz.f29.body.getD .skip) 30 := ⟨Tryz.func29, rfl, Tryz.ntmps29⟩
instance : TFn Tryz.prog 30 := ⟨Tryz.call30⟩
instance : TBody Tryz.prog 30 Tryz.f30 (Tryz.f30.body.getD .skip) 6 := ⟨Tryz.func30, rfl, Tryz.ntmps30⟩
instance : TFn Tryz.prog 31 := ⟨Tryz.call31⟩
instance : TBody Tryz.prog 31 Tryz.f31 (Tryz.f31.body.getD .skip) 12 := ⟨Tryz.func31, rfl, Tryz.ntmps31⟩
instance : TFn Tryz.prog 32 := ⟨Tryz.call32⟩
instance : TBody Tryz.prog 32 Tryz.f32 (Tryz.f32.body.getD .skip) 58 := ⟨Tryz.func32, rfl, Tryz.ntmps32⟩
instance : TFn Tryz.prog 33 := ⟨Tryz.call33⟩
instance : TBody Tryz.prog 33 Tryz.f33 (Tryz.f33.body.getD .skip) 22 := ⟨Tryz.func33, rfl, Tryz.ntmps33⟩
instance : TFn Tryz.prog 34 := ⟨Tryz.call34⟩
instance : TBody Tryz.prog 34 Tryz.f34 (Tryz.f34.body.getD .skip) 26 := ⟨Tryz.func34, rfl, Tryz.ntmps34⟩
instance : TFn Tryz.prog 35 := ⟨Tryz.call35⟩
instance : TBody Tryz.prog 35 Tryz.f35 (Tryz.f35.body.getD .skip) 33 := ⟨Tryz.func35, rfl, Tryz.ntmps35⟩
instance : TFn Tryz.prog 36 := ⟨Tryz.call36⟩
instance : TBody Tryz.prog 36 Tryz.f36 (Tryz.f36.body.getD .skip) 115 := ⟨Tryz.func36, rfl, Tryz.ntmps36⟩
instance : TFn Tryz.prog 37 := ⟨Tryz.call37⟩
instance : TBody Tryz.prog 37 Tryz.f37 (Tryz.f37.body.getD .skip) 205 := ⟨Tryz.func37, rfl, Tryz.ntmps37⟩
instance : TFn Tryz.prog 38 := ⟨Tryz.call38⟩
instance : TBody Tryz.prog 38 Tryz.f38 (Tryz.f38.body.getD .skip) 64 := ⟨Tryz.func38, rfl, Tryz.ntmps38⟩
instance : TFn Tryz.prog 39 := ⟨Tryz.call39⟩
instance : TBody Tryz.prog 39 Tryz.f39 (Tryz.f39.body.getD .skip) 31 := ⟨Tryz.func39, rfl, Tryz.ntmps39⟩
instance : TFn Tryz.prog 40 := ⟨Tryz.call40⟩
instance : TBody Tryz.prog 40 Tryz.f40 (Tryz.f40.body.getD .skip) 30 := ⟨Tryz.func40, rfl, Tryz.ntmps40⟩
instance : TFn Tryz.prog 41 := ⟨Tryz.call41⟩
instance : TBody Tryz.prog 41 Tryz.f41 (Tryz.f41.body.getD .skip) 77 := ⟨Tryz.func41, rfl, Tryz.ntmps41⟩
instance : TFn Tryz.prog 42 := ⟨Tryz.call42⟩
instance : TBody Tryz.prog 42 Tryz.f42 (Tryz.f42.body.getD .skip) 36 := ⟨Tryz.func42, rfl, Tryz.ntmps42⟩
instance : TFn Tryz.prog 43 := ⟨Tryz.call43⟩
instance : TBody Tryz.prog 43 Tryz.f43 (Tryz.f43.body.getD .skip) 27 := ⟨Tryz.func43, rfl, Tryz.ntmps43⟩
instance : TFn Tryz.prog 44 := ⟨Tryz.call44⟩
instance : TBody Tryz.prog 44 Tryz.f44 (Tryz.f44.body.getD .skip) 9 := ⟨Tryz.func44, rfl, Tryz.ntmps44⟩
instance : TFn Tryz.prog 45 := ⟨Tryz.call45⟩
instance : TBody Tryz.prog 45 Tryz.f45 (Tryz.f45.body.getD .skip) 16 := ⟨Tryz.func45, rfl, Tryz.ntmps45⟩
instance : TFn Tryz.prog 46 := ⟨Tryz.call46⟩
instance : TBody Tryz.prog 46 Tryz.f46 (Tryz.f46.body.getD .skip) 39 := ⟨Tryz.func46, rfl, Tryz.ntmps46⟩
instance : TFn Tryz.prog 47 := ⟨Tryz.call47⟩
instance : TFn Tryz.prog 48 := ⟨Tryz.call48⟩
instance : TFn Tryz.prog 49 := ⟨Tryz.call49⟩
instance : TBody Tryz.prog 49 Tryz.f49 (Tryz.f49.body.getD .skip) 32 := ⟨Tryz.func49, rfl, Tryz.ntmps49⟩
instance : TFn Tryz.prog 50 := ⟨Tryz.call50⟩
instance : TBody Tryz.prog 50 Tryz.f50 (Tryz.f50.body.getD .skip) 12 := ⟨Tryz.func50, rfl, Tryz.ntmps50⟩
instance : TFn Tryz.prog 51 := ⟨Tryz.call51⟩
instance : TBody Tryz.prog 51 Tryz.f51 (Tryz.f51.body.getD .skip) 122 := ⟨Tryz.func51, rfl, Tryz.ntmps51⟩
instance : TFn Tryz.prog 52 := ⟨Tryz.call52⟩
instance : TBody Tryz.prog 52 Tryz.f52 (Tryz.f52.body.getD .skip) 12 := ⟨Tryz.func52, rfl, Tryz.ntmps52⟩
instance : TFn Tryz.prog 53 := ⟨Tryz.call53⟩
instance : TBody Tryz.prog 53 Tryz.f53 (Tryz.f53.body.getD .skip) 53 := ⟨Tryz.func53, rfl, Tryz.ntmps53⟩
instance : TFn Tryz.prog 54 := ⟨Tryz.call54⟩
instance : TBody Tryz.prog 54 Tryz.f54 (Tryz.f54.body.getD .skip) 96 := ⟨Tryz.func54, rfl, Tryz.ntmps54⟩
instance : TFn Tryz.prog 55 := ⟨Tryz.call55⟩
instance : TBody Tryz.prog 55 Tryz.f55 (Tryz.f55.body.getD .skip) 9 := ⟨Tryz.func55, rfl, Tryz.ntmps55⟩
instance : TFn Tryz.prog 56 := ⟨Tryz.call56⟩
instance : TBody Tryz.prog 56 Tryz.f56 (Tryz.f56.body.getD .skip) 68 := ⟨Tryz.func56, rfl, Tryz.ntmps56⟩
instance : TFn Tryz.prog 57 := ⟨Tryz.call57⟩
instance : TFn Tryz.prog 58 := ⟨Tryz.call58⟩
instance : TFn Tryz.prog 60 := ⟨Tryz.call60⟩
instance : TBody Tryz.prog 60 Tryz.f60 (Tryz.f60.body.getD .skip) 12 := ⟨Tryz.func60, rfl, Tryz.ntmps60⟩
instance : TFn Tryz.prog 61 := ⟨Tryz.call61⟩
instance : TFn Tryz.prog 63 := ⟨Tryz.call63⟩
instance : TBody Tryz.prog 63 Tryz.f63 (Tryz.f63.body.getD .skip) 20 := ⟨Tryz.func63, rfl, Tryz.ntmps63⟩
instance : TFn Tryz.prog 64 := ⟨Tryz.call64⟩
instance : TBody Tryz.prog 64 Tryz.f64 (Tryz.f64.body.getD .skip) 42 := ⟨Tryz.func64, rfl, Tryz.ntmps64⟩
instance : TFn Tryz.prog 65 := ⟨Tryz.call65⟩
instance : TBody Tryz.prog 65 Tryz.f65 (Tryz.f65.body.getD .skip) 8 := ⟨Tryz.func65, rfl, Tryz.ntmps65⟩
instance : TFn Tryz.prog 66 := ⟨Tryz.call66⟩
instance : TFn Tryz.prog 69 := ⟨Tryz.call69⟩
instance : TFn Tryz.prog 71 := ⟨Tryz.call71⟩
instance : TBody Tryz.prog 71 Tryz.f71 (Tryz.f71.body.getD .skip) 9 := ⟨Tryz.func71, rfl, Tryz.ntmps71⟩
instance : TFn Tryz.prog 72 := ⟨Tryz.call72⟩
instance : TBody Tryz.prog 72 Tryz.f72 (Tryz.f72.body.getD .skip) 8 := ⟨Tryz.func72, rfl, Tryz.ntmps72⟩
instance : TFn Tryz.prog 73 := ⟨Tryz.call73⟩
instance : TBody Tryz.prog 73 Tryz.f73 (Tryz.f73.body.getD .skip) 36 := ⟨Tryz.func73, rfl, Tryz.ntmps73⟩
instance : TFn Tryz.prog 74 := ⟨Tryz.call74⟩
instance : TFn Tryz.prog 75 := ⟨Tryz.call75⟩
instance : TBody Tryz.prog 75 Tryz.f75 (Tryz.f75.body.getD .skip) 101 := ⟨Tryz.func75, rfl, Tryz.ntmps75⟩
instance : TFn Tryz.prog 76 := ⟨Tryz.call76⟩
instance : TBody Tryz.prog 76 Tryz.f76 (Tryz.f76.body.getD .skip) 19 := ⟨Tryz.func76, rfl, Tryz.ntmps76⟩
instance : TFn Tryz.prog 77 := ⟨Tryz.call77⟩
instance : TBody Tryz.prog 77 Tryz.f77 (Tryz.f77.body.getD .skip) 9 := ⟨Tryz.func77, rfl, Tryz.ntmps77⟩
instance : TFn Tryz.prog 78 := ⟨Tryz.call78⟩
instance : TBody Tryz.prog 78 Tryz.f78 (Tryz.f78.body.getD .skip) 10 := ⟨Tryz.func78, rfl, Tryz.ntmps78⟩
instance : TFn Tryz.prog 79 := ⟨Tryz.call79⟩
instance : TBody Tryz.prog 79 Tryz.f79 (Tryz.f79.body.getD .skip) 26 := ⟨Tryz.func79, rfl, Tryz.ntmps79⟩
instance : TFn Tryz.prog 86 := ⟨Tryz.call86⟩
instance : TBody Tryz.prog 86 Tryz.f86 (Tryz.f86.body.getD .skip) 19 := ⟨Tryz.func86, rfl, Tryz.ntmps86⟩
instance : TFn Tryz.prog 91 := ⟨Tryz.call91⟩
instance : TBody Tryz.prog 91 Tryz.f91 (Tryz.f91.body.getD .skip) 19 := ⟨Tryz.func91, rfl, Tryz.ntmps91⟩
instance : TFn Tryz.prog 92 := ⟨Tryz.call92⟩
instance : TBody Tryz.prog 92 Tryz.f92 (Tryz.f92.body.getD .skip) 27 := ⟨Tryz.func92, rfl, Tryz.ntmps92⟩
instance : TFn Tryz.prog 93 := ⟨Tryz.call93⟩
instance : TBody Tryz.prog 93 Tryz.f93 (Tryz.f93.body.getD .skip) 13 := ⟨Tryz.func93, rfl, Tryz.ntmps93⟩
instance : TFn Tryz.prog 94 := ⟨Tryz.call94⟩
instance : TBody Tryz.prog 94 Tryz.f94 (Tryz.f94.body.getD .skip) 28 := ⟨Tryz.func94, rfl, Tryz.ntmps94⟩
instance : TFn Tryz.prog 95 := ⟨Tryz.call95⟩
instance : TFn Tryz.prog 111 := ⟨Tryz.call111⟩
instance : TFn Tryz.prog 112 := ⟨Tryz.call112⟩
instance : TMix Tryz.prog := ⟨rfl⟩
end Go.Proofs.YtpphdbnifbjfmaaGreatDoor
