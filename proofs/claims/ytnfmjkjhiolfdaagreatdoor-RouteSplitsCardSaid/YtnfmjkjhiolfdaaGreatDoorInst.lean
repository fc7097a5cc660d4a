/- Written by program (gen_inst.py) for this seat: what the walk asks of its types and functions. -/
import Derived.Test.YtnfmjkjhiolfdaaGreatDoorKB
import Derived.Test.YtnfmjkjhiolfdaaGreatDoorProg
set_option maxRecDepth 100000
namespace Go.Proofs.YtnfmjkjhiolfdaaGreatDoor
open Go Go.Sx Go.Proofs
instance : TSz Tryz.prog 1 1 := ⟨Tryz.sizeOf1⟩
instance : TAgg Tryz.prog 1 false := ⟨Tryz.isAgg1⟩
instance : TZ Tryz.prog 1 (.nilFunc) := ⟨Tryz.zeroValue1⟩
instance : TZL Tryz.prog 1 [.nilFunc] := ⟨_, Tryz.zeroValue1, rfl⟩
instance : TIn Tryz.prog 1 1 8 (.nilFunc) := ⟨_, rfl, rfl, rfl, rfl, rfl, by decide⟩
instance : TSz Tryz.prog 2 1 := ⟨Tryz.sizeOf2⟩
instance : TAgg Tryz.prog 2 false := ⟨Tryz.isAgg2⟩
instance : TIt Tryz.prog 2 .i64 := ⟨Tryz.underlying2⟩
instance : TZ Tryz.prog 2 (.int .i64 0) := ⟨Tryz.zeroValue2⟩
instance : TZL Tryz.prog 2 [.int .i64 0] := ⟨_, Tryz.zeroValue2, rfl⟩
instance : TIn Tryz.prog 2 1 8 (.int .i64 0) := ⟨_, rfl, rfl, rfl, rfl, rfl, by decide⟩
instance : TSz Tryz.prog 3 1 := ⟨Tryz.sizeOf3⟩
instance : TAgg Tryz.prog 3 false := ⟨Tryz.isAgg3⟩
instance : TIt Tryz.prog 3 .i64 := ⟨Tryz.underlying3⟩
instance : TZ Tryz.prog 3 (.int .i64 0) := ⟨Tryz.zeroValue3⟩
instance : TZL Tryz.prog 3 [.int .i64 0] := ⟨_, Tryz.zeroValue3, rfl⟩
instance : TIn Tryz.prog 3 1 8 (.int .i64 0) := ⟨_, rfl, rfl, rfl, rfl, rfl, by decide⟩
instance : TSz Tryz.prog 4 1 := ⟨Tryz.sizeOf4⟩
instance : TAgg Tryz.prog 4 false := ⟨Tryz.isAgg4⟩
instance : TBo Tryz.prog 4 := ⟨Tryz.underlying4⟩
instance : TZ Tryz.prog 4 (.bool false) := ⟨Tryz.zeroValue4⟩
instance : TZL Tryz.prog 4 [.bool false] := ⟨_, Tryz.zeroValue4, rfl⟩
instance : TIn Tryz.prog 4 1 1 (.bool false) := ⟨_, rfl, rfl, rfl, rfl, rfl, by decide⟩
instance : TSz Tryz.prog 5 1 := ⟨Tryz.sizeOf5⟩
instance : TAgg Tryz.prog 5 false := ⟨Tryz.isAgg5⟩
instance : TIt Tryz.prog 5 .u8 := ⟨Tryz.underlying5⟩
instance : TZ Tryz.prog 5 (.int .u8 0) := ⟨Tryz.zeroValue5⟩
instance : TZL Tryz.prog 5 [.int .u8 0] := ⟨_, Tryz.zeroValue5, rfl⟩
instance : TIn Tryz.prog 5 1 1 (.int .u8 0) := ⟨_, rfl, rfl, rfl, rfl, rfl, by decide⟩
instance : TSz Tryz.prog 6 1 := ⟨Tryz.sizeOf6⟩
instance : TAgg Tryz.prog 6 false := ⟨Tryz.isAgg6⟩
instance : TIt Tryz.prog 6 .u8 := ⟨Tryz.underlying6⟩
instance : TZ Tryz.prog 6 (.int .u8 0) := ⟨Tryz.zeroValue6⟩
instance : TZL Tryz.prog 6 [.int .u8 0] := ⟨_, Tryz.zeroValue6, rfl⟩
instance : TIn Tryz.prog 6 1 1 (.int .u8 0) := ⟨_, rfl, rfl, rfl, rfl, rfl, by decide⟩
instance : TSz Tryz.prog 7 4 := ⟨Tryz.sizeOf7⟩
instance : TAgg Tryz.prog 7 true := ⟨Tryz.isAgg7⟩
instance : TPl Tryz.prog 7 [(0, 1), (1, 1), (2, 1), (3, 1)] := ⟨_, Tryz.underlying7, fun w => by simp [List.mapM_cons]⟩
instance : TFd Tryz.prog 7 0 0 2 := ⟨_, _, Tryz.underlying7, rfl, rfl, rfl, fun w => ⟨0, Tryz.sizeOf2 w⟩⟩
instance : TFd Tryz.prog 7 1 1 3 := ⟨_, _, Tryz.underlying7, rfl, rfl, rfl, fun w => ⟨0, Tryz.sizeOf3 w⟩⟩
instance : TFd Tryz.prog 7 2 2 4 := ⟨_, _, Tryz.underlying7, rfl, rfl, rfl, fun w => ⟨0, Tryz.sizeOf4 w⟩⟩
instance : TFd Tryz.prog 7 3 3 6 := ⟨_, _, Tryz.underlying7, rfl, rfl, rfl, fun w => ⟨0, Tryz.sizeOf6 w⟩⟩
instance : TZ Tryz.prog 7 (.agg #[.int .i64 0, .int .i64 0, .bool false, .int .u8 0]) := ⟨Tryz.zeroValue7⟩
instance : TZL Tryz.prog 7 [.int .i64 0, .int .i64 0, .bool false, .int .u8 0] := ⟨_, Tryz.zeroValue7, rfl⟩
instance : TIn Tryz.prog 7 4 24 (.agg #[.int .i64 0, .int .i64 0, .bool false, .int .u8 0]) := ⟨_, rfl, rfl, rfl, rfl, rfl, by decide⟩
instance : TSz Tryz.prog 8 4 := ⟨Tryz.sizeOf8⟩
instance : TAgg Tryz.prog 8 true := ⟨Tryz.isAgg8⟩
instance : TPl Tryz.prog 8 [(0, 1), (1, 1), (2, 1), (3, 1)] := ⟨_, Tryz.underlying8, fun w => by simp [List.mapM_cons]⟩
instance : TFd Tryz.prog 8 0 0 2 := ⟨_, _, Tryz.underlying8, rfl, rfl, rfl, fun w => ⟨0, Tryz.sizeOf2 w⟩⟩
instance : TFd Tryz.prog 8 1 1 3 := ⟨_, _, Tryz.underlying8, rfl, rfl, rfl, fun w => ⟨0, Tryz.sizeOf3 w⟩⟩
instance : TFd Tryz.prog 8 2 2 4 := ⟨_, _, Tryz.underlying8, rfl, rfl, rfl, fun w => ⟨0, Tryz.sizeOf4 w⟩⟩
instance : TFd Tryz.prog 8 3 3 6 := ⟨_, _, Tryz.underlying8, rfl, rfl, rfl, fun w => ⟨0, Tryz.sizeOf6 w⟩⟩
instance : TZ Tryz.prog 8 (.agg #[.int .i64 0, .int .i64 0, .bool false, .int .u8 0]) := ⟨Tryz.zeroValue8⟩
instance : TZL Tryz.prog 8 [.int .i64 0, .int .i64 0, .bool false, .int .u8 0] := ⟨_, Tryz.zeroValue8, rfl⟩
instance : TIn Tryz.prog 8 4 24 (.agg #[.int .i64 0, .int .i64 0, .bool false, .int .u8 0]) := ⟨_, rfl, rfl, rfl, rfl, rfl, by decide⟩
instance : TSz Tryz.prog 9 1 := ⟨Tryz.sizeOf9⟩
instance : TAgg Tryz.prog 9 false := ⟨Tryz.isAgg9⟩
instance : TSt Tryz.prog 9 := ⟨Tryz.underlying9⟩
instance : TZ Tryz.prog 9 (.string ⟨#[]⟩) := ⟨Tryz.zeroValue9⟩
instance : TZL Tryz.prog 9 [.string ⟨#[]⟩] := ⟨_, Tryz.zeroValue9, rfl⟩
instance : TIn Tryz.prog 9 1 16 (.string ⟨#[]⟩) := ⟨_, rfl, rfl, rfl, rfl, rfl, by decide⟩
instance : TSz Tryz.prog 10 1 := ⟨Tryz.sizeOf10⟩
instance : TAgg Tryz.prog 10 false := ⟨Tryz.isAgg10⟩
instance : TSt Tryz.prog 10 := ⟨Tryz.underlying10⟩
instance : TZ Tryz.prog 10 (.string ⟨#[]⟩) := ⟨Tryz.zeroValue10⟩
instance : TZL Tryz.prog 10 [.string ⟨#[]⟩] := ⟨_, Tryz.zeroValue10, rfl⟩
instance : TIn Tryz.prog 10 1 16 (.string ⟨#[]⟩) := ⟨_, rfl, rfl, rfl, rfl, rfl, by decide⟩
instance : TSz Tryz.prog 11 1 := ⟨Tryz.sizeOf11⟩
instance : TAgg Tryz.prog 11 false := ⟨Tryz.isAgg11⟩
instance : TSt Tryz.prog 11 := ⟨Tryz.underlying11⟩
instance : TZ Tryz.prog 11 (.string ⟨#[]⟩) := ⟨Tryz.zeroValue11⟩
instance : TZL Tryz.prog 11 [.string ⟨#[]⟩] := ⟨_, Tryz.zeroValue11, rfl⟩
instance : TIn Tryz.prog 11 1 16 (.string ⟨#[]⟩) := ⟨_, rfl, rfl, rfl, rfl, rfl, by decide⟩
instance : TSz Tryz.prog 12 1 := ⟨Tryz.sizeOf12⟩
instance : TAgg Tryz.prog 12 false := ⟨Tryz.isAgg12⟩
instance : TIt Tryz.prog 12 .u64 := ⟨Tryz.underlying12⟩
instance : TZ Tryz.prog 12 (.int .u64 0) := ⟨Tryz.zeroValue12⟩
instance : TZL Tryz.prog 12 [.int .u64 0] := ⟨_, Tryz.zeroValue12, rfl⟩
instance : TIn Tryz.prog 12 1 8 (.int .u64 0) := ⟨_, rfl, rfl, rfl, rfl, rfl, by decide⟩
instance : TSz Tryz.prog 13 2 := ⟨Tryz.sizeOf13⟩
instance : TAgg Tryz.prog 13 true := ⟨Tryz.isAgg13⟩
instance : TPl Tryz.prog 13 [(0, 1), (1, 1)] := ⟨_, Tryz.underlying13, fun w => by simp [List.mapM_cons]⟩
instance : TFd Tryz.prog 13 0 0 9 := ⟨_, _, Tryz.underlying13, rfl, rfl, rfl, fun w => ⟨0, Tryz.sizeOf9 w⟩⟩
instance : TFd Tryz.prog 13 1 1 12 := ⟨_, _, Tryz.underlying13, rfl, rfl, rfl, fun w => ⟨0, Tryz.sizeOf12 w⟩⟩
instance : TZ Tryz.prog 13 (.agg #[.string ⟨#[]⟩, .int .u64 0]) := ⟨Tryz.zeroValue13⟩
instance : TZL Tryz.prog 13 [.string ⟨#[]⟩, .int .u64 0] := ⟨_, Tryz.zeroValue13, rfl⟩
instance : TIn Tryz.prog 13 2 24 (.agg #[.string ⟨#[]⟩, .int .u64 0]) := ⟨_, rfl, rfl, rfl, rfl, rfl, by decide⟩
instance : TSz Tryz.prog 14 2 := ⟨Tryz.sizeOf14⟩
instance : TAgg Tryz.prog 14 true := ⟨Tryz.isAgg14⟩
instance : TPl Tryz.prog 14 [(0, 1), (1, 1)] := ⟨_, Tryz.underlying14, fun w => by simp [List.mapM_cons]⟩
instance : TFd Tryz.prog 14 0 0 9 := ⟨_, _, Tryz.underlying14, rfl, rfl, rfl, fun w => ⟨0, Tryz.sizeOf9 w⟩⟩
instance : TFd Tryz.prog 14 1 1 12 := ⟨_, _, Tryz.underlying14, rfl, rfl, rfl, fun w => ⟨0, Tryz.sizeOf12 w⟩⟩
instance : TZ Tryz.prog 14 (.agg #[.string ⟨#[]⟩, .int .u64 0]) := ⟨Tryz.zeroValue14⟩
instance : TZL Tryz.prog 14 [.string ⟨#[]⟩, .int .u64 0] := ⟨_, Tryz.zeroValue14, rfl⟩
instance : TIn Tryz.prog 14 2 24 (.agg #[.string ⟨#[]⟩, .int .u64 0]) := ⟨_, rfl, rfl, rfl, rfl, rfl, by decide⟩
instance : TSz Tryz.prog 15 1 := ⟨Tryz.sizeOf15⟩
instance : TAgg Tryz.prog 15 false := ⟨Tryz.isAgg15⟩
instance : TPt Tryz.prog 15 := ⟨_, Tryz.underlying15⟩
instance : TZ Tryz.prog 15 (.pointer none) := ⟨Tryz.zeroValue15⟩
instance : TZL Tryz.prog 15 [.pointer none] := ⟨_, Tryz.zeroValue15, rfl⟩
instance : TIn Tryz.prog 15 1 8 (.pointer none) := ⟨_, rfl, rfl, rfl, rfl, rfl, by decide⟩
instance : TSz Tryz.prog 16 1 := ⟨Tryz.sizeOf16⟩
instance : TAgg Tryz.prog 16 false := ⟨Tryz.isAgg16⟩
instance : TPt Tryz.prog 16 := ⟨_, Tryz.underlying16⟩
instance : TZ Tryz.prog 16 (.pointer none) := ⟨Tryz.zeroValue16⟩
instance : TZL Tryz.prog 16 [.pointer none] := ⟨_, Tryz.zeroValue16, rfl⟩
instance : TIn Tryz.prog 16 1 8 (.pointer none) := ⟨_, rfl, rfl, rfl, rfl, rfl, by decide⟩
instance : TSz Tryz.prog 17 1 := ⟨Tryz.sizeOf17⟩
instance : TAgg Tryz.prog 17 false := ⟨Tryz.isAgg17⟩
instance : TPt Tryz.prog 17 := ⟨_, Tryz.underlying17⟩
instance : TZ Tryz.prog 17 (.pointer none) := ⟨Tryz.zeroValue17⟩
instance : TZL Tryz.prog 17 [.pointer none] := ⟨_, Tryz.zeroValue17, rfl⟩
instance : TIn Tryz.prog 17 1 8 (.pointer none) := ⟨_, rfl, rfl, rfl, rfl, rfl, by decide⟩
instance : TSz Tryz.prog 18 1 := ⟨Tryz.sizeOf18⟩
instance : TAgg Tryz.prog 18 true := ⟨Tryz.isAgg18⟩
instance : TPl Tryz.prog 18 [(0, 1)] := ⟨_, Tryz.underlying18, fun w => by simp [List.mapM_cons]⟩
instance : TFd Tryz.prog 18 0 0 17 := ⟨_, _, Tryz.underlying18, rfl, rfl, rfl, fun w => ⟨0, Tryz.sizeOf17 w⟩⟩
instance : TZ Tryz.prog 18 (.agg #[.pointer none]) := ⟨Tryz.zeroValue18⟩
instance : TZL Tryz.prog 18 [.pointer none] := ⟨_, Tryz.zeroValue18, rfl⟩
instance : TIn Tryz.prog 18 1 8 (.agg #[.pointer none]) := ⟨_, rfl, rfl, rfl, rfl, rfl, by decide⟩
instance : TSz Tryz.prog 19 1 := ⟨Tryz.sizeOf19⟩
instance : TAgg Tryz.prog 19 true := ⟨Tryz.isAgg19⟩
instance : TPl Tryz.prog 19 [(0, 1)] := ⟨_, Tryz.underlying19, fun w => by simp [List.mapM_cons]⟩
instance : TFd Tryz.prog 19 0 0 17 := ⟨_, _, Tryz.underlying19, rfl, rfl, rfl, fun w => ⟨0, Tryz.sizeOf17 w⟩⟩
instance : TZ Tryz.prog 19 (.agg #[.pointer none]) := ⟨Tryz.zeroValue19⟩
instance : TZL Tryz.prog 19 [.pointer none] := ⟨_, Tryz.zeroValue19, rfl⟩
instance : TIn Tryz.prog 19 1 8 (.agg #[.pointer none]) := ⟨_, rfl, rfl, rfl, rfl, rfl, by decide⟩
instance : TSz Tryz.prog 20 1 := ⟨Tryz.sizeOf20⟩
instance : TAgg Tryz.prog 20 false := ⟨Tryz.isAgg20⟩
instance : TZ Tryz.prog 20 (.nilIface) := ⟨Tryz.zeroValue20⟩
instance : TZL Tryz.prog 20 [.nilIface] := ⟨_, Tryz.zeroValue20, rfl⟩
instance : TIn Tryz.prog 20 1 16 (.nilIface) := ⟨_, rfl, rfl, rfl, rfl, rfl, by decide⟩
instance : TSz Tryz.prog 21 1 := ⟨Tryz.sizeOf21⟩
instance : TAgg Tryz.prog 21 false := ⟨Tryz.isAgg21⟩
instance : TIt Tryz.prog 21 .i32 := ⟨Tryz.underlying21⟩
instance : TZ Tryz.prog 21 (.int .i32 0) := ⟨Tryz.zeroValue21⟩
instance : TZL Tryz.prog 21 [.int .i32 0] := ⟨_, Tryz.zeroValue21, rfl⟩
instance : TIn Tryz.prog 21 1 4 (.int .i32 0) := ⟨_, rfl, rfl, rfl, rfl, rfl, by decide⟩
instance : TSz Tryz.prog 22 1 := ⟨Tryz.sizeOf22⟩
instance : TAgg Tryz.prog 22 false := ⟨Tryz.isAgg22⟩
instance : TSl Tryz.prog 22 3 := ⟨Tryz.underlying22⟩
instance : TZ Tryz.prog 22 (.slice none 0 0) := ⟨Tryz.zeroValue22⟩
instance : TZL Tryz.prog 22 [.slice none 0 0] := ⟨_, Tryz.zeroValue22, rfl⟩
instance : TIn Tryz.prog 22 1 24 (.slice none 0 0) := ⟨_, rfl, rfl, rfl, rfl, rfl, by decide⟩
instance : TSz Tryz.prog 23 4 := ⟨Tryz.sizeOf23⟩
instance : TAgg Tryz.prog 23 true := ⟨Tryz.isAgg23⟩
instance : TPl Tryz.prog 23 [(0, 1), (1, 1), (2, 1), (3, 1)] := ⟨_, Tryz.underlying23, fun w => by simp [List.mapM_cons]⟩
instance : TFd Tryz.prog 23 0 0 3 := ⟨_, _, Tryz.underlying23, rfl, rfl, rfl, fun w => ⟨0, Tryz.sizeOf3 w⟩⟩
instance : TFd Tryz.prog 23 1 1 3 := ⟨_, _, Tryz.underlying23, rfl, rfl, rfl, fun w => ⟨0, Tryz.sizeOf3 w⟩⟩
instance : TFd Tryz.prog 23 2 2 3 := ⟨_, _, Tryz.underlying23, rfl, rfl, rfl, fun w => ⟨0, Tryz.sizeOf3 w⟩⟩
instance : TFd Tryz.prog 23 3 3 22 := ⟨_, _, Tryz.underlying23, rfl, rfl, rfl, fun w => ⟨0, Tryz.sizeOf22 w⟩⟩
instance : TZ Tryz.prog 23 (.agg #[.int .i64 0, .int .i64 0, .int .i64 0, .slice none 0 0]) := ⟨Tryz.zeroValue23⟩
instance : TZL Tryz.prog 23 [.int .i64 0, .int .i64 0, .int .i64 0, .slice none 0 0] := ⟨_, Tryz.zeroValue23, rfl⟩
instance : TIn Tryz.prog 23 4 48 (.agg #[.int .i64 0, .int .i64 0, .int .i64 0, .slice none 0 0]) := ⟨_, rfl, rfl, rfl, rfl, rfl, by decide⟩
instance : TSz Tryz.prog 24 4 := ⟨Tryz.sizeOf24⟩
instance : TAgg Tryz.prog 24 true := ⟨Tryz.isAgg24⟩
instance : TPl Tryz.prog 24 [(0, 1), (1, 1), (2, 1), (3, 1)] := ⟨_, Tryz.underlying24, fun w => by simp [List.mapM_cons]⟩
instance : TFd Tryz.prog 24 0 0 3 := ⟨_, _, Tryz.underlying24, rfl, rfl, rfl, fun w => ⟨0, Tryz.sizeOf3 w⟩⟩
instance : TFd Tryz.prog 24 1 1 3 := ⟨_, _, Tryz.underlying24, rfl, rfl, rfl, fun w => ⟨0, Tryz.sizeOf3 w⟩⟩
instance : TFd Tryz.prog 24 2 2 3 := ⟨_, _, Tryz.underlying24, rfl, rfl, rfl, fun w => ⟨0, Tryz.sizeOf3 w⟩⟩
instance : TFd Tryz.prog 24 3 3 22 := ⟨_, _, Tryz.underlying24, rfl, rfl, rfl, fun w => ⟨0, Tryz.sizeOf22 w⟩⟩
instance : TZ Tryz.prog 24 (.agg #[.int .i64 0, .int .i64 0, .int .i64 0, .slice none 0 0]) := ⟨Tryz.zeroValue24⟩
instance : TZL Tryz.prog 24 [.int .i64 0, .int .i64 0, .int .i64 0, .slice none 0 0] := ⟨_, Tryz.zeroValue24, rfl⟩
instance : TIn Tryz.prog 24 4 48 (.agg #[.int .i64 0, .int .i64 0, .int .i64 0, .slice none 0 0]) := ⟨_, rfl, rfl, rfl, rfl, rfl, by decide⟩
instance : TSz Tryz.prog 25 2 := ⟨Tryz.sizeOf25⟩
instance : TAgg Tryz.prog 25 true := ⟨Tryz.isAgg25⟩
instance : TPl Tryz.prog 25 [(0, 1), (1, 1)] := ⟨_, Tryz.underlying25, fun w => by simp [List.mapM_cons]⟩
instance : TFd Tryz.prog 25 0 0 3 := ⟨_, _, Tryz.underlying25, rfl, rfl, rfl, fun w => ⟨0, Tryz.sizeOf3 w⟩⟩
instance : TFd Tryz.prog 25 1 1 22 := ⟨_, _, Tryz.underlying25, rfl, rfl, rfl, fun w => ⟨0, Tryz.sizeOf22 w⟩⟩
instance : TZ Tryz.prog 25 (.agg #[.int .i64 0, .slice none 0 0]) := ⟨Tryz.zeroValue25⟩
instance : TZL Tryz.prog 25 [.int .i64 0, .slice none 0 0] := ⟨_, Tryz.zeroValue25, rfl⟩
instance : TIn Tryz.prog 25 2 32 (.agg #[.int .i64 0, .slice none 0 0]) := ⟨_, rfl, rfl, rfl, rfl, rfl, by decide⟩
instance : TSz Tryz.prog 26 2 := ⟨Tryz.sizeOf26⟩
instance : TAgg Tryz.prog 26 true := ⟨Tryz.isAgg26⟩
instance : TPl Tryz.prog 26 [(0, 1), (1, 1)] := ⟨_, Tryz.underlying26, fun w => by simp [List.mapM_cons]⟩
instance : TFd Tryz.prog 26 0 0 3 := ⟨_, _, Tryz.underlying26, rfl, rfl, rfl, fun w => ⟨0, Tryz.sizeOf3 w⟩⟩
instance : TFd Tryz.prog 26 1 1 22 := ⟨_, _, Tryz.underlying26, rfl, rfl, rfl, fun w => ⟨0, Tryz.sizeOf22 w⟩⟩
instance : TZ Tryz.prog 26 (.agg #[.int .i64 0, .slice none 0 0]) := ⟨Tryz.zeroValue26⟩
instance : TZL Tryz.prog 26 [.int .i64 0, .slice none 0 0] := ⟨_, Tryz.zeroValue26, rfl⟩
instance : TIn Tryz.prog 26 2 32 (.agg #[.int .i64 0, .slice none 0 0]) := ⟨_, rfl, rfl, rfl, rfl, rfl, by decide⟩
instance : TSz Tryz.prog 27 1 := ⟨Tryz.sizeOf27⟩
instance : TAgg Tryz.prog 27 false := ⟨Tryz.isAgg27⟩
instance : TSl Tryz.prog 27 9 := ⟨Tryz.underlying27⟩
instance : TZ Tryz.prog 27 (.slice none 0 0) := ⟨Tryz.zeroValue27⟩
instance : TZL Tryz.prog 27 [.slice none 0 0] := ⟨_, Tryz.zeroValue27, rfl⟩
instance : TIn Tryz.prog 27 1 24 (.slice none 0 0) := ⟨_, rfl, rfl, rfl, rfl, rfl, by decide⟩
instance : TSz Tryz.prog 28 1 := ⟨Tryz.sizeOf28⟩
instance : TAgg Tryz.prog 28 false := ⟨Tryz.isAgg28⟩
instance : TZ Tryz.prog 28 (.nilFunc) := ⟨Tryz.zeroValue28⟩
instance : TZL Tryz.prog 28 [.nilFunc] := ⟨_, Tryz.zeroValue28, rfl⟩
instance : TIn Tryz.prog 28 1 8 (.nilFunc) := ⟨_, rfl, rfl, rfl, rfl, rfl, by decide⟩
instance : TSz Tryz.prog 29 1 := ⟨Tryz.sizeOf29⟩
instance : TAgg Tryz.prog 29 false := ⟨Tryz.isAgg29⟩
instance : TPt Tryz.prog 29 := ⟨_, Tryz.underlying29⟩
instance : TZ Tryz.prog 29 (.pointer none) := ⟨Tryz.zeroValue29⟩
instance : TZL Tryz.prog 29 [.pointer none] := ⟨_, Tryz.zeroValue29, rfl⟩
instance : TIn Tryz.prog 29 1 8 (.pointer none) := ⟨_, rfl, rfl, rfl, rfl, rfl, by decide⟩
instance : TSz Tryz.prog 30 1 := ⟨Tryz.sizeOf30⟩
instance : TAgg Tryz.prog 30 false := ⟨Tryz.isAgg30⟩
instance : TIt Tryz.prog 30 .i64 := ⟨Tryz.underlying30⟩
instance : TZ Tryz.prog 30 (.int .i64 0) := ⟨Tryz.zeroValue30⟩
instance : TZL Tryz.prog 30 [.int .i64 0] := ⟨_, Tryz.zeroValue30, rfl⟩
instance : TIn Tryz.prog 30 1 8 (.int .i64 0) := ⟨_, rfl, rfl, rfl, rfl, rfl, by decide⟩
instance : TSz Tryz.prog 32 1 := ⟨Tryz.sizeOf32⟩
instance : TAgg Tryz.prog 32 false := ⟨Tryz.isAgg32⟩
instance : TZ Tryz.prog 32 (.nilFunc) := ⟨Tryz.zeroValue32⟩
instance : TZL Tryz.prog 32 [.nilFunc] := ⟨_, Tryz.zeroValue32, rfl⟩
instance : TIn Tryz.prog 32 1 8 (.nilFunc) := ⟨_, rfl, rfl, rfl, rfl, rfl, by decide⟩
instance : TSz Tryz.prog 33 1 := ⟨Tryz.sizeOf33⟩
instance : TAgg Tryz.prog 33 false := ⟨Tryz.isAgg33⟩
instance : TZ Tryz.prog 33 (.nilFunc) := ⟨Tryz.zeroValue33⟩
instance : TZL Tryz.prog 33 [.nilFunc] := ⟨_, Tryz.zeroValue33, rfl⟩
instance : TIn Tryz.prog 33 1 8 (.nilFunc) := ⟨_, rfl, rfl, rfl, rfl, rfl, by decide⟩
instance : TSz Tryz.prog 34 1 := ⟨Tryz.sizeOf34⟩
instance : TAgg Tryz.prog 34 false := ⟨Tryz.isAgg34⟩
instance : TZ Tryz.prog 34 (.nilFunc) := ⟨Tryz.zeroValue34⟩
instance : TZL Tryz.prog 34 [.nilFunc] := ⟨_, Tryz.zeroValue34, rfl⟩
instance : TIn Tryz.prog 34 1 8 (.nilFunc) := ⟨_, rfl, rfl, rfl, rfl, rfl, by decide⟩
instance : TSz Tryz.prog 35 1 := ⟨Tryz.sizeOf35⟩
instance : TAgg Tryz.prog 35 false := ⟨Tryz.isAgg35⟩
instance : TZ Tryz.prog 35 (.nilFunc) := ⟨Tryz.zeroValue35⟩
instance : TZL Tryz.prog 35 [.nilFunc] := ⟨_, Tryz.zeroValue35, rfl⟩
instance : TIn Tryz.prog 35 1 8 (.nilFunc) := ⟨_, rfl, rfl, rfl, rfl, rfl, by decide⟩
instance : TSz Tryz.prog 36 1 := ⟨Tryz.sizeOf36⟩
instance : TAgg Tryz.prog 36 false := ⟨Tryz.isAgg36⟩
instance : TSl Tryz.prog 36 27 := ⟨Tryz.underlying36⟩
instance : TZ Tryz.prog 36 (.slice none 0 0) := ⟨Tryz.zeroValue36⟩
instance : TZL Tryz.prog 36 [.slice none 0 0] := ⟨_, Tryz.zeroValue36, rfl⟩
instance : TIn Tryz.prog 36 1 24 (.slice none 0 0) := ⟨_, rfl, rfl, rfl, rfl, rfl, by decide⟩
instance : TSz Tryz.prog 38 1 := ⟨Tryz.sizeOf38⟩
instance : TAgg Tryz.prog 38 false := ⟨Tryz.isAgg38⟩
instance : TZ Tryz.prog 38 (.nilFunc) := ⟨Tryz.zeroValue38⟩
instance : TZL Tryz.prog 38 [.nilFunc] := ⟨_, Tryz.zeroValue38, rfl⟩
instance : TIn Tryz.prog 38 1 8 (.nilFunc) := ⟨_, rfl, rfl, rfl, rfl, rfl, by decide⟩
instance : TSz Tryz.prog 40 1 := ⟨Tryz.sizeOf40⟩
instance : TAgg Tryz.prog 40 false := ⟨Tryz.isAgg40⟩
instance : TZ Tryz.prog 40 (.nilFunc) := ⟨Tryz.zeroValue40⟩
instance : TZL Tryz.prog 40 [.nilFunc] := ⟨_, Tryz.zeroValue40, rfl⟩
instance : TIn Tryz.prog 40 1 8 (.nilFunc) := ⟨_, rfl, rfl, rfl, rfl, rfl, by decide⟩
instance : TSz Tryz.prog 41 1 := ⟨Tryz.sizeOf41⟩
instance : TAgg Tryz.prog 41 false := ⟨Tryz.isAgg41⟩
instance : TZ Tryz.prog 41 (.nilFunc) := ⟨Tryz.zeroValue41⟩
instance : TZL Tryz.prog 41 [.nilFunc] := ⟨_, Tryz.zeroValue41, rfl⟩
instance : TIn Tryz.prog 41 1 8 (.nilFunc) := ⟨_, rfl, rfl, rfl, rfl, rfl, by decide⟩
instance : TSz Tryz.prog 42 1 := ⟨Tryz.sizeOf42⟩
instance : TAgg Tryz.prog 42 false := ⟨Tryz.isAgg42⟩
instance : TZ Tryz.prog 42 (.nilFunc) := ⟨Tryz.zeroValue42⟩
instance : TZL Tryz.prog 42 [.nilFunc] := ⟨_, Tryz.zeroValue42, rfl⟩
instance : TIn Tryz.prog 42 1 8 (.nilFunc) := ⟨_, rfl, rfl, rfl, rfl, rfl, by decide⟩
instance : TSz Tryz.prog 43 1 := ⟨Tryz.sizeOf43⟩
instance : TAgg Tryz.prog 43 false := ⟨Tryz.isAgg43⟩
instance : TZ Tryz.prog 43 (.nilFunc) := ⟨Tryz.zeroValue43⟩
instance : TZL Tryz.prog 43 [.nilFunc] := ⟨_, Tryz.zeroValue43, rfl⟩
instance : TIn Tryz.prog 43 1 8 (.nilFunc) := ⟨_, rfl, rfl, rfl, rfl, rfl, by decide⟩
instance : TSz Tryz.prog 44 1 := ⟨Tryz.sizeOf44⟩
instance : TAgg Tryz.prog 44 false := ⟨Tryz.isAgg44⟩
instance : TZ Tryz.prog 44 (.nilFunc) := ⟨Tryz.zeroValue44⟩
instance : TZL Tryz.prog 44 [.nilFunc] := ⟨_, Tryz.zeroValue44, rfl⟩
instance : TIn Tryz.prog 44 1 8 (.nilFunc) := ⟨_, rfl, rfl, rfl, rfl, rfl, by decide⟩
instance : TSz Tryz.prog 45 1 := ⟨Tryz.sizeOf45⟩
instance : TAgg Tryz.prog 45 false := ⟨Tryz.isAgg45⟩
instance : TMap Tryz.prog 45 3 3 := ⟨Tryz.underlying45⟩
instance : TZ Tryz.prog 45 (.map none) := ⟨Tryz.zeroValue45⟩
instance : TZL Tryz.prog 45 [.map none] := ⟨_, Tryz.zeroValue45, rfl⟩
instance : TIn Tryz.prog 45 1 8 (.map none) := ⟨_, rfl, rfl, rfl, rfl, rfl, by decide⟩
instance : TSz Tryz.prog 46 5 := ⟨Tryz.sizeOf46⟩
instance : TAgg Tryz.prog 46 true := ⟨Tryz.isAgg46⟩
instance : TPl Tryz.prog 46 [(0, 4), (4, 1)] := ⟨_, Tryz.underlying46, fun w => by simp [List.mapM_cons]⟩
instance : TFd Tryz.prog 46 0 0 24 := ⟨_, _, Tryz.underlying46, rfl, rfl, rfl, fun w => ⟨3, Tryz.sizeOf24 w⟩⟩
instance : TFd Tryz.prog 46 1 4 45 := ⟨_, _, Tryz.underlying46, rfl, rfl, rfl, fun w => ⟨0, Tryz.sizeOf45 w⟩⟩
instance : TZ Tryz.prog 46 (.agg #[.int .i64 0, .int .i64 0, .int .i64 0, .slice none 0 0, .map none]) := ⟨Tryz.zeroValue46⟩
instance : TZL Tryz.prog 46 [.int .i64 0, .int .i64 0, .int .i64 0, .slice none 0 0, .map none] := ⟨_, Tryz.zeroValue46, rfl⟩
instance : TIn Tryz.prog 46 5 56 (.agg #[.int .i64 0, .int .i64 0, .int .i64 0, .slice none 0 0, .map none]) := ⟨_, rfl, rfl, rfl, rfl, rfl, by decide⟩
instance : TSz Tryz.prog 47 5 := ⟨Tryz.sizeOf47⟩
instance : TAgg Tryz.prog 47 true := ⟨Tryz.isAgg47⟩
instance : TPl Tryz.prog 47 [(0, 4), (4, 1)] := ⟨_, Tryz.underlying47, fun w => by simp [List.mapM_cons]⟩
instance : TFd Tryz.prog 47 0 0 24 := ⟨_, _, Tryz.underlying47, rfl, rfl, rfl, fun w => ⟨3, Tryz.sizeOf24 w⟩⟩
instance : TFd Tryz.prog 47 1 4 45 := ⟨_, _, Tryz.underlying47, rfl, rfl, rfl, fun w => ⟨0, Tryz.sizeOf45 w⟩⟩
instance : TZ Tryz.prog 47 (.agg #[.int .i64 0, .int .i64 0, .int .i64 0, .slice none 0 0, .map none]) := ⟨Tryz.zeroValue47⟩
instance : TZL Tryz.prog 47 [.int .i64 0, .int .i64 0, .int .i64 0, .slice none 0 0, .map none] := ⟨_, Tryz.zeroValue47, rfl⟩
instance : TIn Tryz.prog 47 5 56 (.agg #[.int .i64 0, .int .i64 0, .int .i64 0, .slice none 0 0, .map none]) := ⟨_, rfl, rfl, rfl, rfl, rfl, by decide⟩
instance : TSz Tryz.prog 48 1 := ⟨Tryz.sizeOf48⟩
instance : TAgg Tryz.prog 48 false := ⟨Tryz.isAgg48⟩
instance : TZ Tryz.prog 48 (.nilFunc) := ⟨Tryz.zeroValue48⟩
instance : TZL Tryz.prog 48 [.nilFunc] := ⟨_, Tryz.zeroValue48, rfl⟩
instance : TIn Tryz.prog 48 1 8 (.nilFunc) := ⟨_, rfl, rfl, rfl, rfl, rfl, by decide⟩
instance : TSz Tryz.prog 49 1 := ⟨Tryz.sizeOf49⟩
instance : TAgg Tryz.prog 49 false := ⟨Tryz.isAgg49⟩
instance : TZ Tryz.prog 49 (.nilFunc) := ⟨Tryz.zeroValue49⟩
instance : TZL Tryz.prog 49 [.nilFunc] := ⟨_, Tryz.zeroValue49, rfl⟩
instance : TIn Tryz.prog 49 1 8 (.nilFunc) := ⟨_, rfl, rfl, rfl, rfl, rfl, by decide⟩
instance : TSz Tryz.prog 50 1 := ⟨Tryz.sizeOf50⟩
instance : TAgg Tryz.prog 50 false := ⟨Tryz.isAgg50⟩
instance : TZ Tryz.prog 50 (.nilFunc) := ⟨Tryz.zeroValue50⟩
instance : TZL Tryz.prog 50 [.nilFunc] := ⟨_, Tryz.zeroValue50, rfl⟩
instance : TIn Tryz.prog 50 1 8 (.nilFunc) := ⟨_, rfl, rfl, rfl, rfl, rfl, by decide⟩
instance : TSz Tryz.prog 51 1 := ⟨Tryz.sizeOf51⟩
instance : TAgg Tryz.prog 51 false := ⟨Tryz.isAgg51⟩
instance : TZ Tryz.prog 51 (.nilFunc) := ⟨Tryz.zeroValue51⟩
instance : TZL Tryz.prog 51 [.nilFunc] := ⟨_, Tryz.zeroValue51, rfl⟩
instance : TIn Tryz.prog 51 1 8 (.nilFunc) := ⟨_, rfl, rfl, rfl, rfl, rfl, by decide⟩
instance : TSz Tryz.prog 52 1 := ⟨Tryz.sizeOf52⟩
instance : TAgg Tryz.prog 52 false := ⟨Tryz.isAgg52⟩
instance : TZ Tryz.prog 52 (.nilFunc) := ⟨Tryz.zeroValue52⟩
instance : TZL Tryz.prog 52 [.nilFunc] := ⟨_, Tryz.zeroValue52, rfl⟩
instance : TIn Tryz.prog 52 1 8 (.nilFunc) := ⟨_, rfl, rfl, rfl, rfl, rfl, by decide⟩
instance : TSz Tryz.prog 53 1 := ⟨Tryz.sizeOf53⟩
instance : TAgg Tryz.prog 53 false := ⟨Tryz.isAgg53⟩
instance : TZ Tryz.prog 53 (.nilFunc) := ⟨Tryz.zeroValue53⟩
instance : TZL Tryz.prog 53 [.nilFunc] := ⟨_, Tryz.zeroValue53, rfl⟩
instance : TIn Tryz.prog 53 1 8 (.nilFunc) := ⟨_, rfl, rfl, rfl, rfl, rfl, by decide⟩
instance : TSz Tryz.prog 54 1 := ⟨Tryz.sizeOf54⟩
instance : TAgg Tryz.prog 54 false := ⟨Tryz.isAgg54⟩
instance : TZ Tryz.prog 54 (.nilFunc) := ⟨Tryz.zeroValue54⟩
instance : TZL Tryz.prog 54 [.nilFunc] := ⟨_, Tryz.zeroValue54, rfl⟩
instance : TIn Tryz.prog 54 1 8 (.nilFunc) := ⟨_, rfl, rfl, rfl, rfl, rfl, by decide⟩
instance : TSz Tryz.prog 56 1 := ⟨Tryz.sizeOf56⟩
instance : TAgg Tryz.prog 56 false := ⟨Tryz.isAgg56⟩
instance : TZ Tryz.prog 56 (.nilFunc) := ⟨Tryz.zeroValue56⟩
instance : TZL Tryz.prog 56 [.nilFunc] := ⟨_, Tryz.zeroValue56, rfl⟩
instance : TIn Tryz.prog 56 1 8 (.nilFunc) := ⟨_, rfl, rfl, rfl, rfl, rfl, by decide⟩
instance : TSz Tryz.prog 57 1 := ⟨Tryz.sizeOf57⟩
instance : TAgg Tryz.prog 57 false := ⟨Tryz.isAgg57⟩
instance : TZ Tryz.prog 57 (.nilFunc) := ⟨Tryz.zeroValue57⟩
instance : TZL Tryz.prog 57 [.nilFunc] := ⟨_, Tryz.zeroValue57, rfl⟩
instance : TIn Tryz.prog 57 1 8 (.nilFunc) := ⟨_, rfl, rfl, rfl, rfl, rfl, by decide⟩
instance : TSz Tryz.prog 59 1 := ⟨Tryz.sizeOf59⟩
instance : TAgg Tryz.prog 59 false := ⟨Tryz.isAgg59⟩
instance : TZ Tryz.prog 59 (.nilFunc) := ⟨Tryz.zeroValue59⟩
instance : TZL Tryz.prog 59 [.nilFunc] := ⟨_, Tryz.zeroValue59, rfl⟩
instance : TIn Tryz.prog 59 1 8 (.nilFunc) := ⟨_, rfl, rfl, rfl, rfl, rfl, by decide⟩
instance : TSz Tryz.prog 60 1 := ⟨Tryz.sizeOf60⟩
instance : TAgg Tryz.prog 60 false := ⟨Tryz.isAgg60⟩
instance : TZ Tryz.prog 60 (.nilFunc) := ⟨Tryz.zeroValue60⟩
instance : TZL Tryz.prog 60 [.nilFunc] := ⟨_, Tryz.zeroValue60, rfl⟩
instance : TIn Tryz.prog 60 1 8 (.nilFunc) := ⟨_, rfl, rfl, rfl, rfl, rfl, by decide⟩
instance : TSz Tryz.prog 62 1 := ⟨Tryz.sizeOf62⟩
instance : TAgg Tryz.prog 62 false := ⟨Tryz.isAgg62⟩
instance : TZ Tryz.prog 62 (.nilFunc) := ⟨Tryz.zeroValue62⟩
instance : TZL Tryz.prog 62 [.nilFunc] := ⟨_, Tryz.zeroValue62, rfl⟩
instance : TIn Tryz.prog 62 1 8 (.nilFunc) := ⟨_, rfl, rfl, rfl, rfl, rfl, by decide⟩
instance : TSz Tryz.prog 63 1 := ⟨Tryz.sizeOf63⟩
instance : TAgg Tryz.prog 63 false := ⟨Tryz.isAgg63⟩
instance : TZ Tryz.prog 63 (.nilFunc) := ⟨Tryz.zeroValue63⟩
instance : TZL Tryz.prog 63 [.nilFunc] := ⟨_, Tryz.zeroValue63, rfl⟩
instance : TIn Tryz.prog 63 1 8 (.nilFunc) := ⟨_, rfl, rfl, rfl, rfl, rfl, by decide⟩
instance : TSz Tryz.prog 64 3 := ⟨Tryz.sizeOf64⟩
instance : TAgg Tryz.prog 64 true := ⟨Tryz.isAgg64⟩
instance : TPl Tryz.prog 64 [(0, 1), (1, 1), (2, 1)] := ⟨_, Tryz.underlying64, fun w => by simp [List.mapM_cons]⟩
instance : TFd Tryz.prog 64 0 0 3 := ⟨_, _, Tryz.underlying64, rfl, rfl, rfl, fun w => ⟨0, Tryz.sizeOf3 w⟩⟩
instance : TFd Tryz.prog 64 1 1 3 := ⟨_, _, Tryz.underlying64, rfl, rfl, rfl, fun w => ⟨0, Tryz.sizeOf3 w⟩⟩
instance : TFd Tryz.prog 64 2 2 3 := ⟨_, _, Tryz.underlying64, rfl, rfl, rfl, fun w => ⟨0, Tryz.sizeOf3 w⟩⟩
instance : TZ Tryz.prog 64 (.agg #[.int .i64 0, .int .i64 0, .int .i64 0]) := ⟨Tryz.zeroValue64⟩
instance : TZL Tryz.prog 64 [.int .i64 0, .int .i64 0, .int .i64 0] := ⟨_, Tryz.zeroValue64, rfl⟩
instance : TIn Tryz.prog 64 3 24 (.agg #[.int .i64 0, .int .i64 0, .int .i64 0]) := ⟨_, rfl, rfl, rfl, rfl, rfl, by decide⟩
instance : TSz Tryz.prog 65 3 := ⟨Tryz.sizeOf65⟩
instance : TAgg Tryz.prog 65 true := ⟨Tryz.isAgg65⟩
instance : TPl Tryz.prog 65 [(0, 1), (1, 1), (2, 1)] := ⟨_, Tryz.underlying65, fun w => by simp [List.mapM_cons]⟩
instance : TFd Tryz.prog 65 0 0 3 := ⟨_, _, Tryz.underlying65, rfl, rfl, rfl, fun w => ⟨0, Tryz.sizeOf3 w⟩⟩
instance : TFd Tryz.prog 65 1 1 3 := ⟨_, _, Tryz.underlying65, rfl, rfl, rfl, fun w => ⟨0, Tryz.sizeOf3 w⟩⟩
instance : TFd Tryz.prog 65 2 2 3 := ⟨_, _, Tryz.underlying65, rfl, rfl, rfl, fun w => ⟨0, Tryz.sizeOf3 w⟩⟩
instance : TZ Tryz.prog 65 (.agg #[.int .i64 0, .int .i64 0, .int .i64 0]) := ⟨Tryz.zeroValue65⟩
instance : TZL Tryz.prog 65 [.int .i64 0, .int .i64 0, .int .i64 0] := ⟨_, Tryz.zeroValue65, rfl⟩
instance : TIn Tryz.prog 65 3 24 (.agg #[.int .i64 0, .int .i64 0, .int .i64 0]) := ⟨_, rfl, rfl, rfl, rfl, rfl, by decide⟩
instance : TSz Tryz.prog 67 1 := ⟨Tryz.sizeOf67⟩
instance : TAgg Tryz.prog 67 false := ⟨Tryz.isAgg67⟩
instance : TZ Tryz.prog 67 (.nilFunc) := ⟨Tryz.zeroValue67⟩
instance : TZL Tryz.prog 67 [.nilFunc] := ⟨_, Tryz.zeroValue67, rfl⟩
instance : TIn Tryz.prog 67 1 8 (.nilFunc) := ⟨_, rfl, rfl, rfl, rfl, rfl, by decide⟩
instance : TSz Tryz.prog 68 1 := ⟨Tryz.sizeOf68⟩
instance : TAgg Tryz.prog 68 false := ⟨Tryz.isAgg68⟩
instance : TZ Tryz.prog 68 (.nilFunc) := ⟨Tryz.zeroValue68⟩
instance : TZL Tryz.prog 68 [.nilFunc] := ⟨_, Tryz.zeroValue68, rfl⟩
instance : TIn Tryz.prog 68 1 8 (.nilFunc) := ⟨_, rfl, rfl, rfl, rfl, rfl, by decide⟩
instance : TSz Tryz.prog 69 3 := ⟨Tryz.sizeOf69⟩
instance : TAgg Tryz.prog 69 true := ⟨Tryz.isAgg69⟩
instance : TPl Tryz.prog 69 [(0, 1), (1, 1), (2, 1)] := ⟨_, Tryz.underlying69, fun w => by simp [List.mapM_cons]⟩
instance : TFd Tryz.prog 69 0 0 3 := ⟨_, _, Tryz.underlying69, rfl, rfl, rfl, fun w => ⟨0, Tryz.sizeOf3 w⟩⟩
instance : TFd Tryz.prog 69 1 1 3 := ⟨_, _, Tryz.underlying69, rfl, rfl, rfl, fun w => ⟨0, Tryz.sizeOf3 w⟩⟩
instance : TFd Tryz.prog 69 2 2 3 := ⟨_, _, Tryz.underlying69, rfl, rfl, rfl, fun w => ⟨0, Tryz.sizeOf3 w⟩⟩
instance : TZ Tryz.prog 69 (.agg #[.int .i64 0, .int .i64 0, .int .i64 0]) := ⟨Tryz.zeroValue69⟩
instance : TZL Tryz.prog 69 [.int .i64 0, .int .i64 0, .int .i64 0] := ⟨_, Tryz.zeroValue69, rfl⟩
instance : TIn Tryz.prog 69 3 24 (.agg #[.int .i64 0, .int .i64 0, .int .i64 0]) := ⟨_, rfl, rfl, rfl, rfl, rfl, by decide⟩
instance : TSz Tryz.prog 71 1 := ⟨Tryz.sizeOf71⟩
instance : TAgg Tryz.prog 71 false := ⟨Tryz.isAgg71⟩
instance : TZ Tryz.prog 71 (.nilFunc) := ⟨Tryz.zeroValue71⟩
instance : TZL Tryz.prog 71 [.nilFunc] := ⟨_, Tryz.zeroValue71, rfl⟩
instance : TIn Tryz.prog 71 1 8 (.nilFunc) := ⟨_, rfl, rfl, rfl, rfl, rfl, by decide⟩
instance : TSz Tryz.prog 72 1 := ⟨Tryz.sizeOf72⟩
instance : TAgg Tryz.prog 72 false := ⟨Tryz.isAgg72⟩
instance : TZ Tryz.prog 72 (.nilFunc) := ⟨Tryz.zeroValue72⟩
instance : TZL Tryz.prog 72 [.nilFunc] := ⟨_, Tryz.zeroValue72, rfl⟩
instance : TIn Tryz.prog 72 1 8 (.nilFunc) := ⟨_, rfl, rfl, rfl, rfl, rfl, by decide⟩
instance : TSz Tryz.prog 73 1 := ⟨Tryz.sizeOf73⟩
instance : TAgg Tryz.prog 73 false := ⟨Tryz.isAgg73⟩
instance : TZ Tryz.prog 73 (.nilFunc) := ⟨Tryz.zeroValue73⟩
instance : TZL Tryz.prog 73 [.nilFunc] := ⟨_, Tryz.zeroValue73, rfl⟩
instance : TIn Tryz.prog 73 1 8 (.nilFunc) := ⟨_, rfl, rfl, rfl, rfl, rfl, by decide⟩
instance : TSz Tryz.prog 74 1 := ⟨Tryz.sizeOf74⟩
instance : TAgg Tryz.prog 74 false := ⟨Tryz.isAgg74⟩
instance : TZ Tryz.prog 74 (.nilFunc) := ⟨Tryz.zeroValue74⟩
instance : TZL Tryz.prog 74 [.nilFunc] := ⟨_, Tryz.zeroValue74, rfl⟩
instance : TIn Tryz.prog 74 1 8 (.nilFunc) := ⟨_, rfl, rfl, rfl, rfl, rfl, by decide⟩
instance : TSz Tryz.prog 75 1 := ⟨Tryz.sizeOf75⟩
instance : TAgg Tryz.prog 75 false := ⟨Tryz.isAgg75⟩
instance : TZ Tryz.prog 75 (.nilFunc) := ⟨Tryz.zeroValue75⟩
instance : TZL Tryz.prog 75 [.nilFunc] := ⟨_, Tryz.zeroValue75, rfl⟩
instance : TIn Tryz.prog 75 1 8 (.nilFunc) := ⟨_, rfl, rfl, rfl, rfl, rfl, by decide⟩
instance : TSz Tryz.prog 76 1 := ⟨Tryz.sizeOf76⟩
instance : TAgg Tryz.prog 76 false := ⟨Tryz.isAgg76⟩
instance : TSl Tryz.prog 76 5 := ⟨Tryz.underlying76⟩
instance : TZ Tryz.prog 76 (.slice none 0 0) := ⟨Tryz.zeroValue76⟩
instance : TZL Tryz.prog 76 [.slice none 0 0] := ⟨_, Tryz.zeroValue76, rfl⟩
instance : TIn Tryz.prog 76 1 24 (.slice none 0 0) := ⟨_, rfl, rfl, rfl, rfl, rfl, by decide⟩
instance : TSz Tryz.prog 78 1 := ⟨Tryz.sizeOf78⟩
instance : TAgg Tryz.prog 78 false := ⟨Tryz.isAgg78⟩
instance : TZ Tryz.prog 78 (.nilFunc) := ⟨Tryz.zeroValue78⟩
instance : TZL Tryz.prog 78 [.nilFunc] := ⟨_, Tryz.zeroValue78, rfl⟩
instance : TIn Tryz.prog 78 1 8 (.nilFunc) := ⟨_, rfl, rfl, rfl, rfl, rfl, by decide⟩
instance : TSz Tryz.prog 79 1 := ⟨Tryz.sizeOf79⟩
instance : TAgg Tryz.prog 79 false := ⟨Tryz.isAgg79⟩
instance : TZ Tryz.prog 79 (.nilFunc) := ⟨Tryz.zeroValue79⟩
instance : TZL Tryz.prog 79 [.nilFunc] := ⟨_, Tryz.zeroValue79, rfl⟩
instance : TIn Tryz.prog 79 1 8 (.nilFunc) := ⟨_, rfl, rfl, rfl, rfl, rfl, by decide⟩
instance : TSz Tryz.prog 81 1 := ⟨Tryz.sizeOf81⟩
instance : TAgg Tryz.prog 81 false := ⟨Tryz.isAgg81⟩
instance : TZ Tryz.prog 81 (.nilFunc) := ⟨Tryz.zeroValue81⟩
instance : TZL Tryz.prog 81 [.nilFunc] := ⟨_, Tryz.zeroValue81, rfl⟩
instance : TIn Tryz.prog 81 1 8 (.nilFunc) := ⟨_, rfl, rfl, rfl, rfl, rfl, by decide⟩
instance : TSz Tryz.prog 83 1 := ⟨Tryz.sizeOf83⟩
instance : TAgg Tryz.prog 83 false := ⟨Tryz.isAgg83⟩
instance : TZ Tryz.prog 83 (.nilFunc) := ⟨Tryz.zeroValue83⟩
instance : TZL Tryz.prog 83 [.nilFunc] := ⟨_, Tryz.zeroValue83, rfl⟩
instance : TIn Tryz.prog 83 1 8 (.nilFunc) := ⟨_, rfl, rfl, rfl, rfl, rfl, by decide⟩
instance : TSz Tryz.prog 84 1 := ⟨Tryz.sizeOf84⟩
instance : TAgg Tryz.prog 84 false := ⟨Tryz.isAgg84⟩
instance : TZ Tryz.prog 84 (.nilFunc) := ⟨Tryz.zeroValue84⟩
instance : TZL Tryz.prog 84 [.nilFunc] := ⟨_, Tryz.zeroValue84, rfl⟩
instance : TIn Tryz.prog 84 1 8 (.nilFunc) := ⟨_, rfl, rfl, rfl, rfl, rfl, by decide⟩
instance : TSz Tryz.prog 85 1 := ⟨Tryz.sizeOf85⟩
instance : TAgg Tryz.prog 85 false := ⟨Tryz.isAgg85⟩
instance : TZ Tryz.prog 85 (.nilFunc) := ⟨Tryz.zeroValue85⟩
instance : TZL Tryz.prog 85 [.nilFunc] := ⟨_, Tryz.zeroValue85, rfl⟩
instance : TIn Tryz.prog 85 1 8 (.nilFunc) := ⟨_, rfl, rfl, rfl, rfl, rfl, by decide⟩
instance : TSz Tryz.prog 86 1 := ⟨Tryz.sizeOf86⟩
instance : TAgg Tryz.prog 86 false := ⟨Tryz.isAgg86⟩
instance : TZ Tryz.prog 86 (.nilIface) := ⟨Tryz.zeroValue86⟩
instance : TZL Tryz.prog 86 [.nilIface] := ⟨_, Tryz.zeroValue86, rfl⟩
instance : TIn Tryz.prog 86 1 16 (.nilIface) := ⟨_, rfl, rfl, rfl, rfl, rfl, by decide⟩
instance : TSz Tryz.prog 87 1 := ⟨Tryz.sizeOf87⟩
instance : TAgg Tryz.prog 87 false := ⟨Tryz.isAgg87⟩
instance : TZ Tryz.prog 87 (.nilIface) := ⟨Tryz.zeroValue87⟩
instance : TZL Tryz.prog 87 [.nilIface] := ⟨_, Tryz.zeroValue87, rfl⟩
instance : TIn Tryz.prog 87 1 16 (.nilIface) := ⟨_, rfl, rfl, rfl, rfl, rfl, by decide⟩
instance : TSz Tryz.prog 89 1 := ⟨Tryz.sizeOf89⟩
instance : TAgg Tryz.prog 89 false := ⟨Tryz.isAgg89⟩
instance : TZ Tryz.prog 89 (.nilFunc) := ⟨Tryz.zeroValue89⟩
instance : TZL Tryz.prog 89 [.nilFunc] := ⟨_, Tryz.zeroValue89, rfl⟩
instance : TIn Tryz.prog 89 1 8 (.nilFunc) := ⟨_, rfl, rfl, rfl, rfl, rfl, by decide⟩
instance : TSz Tryz.prog 90 1 := ⟨Tryz.sizeOf90⟩
instance : TAgg Tryz.prog 90 false := ⟨Tryz.isAgg90⟩
instance : TZ Tryz.prog 90 (.nilFunc) := ⟨Tryz.zeroValue90⟩
instance : TZL Tryz.prog 90 [.nilFunc] := ⟨_, Tryz.zeroValue90, rfl⟩
instance : TIn Tryz.prog 90 1 8 (.nilFunc) := ⟨_, rfl, rfl, rfl, rfl, rfl, by decide⟩
instance : TSz Tryz.prog 91 1 := ⟨Tryz.sizeOf91⟩
instance : TAgg Tryz.prog 91 false := ⟨Tryz.isAgg91⟩
instance : TZ Tryz.prog 91 (.nilFunc) := ⟨Tryz.zeroValue91⟩
instance : TZL Tryz.prog 91 [.nilFunc] := ⟨_, Tryz.zeroValue91, rfl⟩
instance : TIn Tryz.prog 91 1 8 (.nilFunc) := ⟨_, rfl, rfl, rfl, rfl, rfl, by decide⟩
instance : TSz Tryz.prog 92 1 := ⟨Tryz.sizeOf92⟩
instance : TAgg Tryz.prog 92 false := ⟨Tryz.isAgg92⟩
instance : TIt Tryz.prog 92 .u64 := ⟨Tryz.underlying92⟩
instance : TZ Tryz.prog 92 (.int .u64 0) := ⟨Tryz.zeroValue92⟩
instance : TZL Tryz.prog 92 [.int .u64 0] := ⟨_, Tryz.zeroValue92, rfl⟩
instance : TIn Tryz.prog 92 1 8 (.int .u64 0) := ⟨_, rfl, rfl, rfl, rfl, rfl, by decide⟩
instance : TSz Tryz.prog 93 1 := ⟨Tryz.sizeOf93⟩
instance : TAgg Tryz.prog 93 false := ⟨Tryz.isAgg93⟩
instance : TZ Tryz.prog 93 (.nilFunc) := ⟨Tryz.zeroValue93⟩
instance : TZL Tryz.prog 93 [.nilFunc] := ⟨_, Tryz.zeroValue93, rfl⟩
instance : TIn Tryz.prog 93 1 8 (.nilFunc) := ⟨_, rfl, rfl, rfl, rfl, rfl, by decide⟩
instance : TSz Tryz.prog 94 1 := ⟨Tryz.sizeOf94⟩
instance : TAgg Tryz.prog 94 false := ⟨Tryz.isAgg94⟩
instance : TZ Tryz.prog 94 (.nilFunc) := ⟨Tryz.zeroValue94⟩
instance : TZL Tryz.prog 94 [.nilFunc] := ⟨_, Tryz.zeroValue94, rfl⟩
instance : TIn Tryz.prog 94 1 8 (.nilFunc) := ⟨_, rfl, rfl, rfl, rfl, rfl, by decide⟩
instance : TSz Tryz.prog 95 1 := ⟨Tryz.sizeOf95⟩
instance : TAgg Tryz.prog 95 false := ⟨Tryz.isAgg95⟩
instance : TZ Tryz.prog 95 (.nilFunc) := ⟨Tryz.zeroValue95⟩
instance : TZL Tryz.prog 95 [.nilFunc] := ⟨_, Tryz.zeroValue95, rfl⟩
instance : TIn Tryz.prog 95 1 8 (.nilFunc) := ⟨_, rfl, rfl, rfl, rfl, rfl, by decide⟩
instance : TSz Tryz.prog 96 1 := ⟨Tryz.sizeOf96⟩
instance : TAgg Tryz.prog 96 false := ⟨Tryz.isAgg96⟩
instance : TZ Tryz.prog 96 (.nilFunc) := ⟨Tryz.zeroValue96⟩
instance : TZL Tryz.prog 96 [.nilFunc] := ⟨_, Tryz.zeroValue96, rfl⟩
instance : TIn Tryz.prog 96 1 8 (.nilFunc) := ⟨_, rfl, rfl, rfl, rfl, rfl, by decide⟩
instance : TSz Tryz.prog 97 1 := ⟨Tryz.sizeOf97⟩
instance : TAgg Tryz.prog 97 false := ⟨Tryz.isAgg97⟩
instance : TZ Tryz.prog 97 (.nilFunc) := ⟨Tryz.zeroValue97⟩
instance : TZL Tryz.prog 97 [.nilFunc] := ⟨_, Tryz.zeroValue97, rfl⟩
instance : TIn Tryz.prog 97 1 8 (.nilFunc) := ⟨_, rfl, rfl, rfl, rfl, rfl, by decide⟩
instance : TSz Tryz.prog 98 1 := ⟨Tryz.sizeOf98⟩
instance : TAgg Tryz.prog 98 false := ⟨Tryz.isAgg98⟩
instance : TIt Tryz.prog 98 .i64 := ⟨Tryz.underlying98⟩
instance : TZ Tryz.prog 98 (.int .i64 0) := ⟨Tryz.zeroValue98⟩
instance : TZL Tryz.prog 98 [.int .i64 0] := ⟨_, Tryz.zeroValue98, rfl⟩
instance : TIn Tryz.prog 98 1 8 (.int .i64 0) := ⟨_, rfl, rfl, rfl, rfl, rfl, by decide⟩
instance : TSz Tryz.prog 100 1 := ⟨Tryz.sizeOf100⟩
instance : TAgg Tryz.prog 100 false := ⟨Tryz.isAgg100⟩
instance : TZ Tryz.prog 100 (.nilFunc) := ⟨Tryz.zeroValue100⟩
instance : TZL Tryz.prog 100 [.nilFunc] := ⟨_, Tryz.zeroValue100, rfl⟩
instance : TIn Tryz.prog 100 1 8 (.nilFunc) := ⟨_, rfl, rfl, rfl, rfl, rfl, by decide⟩
instance : TSz Tryz.prog 101 1 := ⟨Tryz.sizeOf101⟩
instance : TAgg Tryz.prog 101 false := ⟨Tryz.isAgg101⟩
instance : TZ Tryz.prog 101 (.nilFunc) := ⟨Tryz.zeroValue101⟩
instance : TZL Tryz.prog 101 [.nilFunc] := ⟨_, Tryz.zeroValue101, rfl⟩
instance : TIn Tryz.prog 101 1 8 (.nilFunc) := ⟨_, rfl, rfl, rfl, rfl, rfl, by decide⟩
instance : TSz Tryz.prog 102 1 := ⟨Tryz.sizeOf102⟩
instance : TAgg Tryz.prog 102 false := ⟨Tryz.isAgg102⟩
instance : TZ Tryz.prog 102 (.nilFunc) := ⟨Tryz.zeroValue102⟩
instance : TZL Tryz.prog 102 [.nilFunc] := ⟨_, Tryz.zeroValue102, rfl⟩
instance : TIn Tryz.prog 102 1 8 (.nilFunc) := ⟨_, rfl, rfl, rfl, rfl, rfl, by decide⟩
instance : TSz Tryz.prog 103 1 := ⟨Tryz.sizeOf103⟩
instance : TAgg Tryz.prog 103 false := ⟨Tryz.isAgg103⟩
instance : TZ Tryz.prog 103 (.nilFunc) := ⟨Tryz.zeroValue103⟩
instance : TZL Tryz.prog 103 [.nilFunc] := ⟨_, Tryz.zeroValue103, rfl⟩
instance : TIn Tryz.prog 103 1 8 (.nilFunc) := ⟨_, rfl, rfl, rfl, rfl, rfl, by decide⟩
instance : TSz Tryz.prog 104 1 := ⟨Tryz.sizeOf104⟩
instance : TAgg Tryz.prog 104 false := ⟨Tryz.isAgg104⟩
instance : TZ Tryz.prog 104 (.nilFunc) := ⟨Tryz.zeroValue104⟩
instance : TZL Tryz.prog 104 [.nilFunc] := ⟨_, Tryz.zeroValue104, rfl⟩
instance : TIn Tryz.prog 104 1 8 (.nilFunc) := ⟨_, rfl, rfl, rfl, rfl, rfl, by decide⟩
instance : TSz Tryz.prog 105 1 := ⟨Tryz.sizeOf105⟩
instance : TAgg Tryz.prog 105 false := ⟨Tryz.isAgg105⟩
instance : TIt Tryz.prog 105 .u32 := ⟨Tryz.underlying105⟩
instance : TZ Tryz.prog 105 (.int .u32 0) := ⟨Tryz.zeroValue105⟩
instance : TZL Tryz.prog 105 [.int .u32 0] := ⟨_, Tryz.zeroValue105, rfl⟩
instance : TIn Tryz.prog 105 1 4 (.int .u32 0) := ⟨_, rfl, rfl, rfl, rfl, rfl, by decide⟩
instance : TSz Tryz.prog 106 1 := ⟨Tryz.sizeOf106⟩
instance : TAgg Tryz.prog 106 false := ⟨Tryz.isAgg106⟩
instance : TZ Tryz.prog 106 (.nilFunc) := ⟨Tryz.zeroValue106⟩
instance : TZL Tryz.prog 106 [.nilFunc] := ⟨_, Tryz.zeroValue106, rfl⟩
instance : TIn Tryz.prog 106 1 8 (.nilFunc) := ⟨_, rfl, rfl, rfl, rfl, rfl, by decide⟩
instance : TSz Tryz.prog 107 1 := ⟨Tryz.sizeOf107⟩
instance : TAgg Tryz.prog 107 false := ⟨Tryz.isAgg107⟩
instance : TIt Tryz.prog 107 .u64 := ⟨Tryz.underlying107⟩
instance : TZ Tryz.prog 107 (.int .u64 0) := ⟨Tryz.zeroValue107⟩
instance : TZL Tryz.prog 107 [.int .u64 0] := ⟨_, Tryz.zeroValue107, rfl⟩
instance : TIn Tryz.prog 107 1 8 (.int .u64 0) := ⟨_, rfl, rfl, rfl, rfl, rfl, by decide⟩
instance : TSz Tryz.prog 108 24 := ⟨Tryz.sizeOf108⟩
instance : TAgg Tryz.prog 108 true := ⟨Tryz.isAgg108⟩
instance : TSz Tryz.prog 109 1 := ⟨Tryz.sizeOf109⟩
instance : TAgg Tryz.prog 109 false := ⟨Tryz.isAgg109⟩
instance : TZ Tryz.prog 109 (.nilFunc) := ⟨Tryz.zeroValue109⟩
instance : TZL Tryz.prog 109 [.nilFunc] := ⟨_, Tryz.zeroValue109, rfl⟩
instance : TIn Tryz.prog 109 1 8 (.nilFunc) := ⟨_, rfl, rfl, rfl, rfl, rfl, by decide⟩
instance : TSz Tryz.prog 111 1 := ⟨Tryz.sizeOf111⟩
instance : TAgg Tryz.prog 111 false := ⟨Tryz.isAgg111⟩
instance : TZ Tryz.prog 111 (.nilFunc) := ⟨Tryz.zeroValue111⟩
instance : TZL Tryz.prog 111 [.nilFunc] := ⟨_, Tryz.zeroValue111, rfl⟩
instance : TIn Tryz.prog 111 1 8 (.nilFunc) := ⟨_, rfl, rfl, rfl, rfl, rfl, by decide⟩
instance : TSz Tryz.prog 112 1 := ⟨Tryz.sizeOf112⟩
instance : TAgg Tryz.prog 112 false := ⟨Tryz.isAgg112⟩
instance : TZ Tryz.prog 112 (.nilFunc) := ⟨Tryz.zeroValue112⟩
instance : TZL Tryz.prog 112 [.nilFunc] := ⟨_, Tryz.zeroValue112, rfl⟩
instance : TIn Tryz.prog 112 1 8 (.nilFunc) := ⟨_, rfl, rfl, rfl, rfl, rfl, by decide⟩
instance : TSz Tryz.prog 113 1 := ⟨Tryz.sizeOf113⟩
instance : TAgg Tryz.prog 113 false := ⟨Tryz.isAgg113⟩
instance : TZ Tryz.prog 113 (.nilFunc) := ⟨Tryz.zeroValue113⟩
instance : TZL Tryz.prog 113 [.nilFunc] := ⟨_, Tryz.zeroValue113, rfl⟩
instance : TIn Tryz.prog 113 1 8 (.nilFunc) := ⟨_, rfl, rfl, rfl, rfl, rfl, by decide⟩
instance : TSz Tryz.prog 114 1 := ⟨Tryz.sizeOf114⟩
instance : TAgg Tryz.prog 114 false := ⟨Tryz.isAgg114⟩
instance : TIt Tryz.prog 114 .i64 := ⟨Tryz.underlying114⟩
instance : TZ Tryz.prog 114 (.int .i64 0) := ⟨Tryz.zeroValue114⟩
instance : TZL Tryz.prog 114 [.int .i64 0] := ⟨_, Tryz.zeroValue114, rfl⟩
instance : TIn Tryz.prog 114 1 8 (.int .i64 0) := ⟨_, rfl, rfl, rfl, rfl, rfl, by decide⟩
instance : TSz Tryz.prog 116 1 := ⟨Tryz.sizeOf116⟩
instance : TAgg Tryz.prog 116 false := ⟨Tryz.isAgg116⟩
instance : TZ Tryz.prog 116 (.nilFunc) := ⟨Tryz.zeroValue116⟩
instance : TZL Tryz.prog 116 [.nilFunc] := ⟨_, Tryz.zeroValue116, rfl⟩
instance : TIn Tryz.prog 116 1 8 (.nilFunc) := ⟨_, rfl, rfl, rfl, rfl, rfl, by decide⟩
instance : TSz Tryz.prog 117 1 := ⟨Tryz.sizeOf117⟩
instance : TAgg Tryz.prog 117 false := ⟨Tryz.isAgg117⟩
instance : TPt Tryz.prog 117 := ⟨_, Tryz.underlying117⟩
instance : TZ Tryz.prog 117 (.pointer none) := ⟨Tryz.zeroValue117⟩
instance : TZL Tryz.prog 117 [.pointer none] := ⟨_, Tryz.zeroValue117, rfl⟩
instance : TIn Tryz.prog 117 1 8 (.pointer none) := ⟨_, rfl, rfl, rfl, rfl, rfl, by decide⟩
instance : TSz Tryz.prog 118 1 := ⟨Tryz.sizeOf118⟩
instance : TAgg Tryz.prog 118 false := ⟨Tryz.isAgg118⟩
instance : TZ Tryz.prog 118 (.nilFunc) := ⟨Tryz.zeroValue118⟩
instance : TZL Tryz.prog 118 [.nilFunc] := ⟨_, Tryz.zeroValue118, rfl⟩
instance : TIn Tryz.prog 118 1 8 (.nilFunc) := ⟨_, rfl, rfl, rfl, rfl, rfl, by decide⟩
instance : TSz Tryz.prog 119 1 := ⟨Tryz.sizeOf119⟩
instance : TAgg Tryz.prog 119 false := ⟨Tryz.isAgg119⟩
instance : TZ Tryz.prog 119 (.nilFunc) := ⟨Tryz.zeroValue119⟩
instance : TZL Tryz.prog 119 [.nilFunc] := ⟨_, Tryz.zeroValue119, rfl⟩
instance : TIn Tryz.prog 119 1 8 (.nilFunc) := ⟨_, rfl, rfl, rfl, rfl, rfl, by decide⟩
instance : TSz Tryz.prog 120 1 := ⟨Tryz.sizeOf120⟩
instance : TAgg Tryz.prog 120 false := ⟨Tryz.isAgg120⟩
instance : TIt Tryz.prog 120 .u64 := ⟨Tryz.underlying120⟩
instance : TZ Tryz.prog 120 (.int .u64 0) := ⟨Tryz.zeroValue120⟩
instance : TZL Tryz.prog 120 [.int .u64 0] := ⟨_, Tryz.zeroValue120, rfl⟩
instance : TIn Tryz.prog 120 1 8 (.int .u64 0) := ⟨_, rfl, rfl, rfl, rfl, rfl, by decide⟩
instance : TSz Tryz.prog 121 1 := ⟨Tryz.sizeOf121⟩
instance : TAgg Tryz.prog 121 false := ⟨Tryz.isAgg121⟩
instance : TZ Tryz.prog 121 (.nilFunc) := ⟨Tryz.zeroValue121⟩
instance : TZL Tryz.prog 121 [.nilFunc] := ⟨_, Tryz.zeroValue121, rfl⟩
instance : TIn Tryz.prog 121 1 8 (.nilFunc) := ⟨_, rfl, rfl, rfl, rfl, rfl, by decide⟩
instance : TSz Tryz.prog 122 1 := ⟨Tryz.sizeOf122⟩
instance : TAgg Tryz.prog 122 false := ⟨Tryz.isAgg122⟩
instance : TZ Tryz.prog 122 (.nilFunc) := ⟨Tryz.zeroValue122⟩
instance : TZL Tryz.prog 122 [.nilFunc] := ⟨_, Tryz.zeroValue122, rfl⟩
instance : TIn Tryz.prog 122 1 8 (.nilFunc) := ⟨_, rfl, rfl, rfl, rfl, rfl, by decide⟩
instance : TSz Tryz.prog 123 1 := ⟨Tryz.sizeOf123⟩
instance : TAgg Tryz.prog 123 false := ⟨Tryz.isAgg123⟩
instance : TZ Tryz.prog 123 (.nilFunc) := ⟨Tryz.zeroValue123⟩
instance : TZL Tryz.prog 123 [.nilFunc] := ⟨_, Tryz.zeroValue123, rfl⟩
instance : TIn Tryz.prog 123 1 8 (.nilFunc) := ⟨_, rfl, rfl, rfl, rfl, rfl, by decide⟩
instance : TSz Tryz.prog 124 1 := ⟨Tryz.sizeOf124⟩
instance : TAgg Tryz.prog 124 false := ⟨Tryz.isAgg124⟩
instance : TPt Tryz.prog 124 := ⟨_, Tryz.underlying124⟩
instance : TZ Tryz.prog 124 (.pointer none) := ⟨Tryz.zeroValue124⟩
instance : TZL Tryz.prog 124 [.pointer none] := ⟨_, Tryz.zeroValue124, rfl⟩
instance : TIn Tryz.prog 124 1 8 (.pointer none) := ⟨_, rfl, rfl, rfl, rfl, rfl, by decide⟩
instance : TSz Tryz.prog 125 1 := ⟨Tryz.sizeOf125⟩
instance : TAgg Tryz.prog 125 false := ⟨Tryz.isAgg125⟩
instance : TZ Tryz.prog 125 (.nilFunc) := ⟨Tryz.zeroValue125⟩
instance : TZL Tryz.prog 125 [.nilFunc] := ⟨_, Tryz.zeroValue125, rfl⟩
instance : TIn Tryz.prog 125 1 8 (.nilFunc) := ⟨_, rfl, rfl, rfl, rfl, rfl, by decide⟩
instance : TSz Tryz.prog 126 1 := ⟨Tryz.sizeOf126⟩
instance : TAgg Tryz.prog 126 false := ⟨Tryz.isAgg126⟩
instance : TZ Tryz.prog 126 (.nilFunc) := ⟨Tryz.zeroValue126⟩
instance : TZL Tryz.prog 126 [.nilFunc] := ⟨_, Tryz.zeroValue126, rfl⟩
instance : TIn Tryz.prog 126 1 8 (.nilFunc) := ⟨_, rfl, rfl, rfl, rfl, rfl, by decide⟩
instance : TSz Tryz.prog 127 20 := ⟨Tryz.sizeOf127⟩
instance : TAgg Tryz.prog 127 true := ⟨Tryz.isAgg127⟩
instance : TSz Tryz.prog 128 65 := ⟨Tryz.sizeOf128⟩
instance : TAgg Tryz.prog 128 true := ⟨Tryz.isAgg128⟩
instance : TSz Tryz.prog 130 1 := ⟨Tryz.sizeOf130⟩
instance : TAgg Tryz.prog 130 false := ⟨Tryz.isAgg130⟩
instance : TZ Tryz.prog 130 (.nilFunc) := ⟨Tryz.zeroValue130⟩
instance : TZL Tryz.prog 130 [.nilFunc] := ⟨_, Tryz.zeroValue130, rfl⟩
instance : TIn Tryz.prog 130 1 8 (.nilFunc) := ⟨_, rfl, rfl, rfl, rfl, rfl, by decide⟩
instance : TSz Tryz.prog 132 1 := ⟨Tryz.sizeOf132⟩
instance : TAgg Tryz.prog 132 false := ⟨Tryz.isAgg132⟩
instance : TZ Tryz.prog 132 (.nilFunc) := ⟨Tryz.zeroValue132⟩
instance : TZL Tryz.prog 132 [.nilFunc] := ⟨_, Tryz.zeroValue132, rfl⟩
instance : TIn Tryz.prog 132 1 8 (.nilFunc) := ⟨_, rfl, rfl, rfl, rfl, rfl, by decide⟩
instance : TSz Tryz.prog 133 1 := ⟨Tryz.sizeOf133⟩
instance : TAgg Tryz.prog 133 false := ⟨Tryz.isAgg133⟩
instance : TZ Tryz.prog 133 (.nilFunc) := ⟨Tryz.zeroValue133⟩
instance : TZL Tryz.prog 133 [.nilFunc] := ⟨_, Tryz.zeroValue133, rfl⟩
instance : TIn Tryz.prog 133 1 8 (.nilFunc) := ⟨_, rfl, rfl, rfl, rfl, rfl, by decide⟩
instance : TSz Tryz.prog 134 3 := ⟨Tryz.sizeOf134⟩
instance : TAgg Tryz.prog 134 true := ⟨Tryz.isAgg134⟩
instance : TPl Tryz.prog 134 [(0, 1), (1, 1), (2, 1)] := ⟨_, Tryz.underlying134, fun w => by simp [List.mapM_cons]⟩
instance : TFd Tryz.prog 134 0 0 9 := ⟨_, _, Tryz.underlying134, rfl, rfl, rfl, fun w => ⟨0, Tryz.sizeOf9 w⟩⟩
instance : TFd Tryz.prog 134 1 1 9 := ⟨_, _, Tryz.underlying134, rfl, rfl, rfl, fun w => ⟨0, Tryz.sizeOf9 w⟩⟩
instance : TFd Tryz.prog 134 2 2 87 := ⟨_, _, Tryz.underlying134, rfl, rfl, rfl, fun w => ⟨0, Tryz.sizeOf87 w⟩⟩
instance : TZ Tryz.prog 134 (.agg #[.string ⟨#[]⟩, .string ⟨#[]⟩, .nilIface]) := ⟨Tryz.zeroValue134⟩
instance : TZL Tryz.prog 134 [.string ⟨#[]⟩, .string ⟨#[]⟩, .nilIface] := ⟨_, Tryz.zeroValue134, rfl⟩
instance : TIn Tryz.prog 134 3 48 (.agg #[.string ⟨#[]⟩, .string ⟨#[]⟩, .nilIface]) := ⟨_, rfl, rfl, rfl, rfl, rfl, by decide⟩
instance : TSz Tryz.prog 135 3 := ⟨Tryz.sizeOf135⟩
instance : TAgg Tryz.prog 135 true := ⟨Tryz.isAgg135⟩
instance : TPl Tryz.prog 135 [(0, 1), (1, 1), (2, 1)] := ⟨_, Tryz.underlying135, fun w => by simp [List.mapM_cons]⟩
instance : TFd Tryz.prog 135 0 0 9 := ⟨_, _, Tryz.underlying135, rfl, rfl, rfl, fun w => ⟨0, Tryz.sizeOf9 w⟩⟩
instance : TFd Tryz.prog 135 1 1 9 := ⟨_, _, Tryz.underlying135, rfl, rfl, rfl, fun w => ⟨0, Tryz.sizeOf9 w⟩⟩
instance : TFd Tryz.prog 135 2 2 87 := ⟨_, _, Tryz.underlying135, rfl, rfl, rfl, fun w => ⟨0, Tryz.sizeOf87 w⟩⟩
instance : TZ Tryz.prog 135 (.agg #[.string ⟨#[]⟩, .string ⟨#[]⟩, .nilIface]) := ⟨Tryz.zeroValue135⟩
instance : TZL Tryz.prog 135 [.string ⟨#[]⟩, .string ⟨#[]⟩, .nilIface] := ⟨_, Tryz.zeroValue135, rfl⟩
instance : TIn Tryz.prog 135 3 48 (.agg #[.string ⟨#[]⟩, .string ⟨#[]⟩, .nilIface]) := ⟨_, rfl, rfl, rfl, rfl, rfl, by decide⟩
instance : TSz Tryz.prog 136 1 := ⟨Tryz.sizeOf136⟩
instance : TAgg Tryz.prog 136 false := ⟨Tryz.isAgg136⟩
instance : TZ Tryz.prog 136 (.nilFunc) := ⟨Tryz.zeroValue136⟩
instance : TZL Tryz.prog 136 [.nilFunc] := ⟨_, Tryz.zeroValue136, rfl⟩
instance : TIn Tryz.prog 136 1 8 (.nilFunc) := ⟨_, rfl, rfl, rfl, rfl, rfl, by decide⟩
instance : TSz Tryz.prog 137 1 := ⟨Tryz.sizeOf137⟩
instance : TAgg Tryz.prog 137 false := ⟨Tryz.isAgg137⟩
instance : TPt Tryz.prog 137 := ⟨_, Tryz.underlying137⟩
instance : TZ Tryz.prog 137 (.pointer none) := ⟨Tryz.zeroValue137⟩
instance : TZL Tryz.prog 137 [.pointer none] := ⟨_, Tryz.zeroValue137, rfl⟩
instance : TIn Tryz.prog 137 1 8 (.pointer none) := ⟨_, rfl, rfl, rfl, rfl, rfl, by decide⟩
instance : TSz Tryz.prog 138 1 := ⟨Tryz.sizeOf138⟩
instance : TAgg Tryz.prog 138 false := ⟨Tryz.isAgg138⟩
instance : TZ Tryz.prog 138 (.nilFunc) := ⟨Tryz.zeroValue138⟩
instance : TZL Tryz.prog 138 [.nilFunc] := ⟨_, Tryz.zeroValue138, rfl⟩
instance : TIn Tryz.prog 138 1 8 (.nilFunc) := ⟨_, rfl, rfl, rfl, rfl, rfl, by decide⟩
instance : TSz Tryz.prog 139 1 := ⟨Tryz.sizeOf139⟩
instance : TAgg Tryz.prog 139 false := ⟨Tryz.isAgg139⟩
instance : TZ Tryz.prog 139 (.nilFunc) := ⟨Tryz.zeroValue139⟩
instance : TZL Tryz.prog 139 [.nilFunc] := ⟨_, Tryz.zeroValue139, rfl⟩
instance : TIn Tryz.prog 139 1 8 (.nilFunc) := ⟨_, rfl, rfl, rfl, rfl, rfl, by decide⟩
instance : TSz Tryz.prog 140 1 := ⟨Tryz.sizeOf140⟩
instance : TAgg Tryz.prog 140 false := ⟨Tryz.isAgg140⟩
instance : TZ Tryz.prog 140 (.nilFunc) := ⟨Tryz.zeroValue140⟩
instance : TZL Tryz.prog 140 [.nilFunc] := ⟨_, Tryz.zeroValue140, rfl⟩
instance : TIn Tryz.prog 140 1 8 (.nilFunc) := ⟨_, rfl, rfl, rfl, rfl, rfl, by decide⟩
instance : TSz Tryz.prog 141 1 := ⟨Tryz.sizeOf141⟩
instance : TAgg Tryz.prog 141 false := ⟨Tryz.isAgg141⟩
instance : TPt Tryz.prog 141 := ⟨_, Tryz.underlying141⟩
instance : TZ Tryz.prog 141 (.pointer none) := ⟨Tryz.zeroValue141⟩
instance : TZL Tryz.prog 141 [.pointer none] := ⟨_, Tryz.zeroValue141, rfl⟩
instance : TIn Tryz.prog 141 1 8 (.pointer none) := ⟨_, rfl, rfl, rfl, rfl, rfl, by decide⟩
instance : TSz Tryz.prog 142 1 := ⟨Tryz.sizeOf142⟩
instance : TAgg Tryz.prog 142 false := ⟨Tryz.isAgg142⟩
instance : TPt Tryz.prog 142 := ⟨_, Tryz.underlying142⟩
instance : TZ Tryz.prog 142 (.pointer none) := ⟨Tryz.zeroValue142⟩
instance : TZL Tryz.prog 142 [.pointer none] := ⟨_, Tryz.zeroValue142, rfl⟩
instance : TIn Tryz.prog 142 1 8 (.pointer none) := ⟨_, rfl, rfl, rfl, rfl, rfl, by decide⟩
instance : TSz Tryz.prog 143 1 := ⟨Tryz.sizeOf143⟩
instance : TAgg Tryz.prog 143 true := ⟨Tryz.isAgg143⟩
instance : TPl Tryz.prog 143 [(0, 1)] := ⟨_, Tryz.underlying143, fun w => by simp [List.mapM_cons]⟩
instance : TFd Tryz.prog 143 0 0 9 := ⟨_, _, Tryz.underlying143, rfl, rfl, rfl, fun w => ⟨0, Tryz.sizeOf9 w⟩⟩
instance : TZ Tryz.prog 143 (.agg #[.string ⟨#[]⟩]) := ⟨Tryz.zeroValue143⟩
instance : TZL Tryz.prog 143 [.string ⟨#[]⟩] := ⟨_, Tryz.zeroValue143, rfl⟩
instance : TIn Tryz.prog 143 1 16 (.agg #[.string ⟨#[]⟩]) := ⟨_, rfl, rfl, rfl, rfl, rfl, by decide⟩
instance : TSz Tryz.prog 144 1 := ⟨Tryz.sizeOf144⟩
instance : TAgg Tryz.prog 144 true := ⟨Tryz.isAgg144⟩
instance : TPl Tryz.prog 144 [(0, 1)] := ⟨_, Tryz.underlying144, fun w => by simp [List.mapM_cons]⟩
instance : TFd Tryz.prog 144 0 0 9 := ⟨_, _, Tryz.underlying144, rfl, rfl, rfl, fun w => ⟨0, Tryz.sizeOf9 w⟩⟩
instance : TZ Tryz.prog 144 (.agg #[.string ⟨#[]⟩]) := ⟨Tryz.zeroValue144⟩
instance : TZL Tryz.prog 144 [.string ⟨#[]⟩] := ⟨_, Tryz.zeroValue144, rfl⟩
instance : TIn Tryz.prog 144 1 16 (.agg #[.string ⟨#[]⟩]) := ⟨_, rfl, rfl, rfl, rfl, rfl, by decide⟩
instance : TSz Tryz.prog 145 32 := ⟨Tryz.sizeOf145⟩
instance : TAgg Tryz.prog 145 true := ⟨Tryz.isAgg145⟩
instance : TSz Tryz.prog 146 64 := ⟨Tryz.sizeOf146⟩
instance : TAgg Tryz.prog 146 true := ⟨Tryz.isAgg146⟩
instance : TSz Tryz.prog 147 1 := ⟨Tryz.sizeOf147⟩
instance : TAgg Tryz.prog 147 false := ⟨Tryz.isAgg147⟩
instance : TZ Tryz.prog 147 (.nilFunc) := ⟨Tryz.zeroValue147⟩
instance : TZL Tryz.prog 147 [.nilFunc] := ⟨_, Tryz.zeroValue147, rfl⟩
instance : TIn Tryz.prog 147 1 8 (.nilFunc) := ⟨_, rfl, rfl, rfl, rfl, rfl, by decide⟩
instance : TSz Tryz.prog 148 4 := ⟨Tryz.sizeOf148⟩
instance : TAgg Tryz.prog 148 true := ⟨Tryz.isAgg148⟩
instance : TPl Tryz.prog 148 [(0, 1), (1, 1), (2, 1), (3, 1)] := ⟨_, Tryz.underlying148, fun w => by simp [List.mapM_cons]⟩
instance : TFd Tryz.prog 148 0 0 17 := ⟨_, _, Tryz.underlying148, rfl, rfl, rfl, fun w => ⟨0, Tryz.sizeOf17 w⟩⟩
instance : TFd Tryz.prog 148 1 1 17 := ⟨_, _, Tryz.underlying148, rfl, rfl, rfl, fun w => ⟨0, Tryz.sizeOf17 w⟩⟩
instance : TFd Tryz.prog 148 2 2 17 := ⟨_, _, Tryz.underlying148, rfl, rfl, rfl, fun w => ⟨0, Tryz.sizeOf17 w⟩⟩
instance : TFd Tryz.prog 148 3 3 9 := ⟨_, _, Tryz.underlying148, rfl, rfl, rfl, fun w => ⟨0, Tryz.sizeOf9 w⟩⟩
instance : TZ Tryz.prog 148 (.agg #[.pointer none, .pointer none, .pointer none, .string ⟨#[]⟩]) := ⟨Tryz.zeroValue148⟩
instance : TZL Tryz.prog 148 [.pointer none, .pointer none, .pointer none, .string ⟨#[]⟩] := ⟨_, Tryz.zeroValue148, rfl⟩
instance : TIn Tryz.prog 148 4 40 (.agg #[.pointer none, .pointer none, .pointer none, .string ⟨#[]⟩]) := ⟨_, rfl, rfl, rfl, rfl, rfl, by decide⟩
instance : TSz Tryz.prog 149 4 := ⟨Tryz.sizeOf149⟩
instance : TAgg Tryz.prog 149 true := ⟨Tryz.isAgg149⟩
instance : TPl Tryz.prog 149 [(0, 1), (1, 1), (2, 1), (3, 1)] := ⟨_, Tryz.underlying149, fun w => by simp [List.mapM_cons]⟩
instance : TFd Tryz.prog 149 0 0 17 := ⟨_, _, Tryz.underlying149, rfl, rfl, rfl, fun w => ⟨0, Tryz.sizeOf17 w⟩⟩
instance : TFd Tryz.prog 149 1 1 17 := ⟨_, _, Tryz.underlying149, rfl, rfl, rfl, fun w => ⟨0, Tryz.sizeOf17 w⟩⟩
instance : TFd Tryz.prog 149 2 2 17 := ⟨_, _, Tryz.underlying149, rfl, rfl, rfl, fun w => ⟨0, Tryz.sizeOf17 w⟩⟩
instance : TFd Tryz.prog 149 3 3 9 := ⟨_, _, Tryz.underlying149, rfl, rfl, rfl, fun w => ⟨0, Tryz.sizeOf9 w⟩⟩
instance : TZ Tryz.prog 149 (.agg #[.pointer none, .pointer none, .pointer none, .string ⟨#[]⟩]) := ⟨Tryz.zeroValue149⟩
instance : TZL Tryz.prog 149 [.pointer none, .pointer none, .pointer none, .string ⟨#[]⟩] := ⟨_, Tryz.zeroValue149, rfl⟩
instance : TIn Tryz.prog 149 4 40 (.agg #[.pointer none, .pointer none, .pointer none, .string ⟨#[]⟩]) := ⟨_, rfl, rfl, rfl, rfl, rfl, by decide⟩
instance : TSz Tryz.prog 150 0 := ⟨Tryz.sizeOf150⟩
instance : TAgg Tryz.prog 150 true := ⟨Tryz.isAgg150⟩
instance : TSz Tryz.prog 151 0 := ⟨Tryz.sizeOf151⟩
instance : TAgg Tryz.prog 151 true := ⟨Tryz.isAgg151⟩
instance : TPl Tryz.prog 151 [(0, 0)] := ⟨_, Tryz.underlying151, fun w => by simp [List.mapM_cons]⟩
instance : TSz Tryz.prog 152 0 := ⟨Tryz.sizeOf152⟩
instance : TAgg Tryz.prog 152 true := ⟨Tryz.isAgg152⟩
instance : TPl Tryz.prog 152 [(0, 0)] := ⟨_, Tryz.underlying152, fun w => by simp [List.mapM_cons]⟩
instance : TSz Tryz.prog 153 1 := ⟨Tryz.sizeOf153⟩
instance : TAgg Tryz.prog 153 false := ⟨Tryz.isAgg153⟩
instance : TZ Tryz.prog 153 (.nilFunc) := ⟨Tryz.zeroValue153⟩
instance : TZL Tryz.prog 153 [.nilFunc] := ⟨_, Tryz.zeroValue153, rfl⟩
instance : TIn Tryz.prog 153 1 8 (.nilFunc) := ⟨_, rfl, rfl, rfl, rfl, rfl, by decide⟩
instance : TSz Tryz.prog 154 1 := ⟨Tryz.sizeOf154⟩
instance : TAgg Tryz.prog 154 false := ⟨Tryz.isAgg154⟩
instance : TIt Tryz.prog 154 .u8 := ⟨Tryz.underlying154⟩
instance : TZ Tryz.prog 154 (.int .u8 0) := ⟨Tryz.zeroValue154⟩
instance : TZL Tryz.prog 154 [.int .u8 0] := ⟨_, Tryz.zeroValue154, rfl⟩
instance : TIn Tryz.prog 154 1 1 (.int .u8 0) := ⟨_, rfl, rfl, rfl, rfl, rfl, by decide⟩
instance : TSz Tryz.prog 155 1 := ⟨Tryz.sizeOf155⟩
instance : TAgg Tryz.prog 155 false := ⟨Tryz.isAgg155⟩
instance : TIt Tryz.prog 155 .u8 := ⟨Tryz.underlying155⟩
instance : TZ Tryz.prog 155 (.int .u8 0) := ⟨Tryz.zeroValue155⟩
instance : TZL Tryz.prog 155 [.int .u8 0] := ⟨_, Tryz.zeroValue155, rfl⟩
instance : TIn Tryz.prog 155 1 1 (.int .u8 0) := ⟨_, rfl, rfl, rfl, rfl, rfl, by decide⟩
instance : TSz Tryz.prog 156 1 := ⟨Tryz.sizeOf156⟩
instance : TAgg Tryz.prog 156 false := ⟨Tryz.isAgg156⟩
instance : TZ Tryz.prog 156 (.nilFunc) := ⟨Tryz.zeroValue156⟩
instance : TZL Tryz.prog 156 [.nilFunc] := ⟨_, Tryz.zeroValue156, rfl⟩
instance : TIn Tryz.prog 156 1 8 (.nilFunc) := ⟨_, rfl, rfl, rfl, rfl, rfl, by decide⟩
instance : TSz Tryz.prog 157 1 := ⟨Tryz.sizeOf157⟩
instance : TAgg Tryz.prog 157 false := ⟨Tryz.isAgg157⟩
instance : TIt Tryz.prog 157 .i32 := ⟨Tryz.underlying157⟩
instance : TZ Tryz.prog 157 (.int .i32 0) := ⟨Tryz.zeroValue157⟩
instance : TZL Tryz.prog 157 [.int .i32 0] := ⟨_, Tryz.zeroValue157, rfl⟩
instance : TIn Tryz.prog 157 1 4 (.int .i32 0) := ⟨_, rfl, rfl, rfl, rfl, rfl, by decide⟩
instance : TSz Tryz.prog 158 1 := ⟨Tryz.sizeOf158⟩
instance : TAgg Tryz.prog 158 false := ⟨Tryz.isAgg158⟩
instance : TIt Tryz.prog 158 .i32 := ⟨Tryz.underlying158⟩
instance : TZ Tryz.prog 158 (.int .i32 0) := ⟨Tryz.zeroValue158⟩
instance : TZL Tryz.prog 158 [.int .i32 0] := ⟨_, Tryz.zeroValue158, rfl⟩
instance : TIn Tryz.prog 158 1 4 (.int .i32 0) := ⟨_, rfl, rfl, rfl, rfl, rfl, by decide⟩
instance : TSz Tryz.prog 159 11 := ⟨Tryz.sizeOf159⟩
instance : TAgg Tryz.prog 159 true := ⟨Tryz.isAgg159⟩
instance : TPl Tryz.prog 159 [(0, 1), (1, 1), (2, 1), (3, 1), (4, 1), (5, 1), (6, 1), (7, 1), (8, 1), (9, 1), (10, 1)] := ⟨_, Tryz.underlying159, fun w => by simp [List.mapM_cons]⟩
instance : TFd Tryz.prog 159 0 0 12 := ⟨_, _, Tryz.underlying159, rfl, rfl, rfl, fun w => ⟨0, Tryz.sizeOf12 w⟩⟩
instance : TFd Tryz.prog 159 1 1 12 := ⟨_, _, Tryz.underlying159, rfl, rfl, rfl, fun w => ⟨0, Tryz.sizeOf12 w⟩⟩
instance : TFd Tryz.prog 159 2 2 105 := ⟨_, _, Tryz.underlying159, rfl, rfl, rfl, fun w => ⟨0, Tryz.sizeOf105 w⟩⟩
instance : TFd Tryz.prog 159 3 3 154 := ⟨_, _, Tryz.underlying159, rfl, rfl, rfl, fun w => ⟨0, Tryz.sizeOf154 w⟩⟩
instance : TFd Tryz.prog 159 4 4 5 := ⟨_, _, Tryz.underlying159, rfl, rfl, rfl, fun w => ⟨0, Tryz.sizeOf5 w⟩⟩
instance : TFd Tryz.prog 159 5 5 5 := ⟨_, _, Tryz.underlying159, rfl, rfl, rfl, fun w => ⟨0, Tryz.sizeOf5 w⟩⟩
instance : TFd Tryz.prog 159 6 6 155 := ⟨_, _, Tryz.underlying159, rfl, rfl, rfl, fun w => ⟨0, Tryz.sizeOf155 w⟩⟩
instance : TFd Tryz.prog 159 7 7 156 := ⟨_, _, Tryz.underlying159, rfl, rfl, rfl, fun w => ⟨0, Tryz.sizeOf156 w⟩⟩
instance : TFd Tryz.prog 159 8 8 141 := ⟨_, _, Tryz.underlying159, rfl, rfl, rfl, fun w => ⟨0, Tryz.sizeOf141 w⟩⟩
instance : TFd Tryz.prog 159 9 9 157 := ⟨_, _, Tryz.underlying159, rfl, rfl, rfl, fun w => ⟨0, Tryz.sizeOf157 w⟩⟩
instance : TFd Tryz.prog 159 10 10 158 := ⟨_, _, Tryz.underlying159, rfl, rfl, rfl, fun w => ⟨0, Tryz.sizeOf158 w⟩⟩
instance : TZ Tryz.prog 159 (.agg #[.int .u64 0, .int .u64 0, .int .u32 0, .int .u8 0, .int .u8 0, .int .u8 0, .int .u8 0, .nilFunc, .pointer none, .int .i32 0, .int .i32 0]) := ⟨Tryz.zeroValue159⟩
instance : TZL Tryz.prog 159 [.int .u64 0, .int .u64 0, .int .u32 0, .int .u8 0, .int .u8 0, .int .u8 0, .int .u8 0, .nilFunc, .pointer none, .int .i32 0, .int .i32 0] := ⟨_, Tryz.zeroValue159, rfl⟩
instance : TIn Tryz.prog 159 11 48 (.agg #[.int .u64 0, .int .u64 0, .int .u32 0, .int .u8 0, .int .u8 0, .int .u8 0, .int .u8 0, .nilFunc, .pointer none, .int .i32 0, .int .i32 0]) := ⟨_, rfl, rfl, rfl, rfl, rfl, by decide⟩
instance : TSz Tryz.prog 160 11 := ⟨Tryz.sizeOf160⟩
instance : TAgg Tryz.prog 160 true := ⟨Tryz.isAgg160⟩
instance : TPl Tryz.prog 160 [(0, 1), (1, 1), (2, 1), (3, 1), (4, 1), (5, 1), (6, 1), (7, 1), (8, 1), (9, 1), (10, 1)] := ⟨_, Tryz.underlying160, fun w => by simp [List.mapM_cons]⟩
instance : TFd Tryz.prog 160 0 0 12 := ⟨_, _, Tryz.underlying160, rfl, rfl, rfl, fun w => ⟨0, Tryz.sizeOf12 w⟩⟩
instance : TFd Tryz.prog 160 1 1 12 := ⟨_, _, Tryz.underlying160, rfl, rfl, rfl, fun w => ⟨0, Tryz.sizeOf12 w⟩⟩
instance : TFd Tryz.prog 160 2 2 105 := ⟨_, _, Tryz.underlying160, rfl, rfl, rfl, fun w => ⟨0, Tryz.sizeOf105 w⟩⟩
instance : TFd Tryz.prog 160 3 3 154 := ⟨_, _, Tryz.underlying160, rfl, rfl, rfl, fun w => ⟨0, Tryz.sizeOf154 w⟩⟩
instance : TFd Tryz.prog 160 4 4 5 := ⟨_, _, Tryz.underlying160, rfl, rfl, rfl, fun w => ⟨0, Tryz.sizeOf5 w⟩⟩
instance : TFd Tryz.prog 160 5 5 5 := ⟨_, _, Tryz.underlying160, rfl, rfl, rfl, fun w => ⟨0, Tryz.sizeOf5 w⟩⟩
instance : TFd Tryz.prog 160 6 6 155 := ⟨_, _, Tryz.underlying160, rfl, rfl, rfl, fun w => ⟨0, Tryz.sizeOf155 w⟩⟩
instance : TFd Tryz.prog 160 7 7 156 := ⟨_, _, Tryz.underlying160, rfl, rfl, rfl, fun w => ⟨0, Tryz.sizeOf156 w⟩⟩
instance : TFd Tryz.prog 160 8 8 141 := ⟨_, _, Tryz.underlying160, rfl, rfl, rfl, fun w => ⟨0, Tryz.sizeOf141 w⟩⟩
instance : TFd Tryz.prog 160 9 9 157 := ⟨_, _, Tryz.underlying160, rfl, rfl, rfl, fun w => ⟨0, Tryz.sizeOf157 w⟩⟩
instance : TFd Tryz.prog 160 10 10 158 := ⟨_, _, Tryz.underlying160, rfl, rfl, rfl, fun w => ⟨0, Tryz.sizeOf158 w⟩⟩
instance : TZ Tryz.prog 160 (.agg #[.int .u64 0, .int .u64 0, .int .u32 0, .int .u8 0, .int .u8 0, .int .u8 0, .int .u8 0, .nilFunc, .pointer none, .int .i32 0, .int .i32 0]) := ⟨Tryz.zeroValue160⟩
instance : TZL Tryz.prog 160 [.int .u64 0, .int .u64 0, .int .u32 0, .int .u8 0, .int .u8 0, .int .u8 0, .int .u8 0, .nilFunc, .pointer none, .int .i32 0, .int .i32 0] := ⟨_, Tryz.zeroValue160, rfl⟩
instance : TIn Tryz.prog 160 11 48 (.agg #[.int .u64 0, .int .u64 0, .int .u32 0, .int .u8 0, .int .u8 0, .int .u8 0, .int .u8 0, .nilFunc, .pointer none, .int .i32 0, .int .i32 0]) := ⟨_, rfl, rfl, rfl, rfl, rfl, by decide⟩
instance : TSz Tryz.prog 161 1 := ⟨Tryz.sizeOf161⟩
instance : TAgg Tryz.prog 161 false := ⟨Tryz.isAgg161⟩
instance : TFn Tryz.prog 3 := ⟨Tryz.call3⟩
instance : TBody Tryz.prog 3 Tryz.f3 (Tryz.f3.body.getD .skip) 88 := ⟨Tryz.func3, rfl, Tryz.ntmps3⟩
instance : TFn Tryz.prog 4 := ⟨Tryz.call4⟩
instance : TBody Tryz.prog 4 Tryz.f4 (Tryz.f4.body.getD .skip) 36 := ⟨Tryz.func4, rfl, Tryz.ntmps4⟩
instance : TFn Tryz.prog 5 := ⟨Tryz.call5⟩
instance : TBody Tryz.prog 5 Tryz.f5 (Tryz.f5.body.getD .skip) 67 := ⟨Tryz.func5, rfl, Tryz.ntmps5⟩
instance : TFn Tryz.prog 6 := ⟨Tryz.call6⟩
instance : TBody Tryz.prog 6 Tryz.f6 (Tryz.f6.body.getD .skip) 54 := ⟨Tryz.func6, rfl, Tryz.ntmps6⟩
instance : TFn Tryz.prog 7 := ⟨Tryz.call7⟩
instance : TBody Tryz.prog 7 Tryz.f7 (Tryz.f7.body.getD .skip) 69 := ⟨Tryz.func7, rfl, Tryz.ntmps7⟩
instance : TFn Tryz.prog 8 := ⟨Tryz.call8⟩
instance : TBody Tryz.prog 8 Tryz.f8 (Tryz.f8.body.getD .skip) 14 := ⟨Tryz.func8, rfl, Tryz.ntmps8⟩
instance : TFn Tryz.prog 9 := ⟨Tryz.call9⟩
instance : TBody Tryz.prog 9 Tryz.f9 (Tryz.f9.body.getD .skip) 42 := ⟨Tryz.func9, rfl, Tryz.ntmps9⟩
instance : TFn Tryz.prog 10 := ⟨Tryz.call10⟩
instance : TBody Tryz.prog 10 Tryz.f10 (Tryz.f10.body.getD .skip) 40 := ⟨Tryz.func10, rfl, Tryz.ntmps10⟩
instance : TFn Tryz.prog 11 := ⟨Tryz.call11⟩
instance : TBody Tryz.prog 11 Tryz.f11 (Tryz.f11.body.getD .skip) 26 := ⟨Tryz.func11, rfl, Tryz.ntmps11⟩
instance : TFn Tryz.prog 12 := ⟨Tryz.call12⟩
instance : TBody Tryz.prog 12 Tryz.f12 (Tryz.f12.body.getD .skip) 75 := ⟨Tryz.func12, rfl, Tryz.ntmps12⟩
instance : TFn Tryz.prog 13 := ⟨Tryz.call13⟩
instance : TBody Tryz.prog 13 Tryz.f13 (Tryz.f13.body.getD .skip) 59 := ⟨Tryz.func13, rfl, Tryz.ntmps13⟩
instance : TFn Tryz.prog 14 := ⟨Tryz.call14⟩
instance : TBody Tryz.prog 14 Tryz.f14 (Tryz.f14.body.getD .skip) 102 := ⟨Tryz.func14, rfl, Tryz.ntmps14⟩
instance : TFn Tryz.prog 15 := ⟨Tryz.call15⟩
instance : TBody Tryz.prog 15 Tryz.f15 (Tryz.f15.body.getD .skip) 8 := ⟨Tryz.func15, rfl, Tryz.ntmps15⟩
instance : TFn Tryz.prog 16 := ⟨Tryz.call16⟩
instance : TBody Tryz.prog 16 Tryz.f16 (Tryz.f16.body.getD .skip) 22 := ⟨Tryz.func16, rfl, Tryz.ntmps16⟩
instance : TFn Tryz.prog 17 := ⟨Tryz.call17⟩
instance : TBody Tryz.prog 17 Tryz.f17 (Tryz.f17.body.getD .skip) 16 := ⟨Tryz.func17, rfl, Tryz.ntmps17⟩
instance : TFn Tryz.prog 18 := ⟨Tryz.call18⟩
instance : TBody Tryz.prog 18 Tryz.f18 (Tryz.f18.body.getD .skip) 12 := ⟨Tryz.func18, rfl, Tryz.ntmps18⟩
instance : TFn Tryz.prog 19 := ⟨Tryz.call19⟩
instance : TBody Tryz.prog 19 Tryz.f19 (Tryz.f19.body.getD .skip) 12 := ⟨Tryz.func19, rfl, Tryz.ntmps19⟩
instance : TFn Tryz.prog 20 := ⟨Tryz.call20⟩
instance : TBody Tryz.prog 20 Tryz.f20 (Tryz.f20.body.getD .skip) 25 := ⟨Tryz.func20, rfl, Tryz.ntmps20⟩
instance : TFn Tryz.prog 21 := ⟨Tryz.call21⟩
instance : TBody Tryz.prog 21 Tryz.f21 (Tryz.f21.body.getD .skip) 13 := ⟨Tryz.func21, rfl, Tryz.ntmps21⟩
instance : TFn Tryz.prog 22 := ⟨Tryz.call22⟩
instance : TBody Tryz.prog 22 Tryz.f22 (Tryz.f22.body.getD .skip) 35 := ⟨Tryz.func22, rfl, Tryz.ntmps22⟩
instance : TFn Tryz.prog 23 := ⟨Tryz.call23⟩
instance : TBody Tryz.prog 23 Tryz.f23 (Tryz.f23.body.getD .skip) 39 := ⟨Tryz.func23, rfl, Tryz.ntmps23⟩
instance : TFn Tryz.prog 24 := ⟨Tryz.call24⟩
instance : TBody Tryz.prog 24 Tryz.f24 (Tryz.f24.body.getD .skip) 25 := ⟨Tryz.func24, rfl, Tryz.ntmps24⟩
instance : TFn Tryz.prog 25 := ⟨Tryz.call25⟩
instance : TBody Tryz.prog 25 Tryz.f25 (Tryz.f25.body.getD .skip) 17 := ⟨Tryz.func25, rfl, Tryz.ntmps25⟩
instance : TFn Tryz.prog 26 := ⟨Tryz.call26⟩
instance : TBody Tryz.prog 26 Tryz.f26 (Tryz.f26.body.getD .skip) 12 := ⟨Tryz.func26, rfl, Tryz.ntmps26⟩
instance : TFn Tryz.prog 27 := ⟨Tryz.call27⟩
instance : TBody Tryz.prog 27 Tryz.f27 (Tryz.f27.body.getD .skip) 17 := ⟨Tryz.func27, rfl, Tryz.ntmps27⟩
instance : TFn Tryz.prog 28 := ⟨Tryz.call28⟩
instance : TBody Tryz.prog 28 Tryz.f28 (Tryz.f28.body.getD .skip) 12 := ⟨Tryz.func28, rfl, Tryz.ntmps28⟩
instance : TFn Tryz.prog 29 := ⟨Tryz.call29⟩
instance : TBody Tryz.prog 29 Tryz.f29 (Tryz.f29.body.getD .skip) 22 := ⟨Tryz.func29, rfl, Tryz.ntmps29⟩
instance : TFn Tryz.prog 30 := ⟨Tryz.call30⟩
instance : TBody Tryz.prog 30 Tryz.f30 (Tryz.f30.body.getD .skip) 34 := ⟨Tryz.func30, rfl, Tryz.ntmps30⟩
instance : TFn Tryz.prog 31 := ⟨Tryz.call31⟩
instance : TBody Tryz.prog 31 Tryz.f31 (Tryz.f31.body.getD .skip) 9 := ⟨Tryz.func31, rfl, Tryz.ntmps31⟩
instance : TFn Tryz.prog 32 := ⟨Tryz.call32⟩
instance : TBody Tryz.prog 32 Tryz.f32 (Tryz.f32.body.getD .skip) 31 := ⟨Tryz.func32, rfl, Tryz.ntmps32⟩
instance : TFn Tryz.prog 33 := ⟨Tryz.call33⟩
instance : TBody Tryz.prog 33 Tryz.f33 (Tryz.f33.body.getD .skip) 101 := ⟨Tryz.func33, rfl, Tryz.ntmps33⟩
instance : TFn Tryz.prog 34 := ⟨Tryz.call34⟩
instance : TBody Tryz.prog 34 Tryz.f34 (Tryz.f34.body.getD .skip) 51 := ⟨Tryz.func34, rfl, Tryz.ntmps34⟩
instance : TFn Tryz.prog 35 := ⟨Tryz.call35⟩
instance : TBody Tryz.prog 35 Tryz.f35 (Tryz.f35.body.getD .skip) 32 := ⟨Tryz.func35, rfl, Tryz.ntmps35⟩
instance : TFn Tryz.prog 36 := ⟨Tryz.call36⟩
instance : TBody Tryz.prog 36 Tryz.f36 (Tryz.f36.body.getD .skip) 84 := ⟨Tryz.func36, rfl, Tryz.ntmps36⟩
instance : TFn Tryz.prog 37 := ⟨Tryz.call37⟩
instance : TBody Tryz.prog 37 Tryz.f37 (Tryz.f37.body.getD .skip) 59 := ⟨Tryz.func37, rfl, Tryz.ntmps37⟩
instance : TFn Tryz.prog 38 := ⟨Tryz.call38⟩
instance : TBody Tryz.prog 38 Tryz.f38 (Tryz.f38.body.getD .skip) 15 := ⟨Tryz.func38, rfl, Tryz.ntmps38⟩
instance : TFn Tryz.prog 39 := ⟨Tryz.call39⟩
instance : TBody Tryz.prog 39 Tryz.f39 (Tryz.f39.body.getD .skip) 9 := ⟨Tryz.func39, rfl, Tryz.ntmps39⟩
instance : TFn Tryz.prog 40 := ⟨Tryz.call40⟩
instance : TBody Tryz.prog 40 Tryz.f40 (Tryz.f40.body.getD .skip) 60 := ⟨Tryz.func40, rfl, Tryz.ntmps40⟩
instance : TFn Tryz.prog 41 := ⟨Tryz.call41⟩
instance : TBody Tryz.prog 41 Tryz.f41 (Tryz.f41.body.getD .skip) 5 := ⟨Tryz.func41, rfl, Tryz.ntmps41⟩
instance : TFn Tryz.prog 42 := ⟨Tryz.call42⟩
instance : TBody Tryz.prog 42 Tryz.f42 (Tryz.f42.body.getD .skip) 13 := ⟨Tryz.func42, rfl, Tryz.ntmps42⟩
instance : TFn Tryz.prog 43 := ⟨Tryz.call43⟩
instance : TBody Tryz.prog 43 Tryz.f43 (Tryz.f43.body.getD .skip) 28 := ⟨Tryz.func43, rfl, Tryz.ntmps43⟩
instance : TFn Tryz.prog 44 := ⟨Tryz.call44⟩
instance : TBody Tryz.prog 44 Tryz.f44 (Tryz.f44.body.getD .skip) 11 := ⟨Tryz.func44, rfl, Tryz.ntmps44⟩
instance : TFn Tryz.prog 45 := ⟨Tryz.call45⟩
instance : TBody Tryz.prog 45 Tryz.f45 (Tryz.f45.body.getD .skip) 39 := ⟨Tryz.func45, rfl, Tryz.ntmps45⟩
instance : TFn Tryz.prog 46 := ⟨Tryz.call46⟩
instance : TBody Tryz.prog 46 Tryz.f46 (Tryz.f46.body.getD .skip) 19 := ⟨Tryz.func46, rfl, Tryz.ntmps46⟩
instance : TFn Tryz.prog 47 := ⟨Tryz.call47⟩
instance : TBody Tryz.prog 47 Tryz.f47 (Tryz.f47.body.getD .skip) 11 := ⟨Tryz.func47, rfl, Tryz.ntmps47⟩
instance : TFn Tryz.prog 48 := ⟨Tryz.call48⟩
instance : TBody Tryz.prog 48 Tryz.f48 (Tryz.f48.body.getD .skip) 61 := ⟨Tryz.func48, rfl, Tryz.ntmps48⟩
instance : TFn Tryz.prog 51 := ⟨Tryz.call51⟩
instance : TBody Tryz.prog 51 Tryz.f51 (Tryz.f51.body.getD .skip) 18 := ⟨Tryz.func51, rfl, Tryz.ntmps51⟩
instance : TFn Tryz.prog 53 := ⟨Tryz.call53⟩
instance : TBody Tryz.prog 53 Tryz.f53 (Tryz.f53.body.getD .skip) 134 := ⟨Tryz.func53, rfl, Tryz.ntmps53⟩
instance : TFn Tryz.prog 54 := ⟨Tryz.call54⟩
instance : TBody Tryz.prog 54 Tryz.f54 (Tryz.f54.body.getD .skip) 8 := ⟨Tryz.func54, rfl, Tryz.ntmps54⟩
instance : TFn Tryz.prog 58 := ⟨Tryz.call58⟩
instance : TBody Tryz.prog 58 Tryz.f58 (Tryz.f58.body.getD .skip) 43 := ⟨Tryz.func58, rfl, Tryz.ntmps58⟩
instance : TFn Tryz.prog 60 := ⟨Tryz.call60⟩
instance : TBody Tryz.prog 60 Tryz.f60 (Tryz.f60.body.getD .skip) 49 := ⟨Tryz.func60, rfl, Tryz.ntmps60⟩
instance : TFn Tryz.prog 61 := ⟨Tryz.call61⟩
instance : TBody Tryz.prog 61 Tryz.f61 (Tryz.f61.body.getD .skip) 56 := ⟨Tryz.func61, rfl, Tryz.ntmps61⟩
instance : TFn Tryz.prog 62 := ⟨Tryz.call62⟩
instance : TBody Tryz.prog 62 Tryz.f62 (Tryz.f62.body.getD .skip) 65 := ⟨Tryz.func62, rfl, Tryz.ntmps62⟩
instance : TFn Tryz.prog 63 := ⟨Tryz.call63⟩
instance : TBody Tryz.prog 63 Tryz.f63 (Tryz.f63.body.getD .skip) 57 := ⟨Tryz.func63, rfl, Tryz.ntmps63⟩
instance : TFn Tryz.prog 64 := ⟨Tryz.call64⟩
instance : TBody Tryz.prog 64 Tryz.f64 (Tryz.f64.body.getD .skip) 32 := ⟨Tryz.func64, rfl, Tryz.ntmps64⟩
instance : TFn Tryz.prog 65 := ⟨Tryz.call65⟩
instance : TBody Tryz.prog 65 Tryz.f65 (Tryz.f65.body.getD .skip) 133 := ⟨Tryz.func65, rfl, Tryz.ntmps65⟩
instance : TFn Tryz.prog 66 := ⟨Tryz.call66⟩
instance : TBody Tryz.prog 66 Tryz.f66 (Tryz.f66.body.getD .skip) 17 := ⟨Tryz.func66, rfl, Tryz.ntmps66⟩
instance : TFn Tryz.prog 67 := ⟨Tryz.call67⟩
instance : TBody Tryz.prog 67 Tryz.f67 (Tryz.f67.body.getD .skip) 84 := ⟨Tryz.func67, rfl, Tryz.ntmps67⟩
instance : TFn Tryz.prog 68 := ⟨Tryz.call68⟩
instance : TBody Tryz.prog 68 Tryz.f68 (Tryz.f68.body.getD .skip) 168 := ⟨Tryz.func68, rfl, Tryz.ntmps68⟩
instance : TFn Tryz.prog 69 := ⟨Tryz.call69⟩
instance : TBody Tryz.prog 69 Tryz.f69 (Tryz.f69.body.getD .skip) 19 := ⟨Tryz.func69, rfl, Tryz.ntmps69⟩
instance : TFn Tryz.prog 70 := ⟨Tryz.call70⟩
instance : TBody Tryz.prog 70 Tryz.f70 (Tryz.f70.body.getD .skip) 25 := ⟨Tryz.func70, rfl, Tryz.ntmps70⟩
instance : TFn Tryz.prog 80 := ⟨Tryz.call80⟩
instance : TBody Tryz.prog 80 Tryz.f80 (Tryz.f80.body.getD .skip) 11 := ⟨Tryz.func80, rfl, Tryz.ntmps80⟩
instance : TFn Tryz.prog 81 := ⟨Tryz.call81⟩
instance : TBody Tryz.prog 81 Tryz.f81 (Tryz.f81.body.getD .skip) 11 := ⟨Tryz.func81, rfl, Tryz.ntmps81⟩
instance : TFn Tryz.prog 82 := ⟨Tryz.call82⟩
instance : TBody Tryz.prog 82 Tryz.f82 (Tryz.f82.body.getD .skip) 16 := ⟨Tryz.func82, rfl, Tryz.ntmps82⟩
instance : TFn Tryz.prog 83 := ⟨Tryz.call83⟩
instance : TBody Tryz.prog 83 Tryz.f83 (Tryz.f83.body.getD .skip) 16 := ⟨Tryz.func83, rfl, Tryz.ntmps83⟩
instance : TFn Tryz.prog 84 := ⟨Tryz.call84⟩
instance : TBody Tryz.prog 84 Tryz.f84 (Tryz.f84.body.getD .skip) 76 := ⟨Tryz.func84, rfl, Tryz.ntmps84⟩
instance : TFn Tryz.prog 85 := ⟨Tryz.call85⟩
instance : TBody Tryz.prog 85 Tryz.f85 (Tryz.f85.body.getD .skip) 7 := ⟨Tryz.func85, rfl, Tryz.ntmps85⟩
instance : TFn Tryz.prog 86 := ⟨Tryz.call86⟩
instance : TBody Tryz.prog 86 Tryz.f86 (Tryz.f86.body.getD .skip) 33 := ⟨Tryz.func86, rfl, Tryz.ntmps86⟩
instance : TFn Tryz.prog 87 := ⟨Tryz.call87⟩
instance : TBody Tryz.prog 87 Tryz.f87 (Tryz.f87.body.getD .skip) 15 := ⟨Tryz.func87, rfl, Tryz.ntmps87⟩
instance : TFn Tryz.prog 88 := ⟨Tryz.call88⟩
instance : TBody Tryz.prog 88 Tryz.f88 (Tryz.f88.body.getD .skip) 36 := ⟨Tryz.func88, rfl, Tryz.ntmps88⟩
instance : TFn Tryz.prog 89 := ⟨Tryz.call89⟩
instance : TBody Tryz.prog 89 Tryz.f89 (Tryz.f89.body.getD .skip) 6 := ⟨Tryz.func89, rfl, Tryz.ntmps89⟩
instance : TFn Tryz.prog 93 := ⟨Tryz.call93⟩
instance : TBody Tryz.prog 93 Tryz.f93 (Tryz.f93.body.getD .skip) 8 := ⟨Tryz.func93, rfl, Tryz.ntmps93⟩
instance : TFn Tryz.prog 98 := ⟨Tryz.call98⟩
instance : TBody Tryz.prog 98 Tryz.f98 (Tryz.f98.body.getD .skip) 7 := ⟨Tryz.func98, rfl, Tryz.ntmps98⟩
instance : TFn Tryz.prog 99 := ⟨Tryz.call99⟩
instance : TBody Tryz.prog 99 Tryz.f99 (Tryz.f99.body.getD .skip) 28 := ⟨Tryz.func99, rfl, Tryz.ntmps99⟩
instance : TFn Tryz.prog 100 := ⟨Tryz.call100⟩
instance : TBody Tryz.prog 100 Tryz.f100 (Tryz.f100.body.getD .skip) 14 := ⟨Tryz.func100, rfl, Tryz.ntmps100⟩
instance : TFn Tryz.prog 101 := ⟨Tryz.call101⟩
instance : TBody Tryz.prog 101 Tryz.f101 (Tryz.f101.body.getD .skip) 14 := ⟨Tryz.func101, rfl, Tryz.ntmps101⟩
instance : TMix Tryz.prog := ⟨rfl⟩
end Go.Proofs.YtnfmjkjhiolfdaaGreatDoor
