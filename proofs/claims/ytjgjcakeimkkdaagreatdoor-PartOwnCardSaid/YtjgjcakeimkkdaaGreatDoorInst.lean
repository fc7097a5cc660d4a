/- Written by program (gen_inst.py) for this seat: what the walk asks of its types and functions. -/
import Derived.Test.YtjgjcakeimkkdaaGreatDoorKB
import Derived.Test.YtjgjcakeimkkdaaGreatDoorProg
set_option maxRecDepth 100000
namespace Go.Proofs.YtjgjcakeimkkdaaGreatDoor
open Go Go.Sx Go.Proofs
instance : TSz Tryz.prog 1 1 := ⟨Tryz.sizeOf1⟩
instance : TAgg Tryz.prog 1 false := ⟨Tryz.isAgg1⟩
instance : TZ Tryz.prog 1 (.nilFunc) := ⟨Tryz.zeroValue1⟩
instance : TZL Tryz.prog 1 [.nilFunc] := ⟨_, Tryz.zeroValue1, rfl⟩
instance : TIn Tryz.prog 1 1 8 (.nilFunc) := ⟨_, rfl, rfl, rfl, rfl, rfl, by decide⟩
instance : TSz Tryz.prog 2 1 := ⟨Tryz.sizeOf2⟩
instance : TAgg Tryz.prog 2 false := ⟨Tryz.isAgg2⟩
instance : TIt Tryz.prog 2 .i64 := ⟨Tryz.underlying2⟩
instance : TZ Tryz.prog 2 (.int .i64 0) := ⟨Tryz.zeroValue2⟩
instance : TZL Tryz.prog 2 [.int .i64 0] := ⟨_, Tryz.zeroValue2, rfl⟩
instance : TIn Tryz.prog 2 1 8 (.int .i64 0) := ⟨_, rfl, rfl, rfl, rfl, rfl, by decide⟩
instance : TSz Tryz.prog 3 1 := ⟨Tryz.sizeOf3⟩
instance : TAgg Tryz.prog 3 false := ⟨Tryz.isAgg3⟩
instance : TIt Tryz.prog 3 .i64 := ⟨Tryz.underlying3⟩
instance : TZ Tryz.prog 3 (.int .i64 0) := ⟨Tryz.zeroValue3⟩
instance : TZL Tryz.prog 3 [.int .i64 0] := ⟨_, Tryz.zeroValue3, rfl⟩
instance : TIn Tryz.prog 3 1 8 (.int .i64 0) := ⟨_, rfl, rfl, rfl, rfl, rfl, by decide⟩
instance : TSz Tryz.prog 4 1 := ⟨Tryz.sizeOf4⟩
instance : TAgg Tryz.prog 4 false := ⟨Tryz.isAgg4⟩
instance : TBo Tryz.prog 4 := ⟨Tryz.underlying4⟩
instance : TZ Tryz.prog 4 (.bool false) := ⟨Tryz.zeroValue4⟩
instance : TZL Tryz.prog 4 [.bool false] := ⟨_, Tryz.zeroValue4, rfl⟩
instance : TIn Tryz.prog 4 1 1 (.bool false) := ⟨_, rfl, rfl, rfl, rfl, rfl, by decide⟩
instance : TSz Tryz.prog 5 1 := ⟨Tryz.sizeOf5⟩
instance : TAgg Tryz.prog 5 false := ⟨Tryz.isAgg5⟩
instance : TIt Tryz.prog 5 .u8 := ⟨Tryz.underlying5⟩
instance : TZ Tryz.prog 5 (.int .u8 0) := ⟨Tryz.zeroValue5⟩
instance : TZL Tryz.prog 5 [.int .u8 0] := ⟨_, Tryz.zeroValue5, rfl⟩
instance : TIn Tryz.prog 5 1 1 (.int .u8 0) := ⟨_, rfl, rfl, rfl, rfl, rfl, by decide⟩
instance : TSz Tryz.prog 6 1 := ⟨Tryz.sizeOf6⟩
instance : TAgg Tryz.prog 6 false := ⟨Tryz.isAgg6⟩
instance : TIt Tryz.prog 6 .u8 := ⟨Tryz.underlying6⟩
instance : TZ Tryz.prog 6 (.int .u8 0) := ⟨Tryz.zeroValue6⟩
instance : TZL Tryz.prog 6 [.int .u8 0] := ⟨_, Tryz.zeroValue6, rfl⟩
instance : TIn Tryz.prog 6 1 1 (.int .u8 0) := ⟨_, rfl, rfl, rfl, rfl, rfl, by decide⟩
instance : TSz Tryz.prog 7 4 := ⟨Tryz.sizeOf7⟩
instance : TAgg Tryz.prog 7 true := ⟨Tryz.isAgg7⟩
instance : TPl Tryz.prog 7 [(0, 1), (1, 1), (2, 1), (3, 1)] := ⟨_, Tryz.underlying7, fun w => by simp [List.mapM_cons]⟩
instance : TFd Tryz.prog 7 0 0 2 := ⟨_, _, Tryz.underlying7, rfl, rfl, rfl, fun w => ⟨0, Tryz.sizeOf2 w⟩⟩
instance : TFd Tryz.prog 7 1 1 3 := ⟨_, _, Tryz.underlying7, rfl, rfl, rfl, fun w => ⟨0, Tryz.sizeOf3 w⟩⟩
instance : TFd Tryz.prog 7 2 2 4 := ⟨_, _, Tryz.underlying7, rfl, rfl, rfl, fun w => ⟨0, Tryz.sizeOf4 w⟩⟩
instance : TFd Tryz.prog 7 3 3 6 := ⟨_, _, Tryz.underlying7, rfl, rfl, rfl, fun w => ⟨0, Tryz.sizeOf6 w⟩⟩
instance : TZ Tryz.prog 7 (.agg #[.int .i64 0, .int .i64 0, .bool false, .int .u8 0]) := ⟨Tryz.zeroValue7⟩
instance : TZL Tryz.prog 7 [.int .i64 0, .int .i64 0, .bool false, .int .u8 0] := ⟨_, Tryz.zeroValue7, rfl⟩
instance : TIn Tryz.prog 7 4 24 (.agg #[.int .i64 0, .int .i64 0, .bool false, .int .u8 0]) := ⟨_, rfl, rfl, rfl, rfl, rfl, by decide⟩
instance : TSz Tryz.prog 8 4 := ⟨Tryz.sizeOf8⟩
instance : TAgg Tryz.prog 8 true := ⟨Tryz.isAgg8⟩
instance : TPl Tryz.prog 8 [(0, 1), (1, 1), (2, 1), (3, 1)] := ⟨_, Tryz.underlying8, fun w => by simp [List.mapM_cons]⟩
instance : TFd Tryz.prog 8 0 0 2 := ⟨_, _, Tryz.underlying8, rfl, rfl, rfl, fun w => ⟨0, Tryz.sizeOf2 w⟩⟩
instance : TFd Tryz.prog 8 1 1 3 := ⟨_, _, Tryz.underlying8, rfl, rfl, rfl, fun w => ⟨0, Tryz.sizeOf3 w⟩⟩
instance : TFd Tryz.prog 8 2 2 4 := ⟨_, _, Tryz.underlying8, rfl, rfl, rfl, fun w => ⟨0, Tryz.sizeOf4 w⟩⟩
instance : TFd Tryz.prog 8 3 3 6 := ⟨_, _, Tryz.underlying8, rfl, rfl, rfl, fun w => ⟨0, Tryz.sizeOf6 w⟩⟩
instance : TZ Tryz.prog 8 (.agg #[.int .i64 0, .int .i64 0, .bool false, .int .u8 0]) := ⟨Tryz.zeroValue8⟩
instance : TZL Tryz.prog 8 [.int .i64 0, .int .i64 0, .bool false, .int .u8 0] := ⟨_, Tryz.zeroValue8, rfl⟩
instance : TIn Tryz.prog 8 4 24 (.agg #[.int .i64 0, .int .i64 0, .bool false, .int .u8 0]) := ⟨_, rfl, rfl, rfl, rfl, rfl, by decide⟩
instance : TSz Tryz.prog 9 1 := ⟨Tryz.sizeOf9⟩
instance : TAgg Tryz.prog 9 false := ⟨Tryz.isAgg9⟩
instance : TSt Tryz.prog 9 := ⟨Tryz.underlying9⟩
instance : TZ Tryz.prog 9 (.string ⟨#[]⟩) := ⟨Tryz.zeroValue9⟩
instance : TZL Tryz.prog 9 [.string ⟨#[]⟩] := ⟨_, Tryz.zeroValue9, rfl⟩
instance : TIn Tryz.prog 9 1 16 (.string ⟨#[]⟩) := ⟨_, rfl, rfl, rfl, rfl, rfl, by decide⟩
instance : TSz Tryz.prog 10 1 := ⟨Tryz.sizeOf10⟩
instance : TAgg Tryz.prog 10 false := ⟨Tryz.isAgg10⟩
instance : TSt Tryz.prog 10 := ⟨Tryz.underlying10⟩
instance : TZ Tryz.prog 10 (.string ⟨#[]⟩) := ⟨Tryz.zeroValue10⟩
instance : TZL Tryz.prog 10 [.string ⟨#[]⟩] := ⟨_, Tryz.zeroValue10, rfl⟩
instance : TIn Tryz.prog 10 1 16 (.string ⟨#[]⟩) := ⟨_, rfl, rfl, rfl, rfl, rfl, by decide⟩
instance : TSz Tryz.prog 11 1 := ⟨Tryz.sizeOf11⟩
instance : TAgg Tryz.prog 11 false := ⟨Tryz.isAgg11⟩
instance : TSt Tryz.prog 11 := ⟨Tryz.underlying11⟩
instance : TZ Tryz.prog 11 (.string ⟨#[]⟩) := ⟨Tryz.zeroValue11⟩
instance : TZL Tryz.prog 11 [.string ⟨#[]⟩] := ⟨_, Tryz.zeroValue11, rfl⟩
instance : TIn Tryz.prog 11 1 16 (.string ⟨#[]⟩) := ⟨_, rfl, rfl, rfl, rfl, rfl, by decide⟩
instance : TSz Tryz.prog 12 1 := ⟨Tryz.sizeOf12⟩
instance : TAgg Tryz.prog 12 false := ⟨Tryz.isAgg12⟩
instance : TIt Tryz.prog 12 .u64 := ⟨Tryz.underlying12⟩
instance : TZ Tryz.prog 12 (.int .u64 0) := ⟨Tryz.zeroValue12⟩
instance : TZL Tryz.prog 12 [.int .u64 0] := ⟨_, Tryz.zeroValue12, rfl⟩
instance : TIn Tryz.prog 12 1 8 (.int .u64 0) := ⟨_, rfl, rfl, rfl, rfl, rfl, by decide⟩
instance : TSz Tryz.prog 13 2 := ⟨Tryz.sizeOf13⟩
instance : TAgg Tryz.prog 13 true := ⟨Tryz.isAgg13⟩
instance : TPl Tryz.prog 13 [(0, 1), (1, 1)] := ⟨_, Tryz.underlying13, fun w => by simp [List.mapM_cons]⟩
instance : TFd Tryz.prog 13 0 0 9 := ⟨_, _, Tryz.underlying13, rfl, rfl, rfl, fun w => ⟨0, Tryz.sizeOf9 w⟩⟩
instance : TFd Tryz.prog 13 1 1 12 := ⟨_, _, Tryz.underlying13, rfl, rfl, rfl, fun w => ⟨0, Tryz.sizeOf12 w⟩⟩
instance : TZ Tryz.prog 13 (.agg #[.string ⟨#[]⟩, .int .u64 0]) := ⟨Tryz.zeroValue13⟩
instance : TZL Tryz.prog 13 [.string ⟨#[]⟩, .int .u64 0] := ⟨_, Tryz.zeroValue13, rfl⟩
instance : TIn Tryz.prog 13 2 24 (.agg #[.string ⟨#[]⟩, .int .u64 0]) := ⟨_, rfl, rfl, rfl, rfl, rfl, by decide⟩
instance : TSz Tryz.prog 14 2 := ⟨Tryz.sizeOf14⟩
instance : TAgg Tryz.prog 14 true := ⟨Tryz.isAgg14⟩
instance : TPl Tryz.prog 14 [(0, 1), (1, 1)] := ⟨_, Tryz.underlying14, fun w => by simp [List.mapM_cons]⟩
instance : TFd Tryz.prog 14 0 0 9 := ⟨_, _, Tryz.underlying14, rfl, rfl, rfl, fun w => ⟨0, Tryz.sizeOf9 w⟩⟩
instance : TFd Tryz.prog 14 1 1 12 := ⟨_, _, Tryz.underlying14, rfl, rfl, rfl, fun w => ⟨0, Tryz.sizeOf12 w⟩⟩
instance : TZ Tryz.prog 14 (.agg #[.string ⟨#[]⟩, .int .u64 0]) := ⟨Tryz.zeroValue14⟩
instance : TZL Tryz.prog 14 [.string ⟨#[]⟩, .int .u64 0] := ⟨_, Tryz.zeroValue14, rfl⟩
instance : TIn Tryz.prog 14 2 24 (.agg #[.string ⟨#[]⟩, .int .u64 0]) := ⟨_, rfl, rfl, rfl, rfl, rfl, by decide⟩
instance : TSz Tryz.prog 15 1 := ⟨Tryz.sizeOf15⟩
instance : TAgg Tryz.prog 15 false := ⟨Tryz.isAgg15⟩
instance : TPt Tryz.prog 15 := ⟨_, Tryz.underlying15⟩
instance : TZ Tryz.prog 15 (.pointer none) := ⟨Tryz.zeroValue15⟩
instance : TZL Tryz.prog 15 [.pointer none] := ⟨_, Tryz.zeroValue15, rfl⟩
instance : TIn Tryz.prog 15 1 8 (.pointer none) := ⟨_, rfl, rfl, rfl, rfl, rfl, by decide⟩
instance : TSz Tryz.prog 16 1 := ⟨Tryz.sizeOf16⟩
instance : TAgg Tryz.prog 16 false := ⟨Tryz.isAgg16⟩
instance : TPt Tryz.prog 16 := ⟨_, Tryz.underlying16⟩
instance : TZ Tryz.prog 16 (.pointer none) := ⟨Tryz.zeroValue16⟩
instance : TZL Tryz.prog 16 [.pointer none] := ⟨_, Tryz.zeroValue16, rfl⟩
instance : TIn Tryz.prog 16 1 8 (.pointer none) := ⟨_, rfl, rfl, rfl, rfl, rfl, by decide⟩
instance : TSz Tryz.prog 17 1 := ⟨Tryz.sizeOf17⟩
instance : TAgg Tryz.prog 17 false := ⟨Tryz.isAgg17⟩
instance : TPt Tryz.prog 17 := ⟨_, Tryz.underlying17⟩
instance : TZ Tryz.prog 17 (.pointer none) := ⟨Tryz.zeroValue17⟩
instance : TZL Tryz.prog 17 [.pointer none] := ⟨_, Tryz.zeroValue17, rfl⟩
instance : TIn Tryz.prog 17 1 8 (.pointer none) := ⟨_, rfl, rfl, rfl, rfl, rfl, by decide⟩
instance : TSz Tryz.prog 18 1 := ⟨Tryz.sizeOf18⟩
instance : TAgg Tryz.prog 18 true := ⟨Tryz.isAgg18⟩
instance : TPl Tryz.prog 18 [(0, 1)] := ⟨_, Tryz.underlying18, fun w => by simp [List.mapM_cons]⟩
instance : TFd Tryz.prog 18 0 0 17 := ⟨_, _, Tryz.underlying18, rfl, rfl, rfl, fun w => ⟨0, Tryz.sizeOf17 w⟩⟩
instance : TZ Tryz.prog 18 (.agg #[.pointer none]) := ⟨Tryz.zeroValue18⟩
instance : TZL Tryz.prog 18 [.pointer none] := ⟨_, Tryz.zeroValue18, rfl⟩
instance : TIn Tryz.prog 18 1 8 (.agg #[.pointer none]) := ⟨_, rfl, rfl, rfl, rfl, rfl, by decide⟩
instance : TSz Tryz.prog 19 1 := ⟨Tryz.sizeOf19⟩
instance : TAgg Tryz.prog 19 true := ⟨Tryz.isAgg19⟩
instance : TPl Tryz.prog 19 [(0, 1)] := ⟨_, Tryz.underlying19, fun w => by simp [List.mapM_cons]⟩
instance : TFd Tryz.prog 19 0 0 17 := ⟨_, _, Tryz.underlying19, rfl, rfl, rfl, fun w => ⟨0, Tryz.sizeOf17 w⟩⟩
instance : TZ Tryz.prog 19 (.agg #[.pointer none]) := ⟨Tryz.zeroValue19⟩
instance : TZL Tryz.prog 19 [.pointer none] := ⟨_, Tryz.zeroValue19, rfl⟩
instance : TIn Tryz.prog 19 1 8 (.agg #[.pointer none]) := ⟨_, rfl, rfl, rfl, rfl, rfl, by decide⟩
instance : TSz Tryz.prog 20 1 := ⟨Tryz.sizeOf20⟩
instance : TAgg Tryz.prog 20 false := ⟨Tryz.isAgg20⟩
instance : TZ Tryz.prog 20 (.nilIface) := ⟨Tryz.zeroValue20⟩
instance : TZL Tryz.prog 20 [.nilIface] := ⟨_, Tryz.zeroValue20, rfl⟩
instance : TIn Tryz.prog 20 1 16 (.nilIface) := ⟨_, rfl, rfl, rfl, rfl, rfl, by decide⟩
instance : TSz Tryz.prog 21 1 := ⟨Tryz.sizeOf21⟩
instance : TAgg Tryz.prog 21 false := ⟨Tryz.isAgg21⟩
instance : TIt Tryz.prog 21 .i32 := ⟨Tryz.underlying21⟩
instance : TZ Tryz.prog 21 (.int .i32 0) := ⟨Tryz.zeroValue21⟩
instance : TZL Tryz.prog 21 [.int .i32 0] := ⟨_, Tryz.zeroValue21, rfl⟩
instance : TIn Tryz.prog 21 1 4 (.int .i32 0) := ⟨_, rfl, rfl, rfl, rfl, rfl, by decide⟩
instance : TSz Tryz.prog 22 1 := ⟨Tryz.sizeOf22⟩
instance : TAgg Tryz.prog 22 false := ⟨Tryz.isAgg22⟩
instance : TSl Tryz.prog 22 45 := ⟨Tryz.underlying22⟩
instance : TZ Tryz.prog 22 (.slice none 0 0) := ⟨Tryz.zeroValue22⟩
instance : TZL Tryz.prog 22 [.slice none 0 0] := ⟨_, Tryz.zeroValue22, rfl⟩
instance : TIn Tryz.prog 22 1 24 (.slice none 0 0) := ⟨_, rfl, rfl, rfl, rfl, rfl, by decide⟩
instance : TSz Tryz.prog 23 1 := ⟨Tryz.sizeOf23⟩
instance : TAgg Tryz.prog 23 false := ⟨Tryz.isAgg23⟩
instance : TPt Tryz.prog 23 := ⟨_, Tryz.underlying23⟩
instance : TZ Tryz.prog 23 (.pointer none) := ⟨Tryz.zeroValue23⟩
instance : TZL Tryz.prog 23 [.pointer none] := ⟨_, Tryz.zeroValue23, rfl⟩
instance : TIn Tryz.prog 23 1 8 (.pointer none) := ⟨_, rfl, rfl, rfl, rfl, rfl, by decide⟩
instance : TSz Tryz.prog 24 1 := ⟨Tryz.sizeOf24⟩
instance : TAgg Tryz.prog 24 false := ⟨Tryz.isAgg24⟩
instance : TZ Tryz.prog 24 (.nilFunc) := ⟨Tryz.zeroValue24⟩
instance : TZL Tryz.prog 24 [.nilFunc] := ⟨_, Tryz.zeroValue24, rfl⟩
instance : TIn Tryz.prog 24 1 8 (.nilFunc) := ⟨_, rfl, rfl, rfl, rfl, rfl, by decide⟩
instance : TSz Tryz.prog 25 1 := ⟨Tryz.sizeOf25⟩
instance : TAgg Tryz.prog 25 false := ⟨Tryz.isAgg25⟩
instance : TZ Tryz.prog 25 (.nilFunc) := ⟨Tryz.zeroValue25⟩
instance : TZL Tryz.prog 25 [.nilFunc] := ⟨_, Tryz.zeroValue25, rfl⟩
instance : TIn Tryz.prog 25 1 8 (.nilFunc) := ⟨_, rfl, rfl, rfl, rfl, rfl, by decide⟩
instance : TSz Tryz.prog 26 1 := ⟨Tryz.sizeOf26⟩
instance : TAgg Tryz.prog 26 false := ⟨Tryz.isAgg26⟩
instance : TSl Tryz.prog 26 29 := ⟨Tryz.underlying26⟩
instance : TZ Tryz.prog 26 (.slice none 0 0) := ⟨Tryz.zeroValue26⟩
instance : TZL Tryz.prog 26 [.slice none 0 0] := ⟨_, Tryz.zeroValue26, rfl⟩
instance : TIn Tryz.prog 26 1 24 (.slice none 0 0) := ⟨_, rfl, rfl, rfl, rfl, rfl, by decide⟩
instance : TSz Tryz.prog 27 1 := ⟨Tryz.sizeOf27⟩
instance : TAgg Tryz.prog 27 false := ⟨Tryz.isAgg27⟩
instance : TIt Tryz.prog 27 .i64 := ⟨Tryz.underlying27⟩
instance : TZ Tryz.prog 27 (.int .i64 0) := ⟨Tryz.zeroValue27⟩
instance : TZL Tryz.prog 27 [.int .i64 0] := ⟨_, Tryz.zeroValue27, rfl⟩
instance : TIn Tryz.prog 27 1 8 (.int .i64 0) := ⟨_, rfl, rfl, rfl, rfl, rfl, by decide⟩
instance : TSz Tryz.prog 28 3 := ⟨Tryz.sizeOf28⟩
instance : TAgg Tryz.prog 28 true := ⟨Tryz.isAgg28⟩
instance : TPl Tryz.prog 28 [(0, 1), (1, 1), (2, 1)] := ⟨_, Tryz.underlying28, fun w => by simp [List.mapM_cons]⟩
instance : TFd Tryz.prog 28 0 0 3 := ⟨_, _, Tryz.underlying28, rfl, rfl, rfl, fun w => ⟨0, Tryz.sizeOf3 w⟩⟩
instance : TFd Tryz.prog 28 1 1 3 := ⟨_, _, Tryz.underlying28, rfl, rfl, rfl, fun w => ⟨0, Tryz.sizeOf3 w⟩⟩
instance : TFd Tryz.prog 28 2 2 3 := ⟨_, _, Tryz.underlying28, rfl, rfl, rfl, fun w => ⟨0, Tryz.sizeOf3 w⟩⟩
instance : TZ Tryz.prog 28 (.agg #[.int .i64 0, .int .i64 0, .int .i64 0]) := ⟨Tryz.zeroValue28⟩
instance : TZL Tryz.prog 28 [.int .i64 0, .int .i64 0, .int .i64 0] := ⟨_, Tryz.zeroValue28, rfl⟩
instance : TIn Tryz.prog 28 3 24 (.agg #[.int .i64 0, .int .i64 0, .int .i64 0]) := ⟨_, rfl, rfl, rfl, rfl, rfl, by decide⟩
instance : TSz Tryz.prog 29 3 := ⟨Tryz.sizeOf29⟩
instance : TAgg Tryz.prog 29 true := ⟨Tryz.isAgg29⟩
instance : TPl Tryz.prog 29 [(0, 1), (1, 1), (2, 1)] := ⟨_, Tryz.underlying29, fun w => by simp [List.mapM_cons]⟩
instance : TFd Tryz.prog 29 0 0 3 := ⟨_, _, Tryz.underlying29, rfl, rfl, rfl, fun w => ⟨0, Tryz.sizeOf3 w⟩⟩
instance : TFd Tryz.prog 29 1 1 3 := ⟨_, _, Tryz.underlying29, rfl, rfl, rfl, fun w => ⟨0, Tryz.sizeOf3 w⟩⟩
instance : TFd Tryz.prog 29 2 2 3 := ⟨_, _, Tryz.underlying29, rfl, rfl, rfl, fun w => ⟨0, Tryz.sizeOf3 w⟩⟩
instance : TZ Tryz.prog 29 (.agg #[.int .i64 0, .int .i64 0, .int .i64 0]) := ⟨Tryz.zeroValue29⟩
instance : TZL Tryz.prog 29 [.int .i64 0, .int .i64 0, .int .i64 0] := ⟨_, Tryz.zeroValue29, rfl⟩
instance : TIn Tryz.prog 29 3 24 (.agg #[.int .i64 0, .int .i64 0, .int .i64 0]) := ⟨_, rfl, rfl, rfl, rfl, rfl, by decide⟩
instance : TSz Tryz.prog 30 1 := ⟨Tryz.sizeOf30⟩
instance : TAgg Tryz.prog 30 false := ⟨Tryz.isAgg30⟩
instance : TSl Tryz.prog 30 9 := ⟨Tryz.underlying30⟩
instance : TZ Tryz.prog 30 (.slice none 0 0) := ⟨Tryz.zeroValue30⟩
instance : TZL Tryz.prog 30 [.slice none 0 0] := ⟨_, Tryz.zeroValue30, rfl⟩
instance : TIn Tryz.prog 30 1 24 (.slice none 0 0) := ⟨_, rfl, rfl, rfl, rfl, rfl, by decide⟩
instance : TSz Tryz.prog 31 3 := ⟨Tryz.sizeOf31⟩
instance : TAgg Tryz.prog 31 true := ⟨Tryz.isAgg31⟩
instance : TPl Tryz.prog 31 [(0, 1), (1, 1), (2, 1)] := ⟨_, Tryz.underlying31, fun w => by simp [List.mapM_cons]⟩
instance : TFd Tryz.prog 31 0 0 3 := ⟨_, _, Tryz.underlying31, rfl, rfl, rfl, fun w => ⟨0, Tryz.sizeOf3 w⟩⟩
instance : TFd Tryz.prog 31 1 1 30 := ⟨_, _, Tryz.underlying31, rfl, rfl, rfl, fun w => ⟨0, Tryz.sizeOf30 w⟩⟩
instance : TFd Tryz.prog 31 2 2 30 := ⟨_, _, Tryz.underlying31, rfl, rfl, rfl, fun w => ⟨0, Tryz.sizeOf30 w⟩⟩
instance : TZ Tryz.prog 31 (.agg #[.int .i64 0, .slice none 0 0, .slice none 0 0]) := ⟨Tryz.zeroValue31⟩
instance : TZL Tryz.prog 31 [.int .i64 0, .slice none 0 0, .slice none 0 0] := ⟨_, Tryz.zeroValue31, rfl⟩
instance : TIn Tryz.prog 31 3 56 (.agg #[.int .i64 0, .slice none 0 0, .slice none 0 0]) := ⟨_, rfl, rfl, rfl, rfl, rfl, by decide⟩
instance : TSz Tryz.prog 32 3 := ⟨Tryz.sizeOf32⟩
instance : TAgg Tryz.prog 32 true := ⟨Tryz.isAgg32⟩
instance : TPl Tryz.prog 32 [(0, 1), (1, 1), (2, 1)] := ⟨_, Tryz.underlying32, fun w => by simp [List.mapM_cons]⟩
instance : TFd Tryz.prog 32 0 0 3 := ⟨_, _, Tryz.underlying32, rfl, rfl, rfl, fun w => ⟨0, Tryz.sizeOf3 w⟩⟩
instance : TFd Tryz.prog 32 1 1 30 := ⟨_, _, Tryz.underlying32, rfl, rfl, rfl, fun w => ⟨0, Tryz.sizeOf30 w⟩⟩
instance : TFd Tryz.prog 32 2 2 30 := ⟨_, _, Tryz.underlying32, rfl, rfl, rfl, fun w => ⟨0, Tryz.sizeOf30 w⟩⟩
instance : TZ Tryz.prog 32 (.agg #[.int .i64 0, .slice none 0 0, .slice none 0 0]) := ⟨Tryz.zeroValue32⟩
instance : TZL Tryz.prog 32 [.int .i64 0, .slice none 0 0, .slice none 0 0] := ⟨_, Tryz.zeroValue32, rfl⟩
instance : TIn Tryz.prog 32 3 56 (.agg #[.int .i64 0, .slice none 0 0, .slice none 0 0]) := ⟨_, rfl, rfl, rfl, rfl, rfl, by decide⟩
instance : TSz Tryz.prog 33 1 := ⟨Tryz.sizeOf33⟩
instance : TAgg Tryz.prog 33 false := ⟨Tryz.isAgg33⟩
instance : TIt Tryz.prog 33 .i64 := ⟨Tryz.underlying33⟩
instance : TZ Tryz.prog 33 (.int .i64 0) := ⟨Tryz.zeroValue33⟩
instance : TZL Tryz.prog 33 [.int .i64 0] := ⟨_, Tryz.zeroValue33, rfl⟩
instance : TIn Tryz.prog 33 1 8 (.int .i64 0) := ⟨_, rfl, rfl, rfl, rfl, rfl, by decide⟩
instance : TSz Tryz.prog 34 1 := ⟨Tryz.sizeOf34⟩
instance : TAgg Tryz.prog 34 false := ⟨Tryz.isAgg34⟩
instance : TSl Tryz.prog 34 3 := ⟨Tryz.underlying34⟩
instance : TZ Tryz.prog 34 (.slice none 0 0) := ⟨Tryz.zeroValue34⟩
instance : TZL Tryz.prog 34 [.slice none 0 0] := ⟨_, Tryz.zeroValue34, rfl⟩
instance : TIn Tryz.prog 34 1 24 (.slice none 0 0) := ⟨_, rfl, rfl, rfl, rfl, rfl, by decide⟩
instance : TSz Tryz.prog 35 2 := ⟨Tryz.sizeOf35⟩
instance : TAgg Tryz.prog 35 true := ⟨Tryz.isAgg35⟩
instance : TPl Tryz.prog 35 [(0, 1), (1, 1)] := ⟨_, Tryz.underlying35, fun w => by simp [List.mapM_cons]⟩
instance : TFd Tryz.prog 35 0 0 3 := ⟨_, _, Tryz.underlying35, rfl, rfl, rfl, fun w => ⟨0, Tryz.sizeOf3 w⟩⟩
instance : TFd Tryz.prog 35 1 1 34 := ⟨_, _, Tryz.underlying35, rfl, rfl, rfl, fun w => ⟨0, Tryz.sizeOf34 w⟩⟩
instance : TZ Tryz.prog 35 (.agg #[.int .i64 0, .slice none 0 0]) := ⟨Tryz.zeroValue35⟩
instance : TZL Tryz.prog 35 [.int .i64 0, .slice none 0 0] := ⟨_, Tryz.zeroValue35, rfl⟩
instance : TIn Tryz.prog 35 2 32 (.agg #[.int .i64 0, .slice none 0 0]) := ⟨_, rfl, rfl, rfl, rfl, rfl, by decide⟩
instance : TSz Tryz.prog 36 2 := ⟨Tryz.sizeOf36⟩
instance : TAgg Tryz.prog 36 true := ⟨Tryz.isAgg36⟩
instance : TPl Tryz.prog 36 [(0, 1), (1, 1)] := ⟨_, Tryz.underlying36, fun w => by simp [List.mapM_cons]⟩
instance : TFd Tryz.prog 36 0 0 3 := ⟨_, _, Tryz.underlying36, rfl, rfl, rfl, fun w => ⟨0, Tryz.sizeOf3 w⟩⟩
instance : TFd Tryz.prog 36 1 1 34 := ⟨_, _, Tryz.underlying36, rfl, rfl, rfl, fun w => ⟨0, Tryz.sizeOf34 w⟩⟩
instance : TZ Tryz.prog 36 (.agg #[.int .i64 0, .slice none 0 0]) := ⟨Tryz.zeroValue36⟩
instance : TZL Tryz.prog 36 [.int .i64 0, .slice none 0 0] := ⟨_, Tryz.zeroValue36, rfl⟩
instance : TIn Tryz.prog 36 2 32 (.agg #[.int .i64 0, .slice none 0 0]) := ⟨_, rfl, rfl, rfl, rfl, rfl, by decide⟩
instance : TSz Tryz.prog 37 4 := ⟨Tryz.sizeOf37⟩
instance : TAgg Tryz.prog 37 true := ⟨Tryz.isAgg37⟩
instance : TPl Tryz.prog 37 [(0, 1), (1, 1), (2, 2)] := ⟨_, Tryz.underlying37, fun w => by simp [List.mapM_cons]⟩
instance : TFd Tryz.prog 37 0 0 33 := ⟨_, _, Tryz.underlying37, rfl, rfl, rfl, fun w => ⟨0, Tryz.sizeOf33 w⟩⟩
instance : TFd Tryz.prog 37 1 1 3 := ⟨_, _, Tryz.underlying37, rfl, rfl, rfl, fun w => ⟨0, Tryz.sizeOf3 w⟩⟩
instance : TFd Tryz.prog 37 2 2 36 := ⟨_, _, Tryz.underlying37, rfl, rfl, rfl, fun w => ⟨1, Tryz.sizeOf36 w⟩⟩
instance : TZ Tryz.prog 37 (.agg #[.int .i64 0, .int .i64 0, .int .i64 0, .slice none 0 0]) := ⟨Tryz.zeroValue37⟩
instance : TZL Tryz.prog 37 [.int .i64 0, .int .i64 0, .int .i64 0, .slice none 0 0] := ⟨_, Tryz.zeroValue37, rfl⟩
instance : TIn Tryz.prog 37 4 48 (.agg #[.int .i64 0, .int .i64 0, .int .i64 0, .slice none 0 0]) := ⟨_, rfl, rfl, rfl, rfl, rfl, by decide⟩
instance : TSz Tryz.prog 38 4 := ⟨Tryz.sizeOf38⟩
instance : TAgg Tryz.prog 38 true := ⟨Tryz.isAgg38⟩
instance : TPl Tryz.prog 38 [(0, 1), (1, 1), (2, 2)] := ⟨_, Tryz.underlying38, fun w => by simp [List.mapM_cons]⟩
instance : TFd Tryz.prog 38 0 0 33 := ⟨_, _, Tryz.underlying38, rfl, rfl, rfl, fun w => ⟨0, Tryz.sizeOf33 w⟩⟩
instance : TFd Tryz.prog 38 1 1 3 := ⟨_, _, Tryz.underlying38, rfl, rfl, rfl, fun w => ⟨0, Tryz.sizeOf3 w⟩⟩
instance : TFd Tryz.prog 38 2 2 36 := ⟨_, _, Tryz.underlying38, rfl, rfl, rfl, fun w => ⟨1, Tryz.sizeOf36 w⟩⟩
instance : TZ Tryz.prog 38 (.agg #[.int .i64 0, .int .i64 0, .int .i64 0, .slice none 0 0]) := ⟨Tryz.zeroValue38⟩
instance : TZL Tryz.prog 38 [.int .i64 0, .int .i64 0, .int .i64 0, .slice none 0 0] := ⟨_, Tryz.zeroValue38, rfl⟩
instance : TIn Tryz.prog 38 4 48 (.agg #[.int .i64 0, .int .i64 0, .int .i64 0, .slice none 0 0]) := ⟨_, rfl, rfl, rfl, rfl, rfl, by decide⟩
instance : TSz Tryz.prog 39 1 := ⟨Tryz.sizeOf39⟩
instance : TAgg Tryz.prog 39 false := ⟨Tryz.isAgg39⟩
instance : TIt Tryz.prog 39 .i64 := ⟨Tryz.underlying39⟩
instance : TZ Tryz.prog 39 (.int .i64 0) := ⟨Tryz.zeroValue39⟩
instance : TZL Tryz.prog 39 [.int .i64 0] := ⟨_, Tryz.zeroValue39, rfl⟩
instance : TIn Tryz.prog 39 1 8 (.int .i64 0) := ⟨_, rfl, rfl, rfl, rfl, rfl, by decide⟩
instance : TSz Tryz.prog 40 4 := ⟨Tryz.sizeOf40⟩
instance : TAgg Tryz.prog 40 true := ⟨Tryz.isAgg40⟩
instance : TPl Tryz.prog 40 [(0, 1), (1, 1), (2, 2)] := ⟨_, Tryz.underlying40, fun w => by simp [List.mapM_cons]⟩
instance : TFd Tryz.prog 40 0 0 39 := ⟨_, _, Tryz.underlying40, rfl, rfl, rfl, fun w => ⟨0, Tryz.sizeOf39 w⟩⟩
instance : TFd Tryz.prog 40 1 1 3 := ⟨_, _, Tryz.underlying40, rfl, rfl, rfl, fun w => ⟨0, Tryz.sizeOf3 w⟩⟩
instance : TFd Tryz.prog 40 2 2 36 := ⟨_, _, Tryz.underlying40, rfl, rfl, rfl, fun w => ⟨1, Tryz.sizeOf36 w⟩⟩
instance : TZ Tryz.prog 40 (.agg #[.int .i64 0, .int .i64 0, .int .i64 0, .slice none 0 0]) := ⟨Tryz.zeroValue40⟩
instance : TZL Tryz.prog 40 [.int .i64 0, .int .i64 0, .int .i64 0, .slice none 0 0] := ⟨_, Tryz.zeroValue40, rfl⟩
instance : TIn Tryz.prog 40 4 48 (.agg #[.int .i64 0, .int .i64 0, .int .i64 0, .slice none 0 0]) := ⟨_, rfl, rfl, rfl, rfl, rfl, by decide⟩
instance : TSz Tryz.prog 41 4 := ⟨Tryz.sizeOf41⟩
instance : TAgg Tryz.prog 41 true := ⟨Tryz.isAgg41⟩
instance : TPl Tryz.prog 41 [(0, 1), (1, 1), (2, 2)] := ⟨_, Tryz.underlying41, fun w => by simp [List.mapM_cons]⟩
instance : TFd Tryz.prog 41 0 0 39 := ⟨_, _, Tryz.underlying41, rfl, rfl, rfl, fun w => ⟨0, Tryz.sizeOf39 w⟩⟩
instance : TFd Tryz.prog 41 1 1 3 := ⟨_, _, Tryz.underlying41, rfl, rfl, rfl, fun w => ⟨0, Tryz.sizeOf3 w⟩⟩
instance : TFd Tryz.prog 41 2 2 36 := ⟨_, _, Tryz.underlying41, rfl, rfl, rfl, fun w => ⟨1, Tryz.sizeOf36 w⟩⟩
instance : TZ Tryz.prog 41 (.agg #[.int .i64 0, .int .i64 0, .int .i64 0, .slice none 0 0]) := ⟨Tryz.zeroValue41⟩
instance : TZL Tryz.prog 41 [.int .i64 0, .int .i64 0, .int .i64 0, .slice none 0 0] := ⟨_, Tryz.zeroValue41, rfl⟩
instance : TIn Tryz.prog 41 4 48 (.agg #[.int .i64 0, .int .i64 0, .int .i64 0, .slice none 0 0]) := ⟨_, rfl, rfl, rfl, rfl, rfl, by decide⟩
instance : TSz Tryz.prog 42 19 := ⟨Tryz.sizeOf42⟩
instance : TAgg Tryz.prog 42 true := ⟨Tryz.isAgg42⟩
instance : TPl Tryz.prog 42 [(0, 1), (1, 1), (2, 1), (3, 3), (6, 3), (9, 1), (10, 1), (11, 4), (15, 4)] := ⟨_, Tryz.underlying42, fun w => by simp [List.mapM_cons]⟩
instance : TFd Tryz.prog 42 0 0 3 := ⟨_, _, Tryz.underlying42, rfl, rfl, rfl, fun w => ⟨0, Tryz.sizeOf3 w⟩⟩
instance : TFd Tryz.prog 42 1 1 3 := ⟨_, _, Tryz.underlying42, rfl, rfl, rfl, fun w => ⟨0, Tryz.sizeOf3 w⟩⟩
instance : TFd Tryz.prog 42 2 2 27 := ⟨_, _, Tryz.underlying42, rfl, rfl, rfl, fun w => ⟨0, Tryz.sizeOf27 w⟩⟩
instance : TFd Tryz.prog 42 3 3 29 := ⟨_, _, Tryz.underlying42, rfl, rfl, rfl, fun w => ⟨2, Tryz.sizeOf29 w⟩⟩
instance : TFd Tryz.prog 42 4 6 32 := ⟨_, _, Tryz.underlying42, rfl, rfl, rfl, fun w => ⟨2, Tryz.sizeOf32 w⟩⟩
instance : TFd Tryz.prog 42 5 9 4 := ⟨_, _, Tryz.underlying42, rfl, rfl, rfl, fun w => ⟨0, Tryz.sizeOf4 w⟩⟩
instance : TFd Tryz.prog 42 6 10 3 := ⟨_, _, Tryz.underlying42, rfl, rfl, rfl, fun w => ⟨0, Tryz.sizeOf3 w⟩⟩
instance : TFd Tryz.prog 42 7 11 38 := ⟨_, _, Tryz.underlying42, rfl, rfl, rfl, fun w => ⟨3, Tryz.sizeOf38 w⟩⟩
instance : TFd Tryz.prog 42 8 15 41 := ⟨_, _, Tryz.underlying42, rfl, rfl, rfl, fun w => ⟨3, Tryz.sizeOf41 w⟩⟩
instance : TZ Tryz.prog 42 (.agg #[.int .i64 0, .int .i64 0, .int .i64 0, .int .i64 0, .int .i64 0, .int .i64 0, .int .i64 0, .slice none 0 0, .slice none 0 0, .bool false, .int .i64 0, .int .i64 0, .int .i64 0, .int .i64 0, .slice none 0 0, .int .i64 0, .int .i64 0, .int .i64 0, .slice none 0 0]) := ⟨Tryz.zeroValue42⟩
instance : TZL Tryz.prog 42 [.int .i64 0, .int .i64 0, .int .i64 0, .int .i64 0, .int .i64 0, .int .i64 0, .int .i64 0, .slice none 0 0, .slice none 0 0, .bool false, .int .i64 0, .int .i64 0, .int .i64 0, .int .i64 0, .slice none 0 0, .int .i64 0, .int .i64 0, .int .i64 0, .slice none 0 0] := ⟨_, Tryz.zeroValue42, rfl⟩
instance : TIn Tryz.prog 42 19 216 (.agg #[.int .i64 0, .int .i64 0, .int .i64 0, .int .i64 0, .int .i64 0, .int .i64 0, .int .i64 0, .slice none 0 0, .slice none 0 0, .bool false, .int .i64 0, .int .i64 0, .int .i64 0, .int .i64 0, .slice none 0 0, .int .i64 0, .int .i64 0, .int .i64 0, .slice none 0 0]) := ⟨_, rfl, rfl, rfl, rfl, rfl, by decide⟩
instance : TSz Tryz.prog 43 19 := ⟨Tryz.sizeOf43⟩
instance : TAgg Tryz.prog 43 true := ⟨Tryz.isAgg43⟩
instance : TPl Tryz.prog 43 [(0, 1), (1, 1), (2, 1), (3, 3), (6, 3), (9, 1), (10, 1), (11, 4), (15, 4)] := ⟨_, Tryz.underlying43, fun w => by simp [List.mapM_cons]⟩
instance : TFd Tryz.prog 43 0 0 3 := ⟨_, _, Tryz.underlying43, rfl, rfl, rfl, fun w => ⟨0, Tryz.sizeOf3 w⟩⟩
instance : TFd Tryz.prog 43 1 1 3 := ⟨_, _, Tryz.underlying43, rfl, rfl, rfl, fun w => ⟨0, Tryz.sizeOf3 w⟩⟩
instance : TFd Tryz.prog 43 2 2 27 := ⟨_, _, Tryz.underlying43, rfl, rfl, rfl, fun w => ⟨0, Tryz.sizeOf27 w⟩⟩
instance : TFd Tryz.prog 43 3 3 29 := ⟨_, _, Tryz.underlying43, rfl, rfl, rfl, fun w => ⟨2, Tryz.sizeOf29 w⟩⟩
instance : TFd Tryz.prog 43 4 6 32 := ⟨_, _, Tryz.underlying43, rfl, rfl, rfl, fun w => ⟨2, Tryz.sizeOf32 w⟩⟩
instance : TFd Tryz.prog 43 5 9 4 := ⟨_, _, Tryz.underlying43, rfl, rfl, rfl, fun w => ⟨0, Tryz.sizeOf4 w⟩⟩
instance : TFd Tryz.prog 43 6 10 3 := ⟨_, _, Tryz.underlying43, rfl, rfl, rfl, fun w => ⟨0, Tryz.sizeOf3 w⟩⟩
instance : TFd Tryz.prog 43 7 11 38 := ⟨_, _, Tryz.underlying43, rfl, rfl, rfl, fun w => ⟨3, Tryz.sizeOf38 w⟩⟩
instance : TFd Tryz.prog 43 8 15 41 := ⟨_, _, Tryz.underlying43, rfl, rfl, rfl, fun w => ⟨3, Tryz.sizeOf41 w⟩⟩
instance : TZ Tryz.prog 43 (.agg #[.int .i64 0, .int .i64 0, .int .i64 0, .int .i64 0, .int .i64 0, .int .i64 0, .int .i64 0, .slice none 0 0, .slice none 0 0, .bool false, .int .i64 0, .int .i64 0, .int .i64 0, .int .i64 0, .slice none 0 0, .int .i64 0, .int .i64 0, .int .i64 0, .slice none 0 0]) := ⟨Tryz.zeroValue43⟩
instance : TZL Tryz.prog 43 [.int .i64 0, .int .i64 0, .int .i64 0, .int .i64 0, .int .i64 0, .int .i64 0, .int .i64 0, .slice none 0 0, .slice none 0 0, .bool false, .int .i64 0, .int .i64 0, .int .i64 0, .int .i64 0, .slice none 0 0, .int .i64 0, .int .i64 0, .int .i64 0, .slice none 0 0] := ⟨_, Tryz.zeroValue43, rfl⟩
instance : TIn Tryz.prog 43 19 216 (.agg #[.int .i64 0, .int .i64 0, .int .i64 0, .int .i64 0, .int .i64 0, .int .i64 0, .int .i64 0, .slice none 0 0, .slice none 0 0, .bool false, .int .i64 0, .int .i64 0, .int .i64 0, .int .i64 0, .slice none 0 0, .int .i64 0, .int .i64 0, .int .i64 0, .slice none 0 0]) := ⟨_, rfl, rfl, rfl, rfl, rfl, by decide⟩
instance : TSz Tryz.prog 44 21 := ⟨Tryz.sizeOf44⟩
instance : TAgg Tryz.prog 44 true := ⟨Tryz.isAgg44⟩
instance : TPl Tryz.prog 44 [(0, 1), (1, 19), (20, 1)] := ⟨_, Tryz.underlying44, fun w => by simp [List.mapM_cons]⟩
instance : TFd Tryz.prog 44 0 0 3 := ⟨_, _, Tryz.underlying44, rfl, rfl, rfl, fun w => ⟨0, Tryz.sizeOf3 w⟩⟩
instance : TFd Tryz.prog 44 1 1 43 := ⟨_, _, Tryz.underlying44, rfl, rfl, rfl, fun w => ⟨18, Tryz.sizeOf43 w⟩⟩
instance : TFd Tryz.prog 44 2 20 3 := ⟨_, _, Tryz.underlying44, rfl, rfl, rfl, fun w => ⟨0, Tryz.sizeOf3 w⟩⟩
instance : TZ Tryz.prog 44 (.agg #[.int .i64 0, .int .i64 0, .int .i64 0, .int .i64 0, .int .i64 0, .int .i64 0, .int .i64 0, .int .i64 0, .slice none 0 0, .slice none 0 0, .bool false, .int .i64 0, .int .i64 0, .int .i64 0, .int .i64 0, .slice none 0 0, .int .i64 0, .int .i64 0, .int .i64 0, .slice none 0 0, .int .i64 0]) := ⟨Tryz.zeroValue44⟩
instance : TZL Tryz.prog 44 [.int .i64 0, .int .i64 0, .int .i64 0, .int .i64 0, .int .i64 0, .int .i64 0, .int .i64 0, .int .i64 0, .slice none 0 0, .slice none 0 0, .bool false, .int .i64 0, .int .i64 0, .int .i64 0, .int .i64 0, .slice none 0 0, .int .i64 0, .int .i64 0, .int .i64 0, .slice none 0 0, .int .i64 0] := ⟨_, Tryz.zeroValue44, rfl⟩
instance : TIn Tryz.prog 44 21 232 (.agg #[.int .i64 0, .int .i64 0, .int .i64 0, .int .i64 0, .int .i64 0, .int .i64 0, .int .i64 0, .int .i64 0, .slice none 0 0, .slice none 0 0, .bool false, .int .i64 0, .int .i64 0, .int .i64 0, .int .i64 0, .slice none 0 0, .int .i64 0, .int .i64 0, .int .i64 0, .slice none 0 0, .int .i64 0]) := ⟨_, rfl, rfl, rfl, rfl, rfl, by decide⟩
instance : TSz Tryz.prog 45 21 := ⟨Tryz.sizeOf45⟩
instance : TAgg Tryz.prog 45 true := ⟨Tryz.isAgg45⟩
instance : TPl Tryz.prog 45 [(0, 1), (1, 19), (20, 1)] := ⟨_, Tryz.underlying45, fun w => by simp [List.mapM_cons]⟩
instance : TFd Tryz.prog 45 0 0 3 := ⟨_, _, Tryz.underlying45, rfl, rfl, rfl, fun w => ⟨0, Tryz.sizeOf3 w⟩⟩
instance : TFd Tryz.prog 45 1 1 43 := ⟨_, _, Tryz.underlying45, rfl, rfl, rfl, fun w => ⟨18, Tryz.sizeOf43 w⟩⟩
instance : TFd Tryz.prog 45 2 20 3 := ⟨_, _, Tryz.underlying45, rfl, rfl, rfl, fun w => ⟨0, Tryz.sizeOf3 w⟩⟩
instance : TZ Tryz.prog 45 (.agg #[.int .i64 0, .int .i64 0, .int .i64 0, .int .i64 0, .int .i64 0, .int .i64 0, .int .i64 0, .int .i64 0, .slice none 0 0, .slice none 0 0, .bool false, .int .i64 0, .int .i64 0, .int .i64 0, .int .i64 0, .slice none 0 0, .int .i64 0, .int .i64 0, .int .i64 0, .slice none 0 0, .int .i64 0]) := ⟨Tryz.zeroValue45⟩
instance : TZL Tryz.prog 45 [.int .i64 0, .int .i64 0, .int .i64 0, .int .i64 0, .int .i64 0, .int .i64 0, .int .i64 0, .int .i64 0, .slice none 0 0, .slice none 0 0, .bool false, .int .i64 0, .int .i64 0, .int .i64 0, .int .i64 0, .slice none 0 0, .int .i64 0, .int .i64 0, .int .i64 0, .slice none 0 0, .int .i64 0] := ⟨_, Tryz.zeroValue45, rfl⟩
instance : TIn Tryz.prog 45 21 232 (.agg #[.int .i64 0, .int .i64 0, .int .i64 0, .int .i64 0, .int .i64 0, .int .i64 0, .int .i64 0, .int .i64 0, .slice none 0 0, .slice none 0 0, .bool false, .int .i64 0, .int .i64 0, .int .i64 0, .int .i64 0, .slice none 0 0, .int .i64 0, .int .i64 0, .int .i64 0, .slice none 0 0, .int .i64 0]) := ⟨_, rfl, rfl, rfl, rfl, rfl, by decide⟩
instance : TSz Tryz.prog 46 1 := ⟨Tryz.sizeOf46⟩
instance : TAgg Tryz.prog 46 false := ⟨Tryz.isAgg46⟩
instance : TSl Tryz.prog 46 43 := ⟨Tryz.underlying46⟩
instance : TZ Tryz.prog 46 (.slice none 0 0) := ⟨Tryz.zeroValue46⟩
instance : TZL Tryz.prog 46 [.slice none 0 0] := ⟨_, Tryz.zeroValue46, rfl⟩
instance : TIn Tryz.prog 46 1 24 (.slice none 0 0) := ⟨_, rfl, rfl, rfl, rfl, rfl, by decide⟩
instance : TSz Tryz.prog 47 1 := ⟨Tryz.sizeOf47⟩
instance : TAgg Tryz.prog 47 false := ⟨Tryz.isAgg47⟩
instance : TSl Tryz.prog 47 53 := ⟨Tryz.underlying47⟩
instance : TZ Tryz.prog 47 (.slice none 0 0) := ⟨Tryz.zeroValue47⟩
instance : TZL Tryz.prog 47 [.slice none 0 0] := ⟨_, Tryz.zeroValue47, rfl⟩
instance : TIn Tryz.prog 47 1 24 (.slice none 0 0) := ⟨_, rfl, rfl, rfl, rfl, rfl, by decide⟩
instance : TSz Tryz.prog 49 1 := ⟨Tryz.sizeOf49⟩
instance : TAgg Tryz.prog 49 false := ⟨Tryz.isAgg49⟩
instance : TZ Tryz.prog 49 (.nilFunc) := ⟨Tryz.zeroValue49⟩
instance : TZL Tryz.prog 49 [.nilFunc] := ⟨_, Tryz.zeroValue49, rfl⟩
instance : TIn Tryz.prog 49 1 8 (.nilFunc) := ⟨_, rfl, rfl, rfl, rfl, rfl, by decide⟩
instance : TSz Tryz.prog 50 1 := ⟨Tryz.sizeOf50⟩
instance : TAgg Tryz.prog 50 false := ⟨Tryz.isAgg50⟩
instance : TZ Tryz.prog 50 (.nilFunc) := ⟨Tryz.zeroValue50⟩
instance : TZL Tryz.prog 50 [.nilFunc] := ⟨_, Tryz.zeroValue50, rfl⟩
instance : TIn Tryz.prog 50 1 8 (.nilFunc) := ⟨_, rfl, rfl, rfl, rfl, rfl, by decide⟩
instance : TSz Tryz.prog 51 1 := ⟨Tryz.sizeOf51⟩
instance : TAgg Tryz.prog 51 false := ⟨Tryz.isAgg51⟩
instance : TIt Tryz.prog 51 .i64 := ⟨Tryz.underlying51⟩
instance : TZ Tryz.prog 51 (.int .i64 0) := ⟨Tryz.zeroValue51⟩
instance : TZL Tryz.prog 51 [.int .i64 0] := ⟨_, Tryz.zeroValue51, rfl⟩
instance : TIn Tryz.prog 51 1 8 (.int .i64 0) := ⟨_, rfl, rfl, rfl, rfl, rfl, by decide⟩
instance : TSz Tryz.prog 52 9 := ⟨Tryz.sizeOf52⟩
instance : TAgg Tryz.prog 52 true := ⟨Tryz.isAgg52⟩
instance : TPl Tryz.prog 52 [(0, 1), (1, 3), (4, 3), (7, 1), (8, 1)] := ⟨_, Tryz.underlying52, fun w => by simp [List.mapM_cons]⟩
instance : TFd Tryz.prog 52 0 0 51 := ⟨_, _, Tryz.underlying52, rfl, rfl, rfl, fun w => ⟨0, Tryz.sizeOf51 w⟩⟩
instance : TFd Tryz.prog 52 1 1 29 := ⟨_, _, Tryz.underlying52, rfl, rfl, rfl, fun w => ⟨2, Tryz.sizeOf29 w⟩⟩
instance : TFd Tryz.prog 52 2 4 32 := ⟨_, _, Tryz.underlying52, rfl, rfl, rfl, fun w => ⟨2, Tryz.sizeOf32 w⟩⟩
instance : TFd Tryz.prog 52 3 7 4 := ⟨_, _, Tryz.underlying52, rfl, rfl, rfl, fun w => ⟨0, Tryz.sizeOf4 w⟩⟩
instance : TFd Tryz.prog 52 4 8 34 := ⟨_, _, Tryz.underlying52, rfl, rfl, rfl, fun w => ⟨0, Tryz.sizeOf34 w⟩⟩
instance : TZ Tryz.prog 52 (.agg #[.int .i64 0, .int .i64 0, .int .i64 0, .int .i64 0, .int .i64 0, .slice none 0 0, .slice none 0 0, .bool false, .slice none 0 0]) := ⟨Tryz.zeroValue52⟩
instance : TZL Tryz.prog 52 [.int .i64 0, .int .i64 0, .int .i64 0, .int .i64 0, .int .i64 0, .slice none 0 0, .slice none 0 0, .bool false, .slice none 0 0] := ⟨_, Tryz.zeroValue52, rfl⟩
instance : TIn Tryz.prog 52 9 120 (.agg #[.int .i64 0, .int .i64 0, .int .i64 0, .int .i64 0, .int .i64 0, .slice none 0 0, .slice none 0 0, .bool false, .slice none 0 0]) := ⟨_, rfl, rfl, rfl, rfl, rfl, by decide⟩
instance : TSz Tryz.prog 53 9 := ⟨Tryz.sizeOf53⟩
instance : TAgg Tryz.prog 53 true := ⟨Tryz.isAgg53⟩
instance : TPl Tryz.prog 53 [(0, 1), (1, 3), (4, 3), (7, 1), (8, 1)] := ⟨_, Tryz.underlying53, fun w => by simp [List.mapM_cons]⟩
instance : TFd Tryz.prog 53 0 0 51 := ⟨_, _, Tryz.underlying53, rfl, rfl, rfl, fun w => ⟨0, Tryz.sizeOf51 w⟩⟩
instance : TFd Tryz.prog 53 1 1 29 := ⟨_, _, Tryz.underlying53, rfl, rfl, rfl, fun w => ⟨2, Tryz.sizeOf29 w⟩⟩
instance : TFd Tryz.prog 53 2 4 32 := ⟨_, _, Tryz.underlying53, rfl, rfl, rfl, fun w => ⟨2, Tryz.sizeOf32 w⟩⟩
instance : TFd Tryz.prog 53 3 7 4 := ⟨_, _, Tryz.underlying53, rfl, rfl, rfl, fun w => ⟨0, Tryz.sizeOf4 w⟩⟩
instance : TFd Tryz.prog 53 4 8 34 := ⟨_, _, Tryz.underlying53, rfl, rfl, rfl, fun w => ⟨0, Tryz.sizeOf34 w⟩⟩
instance : TZ Tryz.prog 53 (.agg #[.int .i64 0, .int .i64 0, .int .i64 0, .int .i64 0, .int .i64 0, .slice none 0 0, .slice none 0 0, .bool false, .slice none 0 0]) := ⟨Tryz.zeroValue53⟩
instance : TZL Tryz.prog 53 [.int .i64 0, .int .i64 0, .int .i64 0, .int .i64 0, .int .i64 0, .slice none 0 0, .slice none 0 0, .bool false, .slice none 0 0] := ⟨_, Tryz.zeroValue53, rfl⟩
instance : TIn Tryz.prog 53 9 120 (.agg #[.int .i64 0, .int .i64 0, .int .i64 0, .int .i64 0, .int .i64 0, .slice none 0 0, .slice none 0 0, .bool false, .slice none 0 0]) := ⟨_, rfl, rfl, rfl, rfl, rfl, by decide⟩
instance : TSz Tryz.prog 54 1 := ⟨Tryz.sizeOf54⟩
instance : TAgg Tryz.prog 54 false := ⟨Tryz.isAgg54⟩
instance : TSl Tryz.prog 54 66 := ⟨Tryz.underlying54⟩
instance : TZ Tryz.prog 54 (.slice none 0 0) := ⟨Tryz.zeroValue54⟩
instance : TZL Tryz.prog 54 [.slice none 0 0] := ⟨_, Tryz.zeroValue54, rfl⟩
instance : TIn Tryz.prog 54 1 24 (.slice none 0 0) := ⟨_, rfl, rfl, rfl, rfl, rfl, by decide⟩
instance : TSz Tryz.prog 55 1 := ⟨Tryz.sizeOf55⟩
instance : TAgg Tryz.prog 55 false := ⟨Tryz.isAgg55⟩
instance : TZ Tryz.prog 55 (.nilFunc) := ⟨Tryz.zeroValue55⟩
instance : TZL Tryz.prog 55 [.nilFunc] := ⟨_, Tryz.zeroValue55, rfl⟩
instance : TIn Tryz.prog 55 1 8 (.nilFunc) := ⟨_, rfl, rfl, rfl, rfl, rfl, by decide⟩
instance : TSz Tryz.prog 57 1 := ⟨Tryz.sizeOf57⟩
instance : TAgg Tryz.prog 57 false := ⟨Tryz.isAgg57⟩
instance : TZ Tryz.prog 57 (.nilFunc) := ⟨Tryz.zeroValue57⟩
instance : TZL Tryz.prog 57 [.nilFunc] := ⟨_, Tryz.zeroValue57, rfl⟩
instance : TIn Tryz.prog 57 1 8 (.nilFunc) := ⟨_, rfl, rfl, rfl, rfl, rfl, by decide⟩
instance : TSz Tryz.prog 58 1 := ⟨Tryz.sizeOf58⟩
instance : TAgg Tryz.prog 58 false := ⟨Tryz.isAgg58⟩
instance : TSl Tryz.prog 58 109 := ⟨Tryz.underlying58⟩
instance : TZ Tryz.prog 58 (.slice none 0 0) := ⟨Tryz.zeroValue58⟩
instance : TZL Tryz.prog 58 [.slice none 0 0] := ⟨_, Tryz.zeroValue58, rfl⟩
instance : TIn Tryz.prog 58 1 24 (.slice none 0 0) := ⟨_, rfl, rfl, rfl, rfl, rfl, by decide⟩
instance : TSz Tryz.prog 59 1 := ⟨Tryz.sizeOf59⟩
instance : TAgg Tryz.prog 59 false := ⟨Tryz.isAgg59⟩
instance : TZ Tryz.prog 59 (.nilFunc) := ⟨Tryz.zeroValue59⟩
instance : TZL Tryz.prog 59 [.nilFunc] := ⟨_, Tryz.zeroValue59, rfl⟩
instance : TIn Tryz.prog 59 1 8 (.nilFunc) := ⟨_, rfl, rfl, rfl, rfl, rfl, by decide⟩
instance : TSz Tryz.prog 60 1 := ⟨Tryz.sizeOf60⟩
instance : TAgg Tryz.prog 60 false := ⟨Tryz.isAgg60⟩
instance : TPt Tryz.prog 60 := ⟨_, Tryz.underlying60⟩
instance : TZ Tryz.prog 60 (.pointer none) := ⟨Tryz.zeroValue60⟩
instance : TZL Tryz.prog 60 [.pointer none] := ⟨_, Tryz.zeroValue60, rfl⟩
instance : TIn Tryz.prog 60 1 8 (.pointer none) := ⟨_, rfl, rfl, rfl, rfl, rfl, by decide⟩
instance : TSz Tryz.prog 61 1 := ⟨Tryz.sizeOf61⟩
instance : TAgg Tryz.prog 61 false := ⟨Tryz.isAgg61⟩
instance : TMap Tryz.prog 61 29 3 := ⟨Tryz.underlying61⟩
instance : TZ Tryz.prog 61 (.map none) := ⟨Tryz.zeroValue61⟩
instance : TZL Tryz.prog 61 [.map none] := ⟨_, Tryz.zeroValue61, rfl⟩
instance : TIn Tryz.prog 61 1 8 (.map none) := ⟨_, rfl, rfl, rfl, rfl, rfl, by decide⟩
instance : TSz Tryz.prog 62 3 := ⟨Tryz.sizeOf62⟩
instance : TAgg Tryz.prog 62 true := ⟨Tryz.isAgg62⟩
instance : TPl Tryz.prog 62 [(0, 1), (1, 1), (2, 1)] := ⟨_, Tryz.underlying62, fun w => by simp [List.mapM_cons]⟩
instance : TFd Tryz.prog 62 0 0 60 := ⟨_, _, Tryz.underlying62, rfl, rfl, rfl, fun w => ⟨0, Tryz.sizeOf60 w⟩⟩
instance : TFd Tryz.prog 62 1 1 3 := ⟨_, _, Tryz.underlying62, rfl, rfl, rfl, fun w => ⟨0, Tryz.sizeOf3 w⟩⟩
instance : TFd Tryz.prog 62 2 2 61 := ⟨_, _, Tryz.underlying62, rfl, rfl, rfl, fun w => ⟨0, Tryz.sizeOf61 w⟩⟩
instance : TZ Tryz.prog 62 (.agg #[.pointer none, .int .i64 0, .map none]) := ⟨Tryz.zeroValue62⟩
instance : TZL Tryz.prog 62 [.pointer none, .int .i64 0, .map none] := ⟨_, Tryz.zeroValue62, rfl⟩
instance : TIn Tryz.prog 62 3 24 (.agg #[.pointer none, .int .i64 0, .map none]) := ⟨_, rfl, rfl, rfl, rfl, rfl, by decide⟩
instance : TSz Tryz.prog 63 3 := ⟨Tryz.sizeOf63⟩
instance : TAgg Tryz.prog 63 true := ⟨Tryz.isAgg63⟩
instance : TPl Tryz.prog 63 [(0, 1), (1, 1), (2, 1)] := ⟨_, Tryz.underlying63, fun w => by simp [List.mapM_cons]⟩
instance : TFd Tryz.prog 63 0 0 60 := ⟨_, _, Tryz.underlying63, rfl, rfl, rfl, fun w => ⟨0, Tryz.sizeOf60 w⟩⟩
instance : TFd Tryz.prog 63 1 1 3 := ⟨_, _, Tryz.underlying63, rfl, rfl, rfl, fun w => ⟨0, Tryz.sizeOf3 w⟩⟩
instance : TFd Tryz.prog 63 2 2 61 := ⟨_, _, Tryz.underlying63, rfl, rfl, rfl, fun w => ⟨0, Tryz.sizeOf61 w⟩⟩
instance : TZ Tryz.prog 63 (.agg #[.pointer none, .int .i64 0, .map none]) := ⟨Tryz.zeroValue63⟩
instance : TZL Tryz.prog 63 [.pointer none, .int .i64 0, .map none] := ⟨_, Tryz.zeroValue63, rfl⟩
instance : TIn Tryz.prog 63 3 24 (.agg #[.pointer none, .int .i64 0, .map none]) := ⟨_, rfl, rfl, rfl, rfl, rfl, by decide⟩
instance : TSz Tryz.prog 64 1 := ⟨Tryz.sizeOf64⟩
instance : TAgg Tryz.prog 64 false := ⟨Tryz.isAgg64⟩
instance : TZ Tryz.prog 64 (.nilFunc) := ⟨Tryz.zeroValue64⟩
instance : TZL Tryz.prog 64 [.nilFunc] := ⟨_, Tryz.zeroValue64, rfl⟩
instance : TIn Tryz.prog 64 1 8 (.nilFunc) := ⟨_, rfl, rfl, rfl, rfl, rfl, by decide⟩
instance : TSz Tryz.prog 65 4 := ⟨Tryz.sizeOf65⟩
instance : TAgg Tryz.prog 65 true := ⟨Tryz.isAgg65⟩
instance : TPl Tryz.prog 65 [(0, 3), (3, 1)] := ⟨_, Tryz.underlying65, fun w => by simp [List.mapM_cons]⟩
instance : TFd Tryz.prog 65 0 0 29 := ⟨_, _, Tryz.underlying65, rfl, rfl, rfl, fun w => ⟨2, Tryz.sizeOf29 w⟩⟩
instance : TFd Tryz.prog 65 1 3 3 := ⟨_, _, Tryz.underlying65, rfl, rfl, rfl, fun w => ⟨0, Tryz.sizeOf3 w⟩⟩
instance : TZ Tryz.prog 65 (.agg #[.int .i64 0, .int .i64 0, .int .i64 0, .int .i64 0]) := ⟨Tryz.zeroValue65⟩
instance : TZL Tryz.prog 65 [.int .i64 0, .int .i64 0, .int .i64 0, .int .i64 0] := ⟨_, Tryz.zeroValue65, rfl⟩
instance : TIn Tryz.prog 65 4 32 (.agg #[.int .i64 0, .int .i64 0, .int .i64 0, .int .i64 0]) := ⟨_, rfl, rfl, rfl, rfl, rfl, by decide⟩
instance : TSz Tryz.prog 66 4 := ⟨Tryz.sizeOf66⟩
instance : TAgg Tryz.prog 66 true := ⟨Tryz.isAgg66⟩
instance : TPl Tryz.prog 66 [(0, 3), (3, 1)] := ⟨_, Tryz.underlying66, fun w => by simp [List.mapM_cons]⟩
instance : TFd Tryz.prog 66 0 0 29 := ⟨_, _, Tryz.underlying66, rfl, rfl, rfl, fun w => ⟨2, Tryz.sizeOf29 w⟩⟩
instance : TFd Tryz.prog 66 1 3 3 := ⟨_, _, Tryz.underlying66, rfl, rfl, rfl, fun w => ⟨0, Tryz.sizeOf3 w⟩⟩
instance : TZ Tryz.prog 66 (.agg #[.int .i64 0, .int .i64 0, .int .i64 0, .int .i64 0]) := ⟨Tryz.zeroValue66⟩
instance : TZL Tryz.prog 66 [.int .i64 0, .int .i64 0, .int .i64 0, .int .i64 0] := ⟨_, Tryz.zeroValue66, rfl⟩
instance : TIn Tryz.prog 66 4 32 (.agg #[.int .i64 0, .int .i64 0, .int .i64 0, .int .i64 0]) := ⟨_, rfl, rfl, rfl, rfl, rfl, by decide⟩
instance : TSz Tryz.prog 67 1 := ⟨Tryz.sizeOf67⟩
instance : TAgg Tryz.prog 67 false := ⟨Tryz.isAgg67⟩
instance : TZ Tryz.prog 67 (.nilFunc) := ⟨Tryz.zeroValue67⟩
instance : TZL Tryz.prog 67 [.nilFunc] := ⟨_, Tryz.zeroValue67, rfl⟩
instance : TIn Tryz.prog 67 1 8 (.nilFunc) := ⟨_, rfl, rfl, rfl, rfl, rfl, by decide⟩
instance : TSz Tryz.prog 68 2 := ⟨Tryz.sizeOf68⟩
instance : TAgg Tryz.prog 68 true := ⟨Tryz.isAgg68⟩
instance : TPl Tryz.prog 68 [(0, 1), (1, 1)] := ⟨_, Tryz.underlying68, fun w => by simp [List.mapM_cons]⟩
instance : TFd Tryz.prog 68 0 0 58 := ⟨_, _, Tryz.underlying68, rfl, rfl, rfl, fun w => ⟨0, Tryz.sizeOf58 w⟩⟩
instance : TFd Tryz.prog 68 1 1 47 := ⟨_, _, Tryz.underlying68, rfl, rfl, rfl, fun w => ⟨0, Tryz.sizeOf47 w⟩⟩
instance : TZ Tryz.prog 68 (.agg #[.slice none 0 0, .slice none 0 0]) := ⟨Tryz.zeroValue68⟩
instance : TZL Tryz.prog 68 [.slice none 0 0, .slice none 0 0] := ⟨_, Tryz.zeroValue68, rfl⟩
instance : TIn Tryz.prog 68 2 48 (.agg #[.slice none 0 0, .slice none 0 0]) := ⟨_, rfl, rfl, rfl, rfl, rfl, by decide⟩
instance : TSz Tryz.prog 69 2 := ⟨Tryz.sizeOf69⟩
instance : TAgg Tryz.prog 69 true := ⟨Tryz.isAgg69⟩
instance : TPl Tryz.prog 69 [(0, 1), (1, 1)] := ⟨_, Tryz.underlying69, fun w => by simp [List.mapM_cons]⟩
instance : TFd Tryz.prog 69 0 0 58 := ⟨_, _, Tryz.underlying69, rfl, rfl, rfl, fun w => ⟨0, Tryz.sizeOf58 w⟩⟩
instance : TFd Tryz.prog 69 1 1 47 := ⟨_, _, Tryz.underlying69, rfl, rfl, rfl, fun w => ⟨0, Tryz.sizeOf47 w⟩⟩
instance : TZ Tryz.prog 69 (.agg #[.slice none 0 0, .slice none 0 0]) := ⟨Tryz.zeroValue69⟩
instance : TZL Tryz.prog 69 [.slice none 0 0, .slice none 0 0] := ⟨_, Tryz.zeroValue69, rfl⟩
instance : TIn Tryz.prog 69 2 48 (.agg #[.slice none 0 0, .slice none 0 0]) := ⟨_, rfl, rfl, rfl, rfl, rfl, by decide⟩
instance : TSz Tryz.prog 70 1 := ⟨Tryz.sizeOf70⟩
instance : TAgg Tryz.prog 70 false := ⟨Tryz.isAgg70⟩
instance : TSl Tryz.prog 70 121 := ⟨Tryz.underlying70⟩
instance : TZ Tryz.prog 70 (.slice none 0 0) := ⟨Tryz.zeroValue70⟩
instance : TZL Tryz.prog 70 [.slice none 0 0] := ⟨_, Tryz.zeroValue70, rfl⟩
instance : TIn Tryz.prog 70 1 24 (.slice none 0 0) := ⟨_, rfl, rfl, rfl, rfl, rfl, by decide⟩
instance : TSz Tryz.prog 71 4 := ⟨Tryz.sizeOf71⟩
instance : TAgg Tryz.prog 71 true := ⟨Tryz.isAgg71⟩
instance : TPl Tryz.prog 71 [(0, 1), (1, 2), (3, 1)] := ⟨_, Tryz.underlying71, fun w => by simp [List.mapM_cons]⟩
instance : TFd Tryz.prog 71 0 0 3 := ⟨_, _, Tryz.underlying71, rfl, rfl, rfl, fun w => ⟨0, Tryz.sizeOf3 w⟩⟩
instance : TFd Tryz.prog 71 1 1 69 := ⟨_, _, Tryz.underlying71, rfl, rfl, rfl, fun w => ⟨1, Tryz.sizeOf69 w⟩⟩
instance : TFd Tryz.prog 71 2 3 70 := ⟨_, _, Tryz.underlying71, rfl, rfl, rfl, fun w => ⟨0, Tryz.sizeOf70 w⟩⟩
instance : TZ Tryz.prog 71 (.agg #[.int .i64 0, .slice none 0 0, .slice none 0 0, .slice none 0 0]) := ⟨Tryz.zeroValue71⟩
instance : TZL Tryz.prog 71 [.int .i64 0, .slice none 0 0, .slice none 0 0, .slice none 0 0] := ⟨_, Tryz.zeroValue71, rfl⟩
instance : TIn Tryz.prog 71 4 80 (.agg #[.int .i64 0, .slice none 0 0, .slice none 0 0, .slice none 0 0]) := ⟨_, rfl, rfl, rfl, rfl, rfl, by decide⟩
instance : TSz Tryz.prog 72 4 := ⟨Tryz.sizeOf72⟩
instance : TAgg Tryz.prog 72 true := ⟨Tryz.isAgg72⟩
instance : TPl Tryz.prog 72 [(0, 1), (1, 2), (3, 1)] := ⟨_, Tryz.underlying72, fun w => by simp [List.mapM_cons]⟩
instance : TFd Tryz.prog 72 0 0 3 := ⟨_, _, Tryz.underlying72, rfl, rfl, rfl, fun w => ⟨0, Tryz.sizeOf3 w⟩⟩
instance : TFd Tryz.prog 72 1 1 69 := ⟨_, _, Tryz.underlying72, rfl, rfl, rfl, fun w => ⟨1, Tryz.sizeOf69 w⟩⟩
instance : TFd Tryz.prog 72 2 3 70 := ⟨_, _, Tryz.underlying72, rfl, rfl, rfl, fun w => ⟨0, Tryz.sizeOf70 w⟩⟩
instance : TZ Tryz.prog 72 (.agg #[.int .i64 0, .slice none 0 0, .slice none 0 0, .slice none 0 0]) := ⟨Tryz.zeroValue72⟩
instance : TZL Tryz.prog 72 [.int .i64 0, .slice none 0 0, .slice none 0 0, .slice none 0 0] := ⟨_, Tryz.zeroValue72, rfl⟩
instance : TIn Tryz.prog 72 4 80 (.agg #[.int .i64 0, .slice none 0 0, .slice none 0 0, .slice none 0 0]) := ⟨_, rfl, rfl, rfl, rfl, rfl, by decide⟩
instance : TSz Tryz.prog 74 1 := ⟨Tryz.sizeOf74⟩
instance : TAgg Tryz.prog 74 false := ⟨Tryz.isAgg74⟩
instance : TZ Tryz.prog 74 (.nilFunc) := ⟨Tryz.zeroValue74⟩
instance : TZL Tryz.prog 74 [.nilFunc] := ⟨_, Tryz.zeroValue74, rfl⟩
instance : TIn Tryz.prog 74 1 8 (.nilFunc) := ⟨_, rfl, rfl, rfl, rfl, rfl, by decide⟩
instance : TSz Tryz.prog 75 1 := ⟨Tryz.sizeOf75⟩
instance : TAgg Tryz.prog 75 false := ⟨Tryz.isAgg75⟩
instance : TZ Tryz.prog 75 (.nilFunc) := ⟨Tryz.zeroValue75⟩
instance : TZL Tryz.prog 75 [.nilFunc] := ⟨_, Tryz.zeroValue75, rfl⟩
instance : TIn Tryz.prog 75 1 8 (.nilFunc) := ⟨_, rfl, rfl, rfl, rfl, rfl, by decide⟩
instance : TSz Tryz.prog 76 1 := ⟨Tryz.sizeOf76⟩
instance : TAgg Tryz.prog 76 false := ⟨Tryz.isAgg76⟩
instance : TZ Tryz.prog 76 (.nilFunc) := ⟨Tryz.zeroValue76⟩
instance : TZL Tryz.prog 76 [.nilFunc] := ⟨_, Tryz.zeroValue76, rfl⟩
instance : TIn Tryz.prog 76 1 8 (.nilFunc) := ⟨_, rfl, rfl, rfl, rfl, rfl, by decide⟩
instance : TSz Tryz.prog 77 1 := ⟨Tryz.sizeOf77⟩
instance : TAgg Tryz.prog 77 false := ⟨Tryz.isAgg77⟩
instance : TZ Tryz.prog 77 (.nilFunc) := ⟨Tryz.zeroValue77⟩
instance : TZL Tryz.prog 77 [.nilFunc] := ⟨_, Tryz.zeroValue77, rfl⟩
instance : TIn Tryz.prog 77 1 8 (.nilFunc) := ⟨_, rfl, rfl, rfl, rfl, rfl, by decide⟩
instance : TSz Tryz.prog 78 1 := ⟨Tryz.sizeOf78⟩
instance : TAgg Tryz.prog 78 false := ⟨Tryz.isAgg78⟩
instance : TZ Tryz.prog 78 (.nilFunc) := ⟨Tryz.zeroValue78⟩
instance : TZL Tryz.prog 78 [.nilFunc] := ⟨_, Tryz.zeroValue78, rfl⟩
instance : TIn Tryz.prog 78 1 8 (.nilFunc) := ⟨_, rfl, rfl, rfl, rfl, rfl, by decide⟩
instance : TSz Tryz.prog 79 1 := ⟨Tryz.sizeOf79⟩
instance : TAgg Tryz.prog 79 false := ⟨Tryz.isAgg79⟩
instance : TZ Tryz.prog 79 (.nilFunc) := ⟨Tryz.zeroValue79⟩
instance : TZL Tryz.prog 79 [.nilFunc] := ⟨_, Tryz.zeroValue79, rfl⟩
instance : TIn Tryz.prog 79 1 8 (.nilFunc) := ⟨_, rfl, rfl, rfl, rfl, rfl, by decide⟩
instance : TSz Tryz.prog 81 1 := ⟨Tryz.sizeOf81⟩
instance : TAgg Tryz.prog 81 false := ⟨Tryz.isAgg81⟩
instance : TZ Tryz.prog 81 (.nilFunc) := ⟨Tryz.zeroValue81⟩
instance : TZL Tryz.prog 81 [.nilFunc] := ⟨_, Tryz.zeroValue81, rfl⟩
instance : TIn Tryz.prog 81 1 8 (.nilFunc) := ⟨_, rfl, rfl, rfl, rfl, rfl, by decide⟩
instance : TSz Tryz.prog 82 1 := ⟨Tryz.sizeOf82⟩
instance : TAgg Tryz.prog 82 false := ⟨Tryz.isAgg82⟩
instance : TZ Tryz.prog 82 (.nilFunc) := ⟨Tryz.zeroValue82⟩
instance : TZL Tryz.prog 82 [.nilFunc] := ⟨_, Tryz.zeroValue82, rfl⟩
instance : TIn Tryz.prog 82 1 8 (.nilFunc) := ⟨_, rfl, rfl, rfl, rfl, rfl, by decide⟩
instance : TSz Tryz.prog 83 1 := ⟨Tryz.sizeOf83⟩
instance : TAgg Tryz.prog 83 false := ⟨Tryz.isAgg83⟩
instance : TZ Tryz.prog 83 (.nilFunc) := ⟨Tryz.zeroValue83⟩
instance : TZL Tryz.prog 83 [.nilFunc] := ⟨_, Tryz.zeroValue83, rfl⟩
instance : TIn Tryz.prog 83 1 8 (.nilFunc) := ⟨_, rfl, rfl, rfl, rfl, rfl, by decide⟩
instance : TSz Tryz.prog 84 1 := ⟨Tryz.sizeOf84⟩
instance : TAgg Tryz.prog 84 false := ⟨Tryz.isAgg84⟩
instance : TZ Tryz.prog 84 (.nilFunc) := ⟨Tryz.zeroValue84⟩
instance : TZL Tryz.prog 84 [.nilFunc] := ⟨_, Tryz.zeroValue84, rfl⟩
instance : TIn Tryz.prog 84 1 8 (.nilFunc) := ⟨_, rfl, rfl, rfl, rfl, rfl, by decide⟩
instance : TSz Tryz.prog 85 1 := ⟨Tryz.sizeOf85⟩
instance : TAgg Tryz.prog 85 false := ⟨Tryz.isAgg85⟩
instance : TZ Tryz.prog 85 (.nilFunc) := ⟨Tryz.zeroValue85⟩
instance : TZL Tryz.prog 85 [.nilFunc] := ⟨_, Tryz.zeroValue85, rfl⟩
instance : TIn Tryz.prog 85 1 8 (.nilFunc) := ⟨_, rfl, rfl, rfl, rfl, rfl, by decide⟩
instance : TSz Tryz.prog 87 1 := ⟨Tryz.sizeOf87⟩
instance : TAgg Tryz.prog 87 false := ⟨Tryz.isAgg87⟩
instance : TZ Tryz.prog 87 (.nilFunc) := ⟨Tryz.zeroValue87⟩
instance : TZL Tryz.prog 87 [.nilFunc] := ⟨_, Tryz.zeroValue87, rfl⟩
instance : TIn Tryz.prog 87 1 8 (.nilFunc) := ⟨_, rfl, rfl, rfl, rfl, rfl, by decide⟩
instance : TSz Tryz.prog 88 1 := ⟨Tryz.sizeOf88⟩
instance : TAgg Tryz.prog 88 false := ⟨Tryz.isAgg88⟩
instance : TZ Tryz.prog 88 (.nilFunc) := ⟨Tryz.zeroValue88⟩
instance : TZL Tryz.prog 88 [.nilFunc] := ⟨_, Tryz.zeroValue88, rfl⟩
instance : TIn Tryz.prog 88 1 8 (.nilFunc) := ⟨_, rfl, rfl, rfl, rfl, rfl, by decide⟩
instance : TSz Tryz.prog 89 1 := ⟨Tryz.sizeOf89⟩
instance : TAgg Tryz.prog 89 false := ⟨Tryz.isAgg89⟩
instance : TZ Tryz.prog 89 (.nilFunc) := ⟨Tryz.zeroValue89⟩
instance : TZL Tryz.prog 89 [.nilFunc] := ⟨_, Tryz.zeroValue89, rfl⟩
instance : TIn Tryz.prog 89 1 8 (.nilFunc) := ⟨_, rfl, rfl, rfl, rfl, rfl, by decide⟩
instance : TSz Tryz.prog 90 1 := ⟨Tryz.sizeOf90⟩
instance : TAgg Tryz.prog 90 false := ⟨Tryz.isAgg90⟩
instance : TZ Tryz.prog 90 (.nilFunc) := ⟨Tryz.zeroValue90⟩
instance : TZL Tryz.prog 90 [.nilFunc] := ⟨_, Tryz.zeroValue90, rfl⟩
instance : TIn Tryz.prog 90 1 8 (.nilFunc) := ⟨_, rfl, rfl, rfl, rfl, rfl, by decide⟩
instance : TSz Tryz.prog 91 1 := ⟨Tryz.sizeOf91⟩
instance : TAgg Tryz.prog 91 false := ⟨Tryz.isAgg91⟩
instance : TZ Tryz.prog 91 (.nilFunc) := ⟨Tryz.zeroValue91⟩
instance : TZL Tryz.prog 91 [.nilFunc] := ⟨_, Tryz.zeroValue91, rfl⟩
instance : TIn Tryz.prog 91 1 8 (.nilFunc) := ⟨_, rfl, rfl, rfl, rfl, rfl, by decide⟩
instance : TSz Tryz.prog 92 1 := ⟨Tryz.sizeOf92⟩
instance : TAgg Tryz.prog 92 false := ⟨Tryz.isAgg92⟩
instance : TZ Tryz.prog 92 (.nilFunc) := ⟨Tryz.zeroValue92⟩
instance : TZL Tryz.prog 92 [.nilFunc] := ⟨_, Tryz.zeroValue92, rfl⟩
instance : TIn Tryz.prog 92 1 8 (.nilFunc) := ⟨_, rfl, rfl, rfl, rfl, rfl, by decide⟩
instance : TSz Tryz.prog 93 1 := ⟨Tryz.sizeOf93⟩
instance : TAgg Tryz.prog 93 false := ⟨Tryz.isAgg93⟩
instance : TZ Tryz.prog 93 (.nilFunc) := ⟨Tryz.zeroValue93⟩
instance : TZL Tryz.prog 93 [.nilFunc] := ⟨_, Tryz.zeroValue93, rfl⟩
instance : TIn Tryz.prog 93 1 8 (.nilFunc) := ⟨_, rfl, rfl, rfl, rfl, rfl, by decide⟩
instance : TSz Tryz.prog 94 1 := ⟨Tryz.sizeOf94⟩
instance : TAgg Tryz.prog 94 false := ⟨Tryz.isAgg94⟩
instance : TZ Tryz.prog 94 (.nilFunc) := ⟨Tryz.zeroValue94⟩
instance : TZL Tryz.prog 94 [.nilFunc] := ⟨_, Tryz.zeroValue94, rfl⟩
instance : TIn Tryz.prog 94 1 8 (.nilFunc) := ⟨_, rfl, rfl, rfl, rfl, rfl, by decide⟩
instance : TSz Tryz.prog 95 1 := ⟨Tryz.sizeOf95⟩
instance : TAgg Tryz.prog 95 false := ⟨Tryz.isAgg95⟩
instance : TZ Tryz.prog 95 (.nilFunc) := ⟨Tryz.zeroValue95⟩
instance : TZL Tryz.prog 95 [.nilFunc] := ⟨_, Tryz.zeroValue95, rfl⟩
instance : TIn Tryz.prog 95 1 8 (.nilFunc) := ⟨_, rfl, rfl, rfl, rfl, rfl, by decide⟩
instance : TSz Tryz.prog 96 1 := ⟨Tryz.sizeOf96⟩
instance : TAgg Tryz.prog 96 false := ⟨Tryz.isAgg96⟩
instance : TZ Tryz.prog 96 (.nilFunc) := ⟨Tryz.zeroValue96⟩
instance : TZL Tryz.prog 96 [.nilFunc] := ⟨_, Tryz.zeroValue96, rfl⟩
instance : TIn Tryz.prog 96 1 8 (.nilFunc) := ⟨_, rfl, rfl, rfl, rfl, rfl, by decide⟩
instance : TSz Tryz.prog 98 1 := ⟨Tryz.sizeOf98⟩
instance : TAgg Tryz.prog 98 false := ⟨Tryz.isAgg98⟩
instance : TZ Tryz.prog 98 (.nilFunc) := ⟨Tryz.zeroValue98⟩
instance : TZL Tryz.prog 98 [.nilFunc] := ⟨_, Tryz.zeroValue98, rfl⟩
instance : TIn Tryz.prog 98 1 8 (.nilFunc) := ⟨_, rfl, rfl, rfl, rfl, rfl, by decide⟩
instance : TSz Tryz.prog 99 1 := ⟨Tryz.sizeOf99⟩
instance : TAgg Tryz.prog 99 false := ⟨Tryz.isAgg99⟩
instance : TZ Tryz.prog 99 (.nilFunc) := ⟨Tryz.zeroValue99⟩
instance : TZL Tryz.prog 99 [.nilFunc] := ⟨_, Tryz.zeroValue99, rfl⟩
instance : TIn Tryz.prog 99 1 8 (.nilFunc) := ⟨_, rfl, rfl, rfl, rfl, rfl, by decide⟩
instance : TSz Tryz.prog 100 1 := ⟨Tryz.sizeOf100⟩
instance : TAgg Tryz.prog 100 false := ⟨Tryz.isAgg100⟩
instance : TZ Tryz.prog 100 (.nilFunc) := ⟨Tryz.zeroValue100⟩
instance : TZL Tryz.prog 100 [.nilFunc] := ⟨_, Tryz.zeroValue100, rfl⟩
instance : TIn Tryz.prog 100 1 8 (.nilFunc) := ⟨_, rfl, rfl, rfl, rfl, rfl, by decide⟩
instance : TSz Tryz.prog 101 1 := ⟨Tryz.sizeOf101⟩
instance : TAgg Tryz.prog 101 false := ⟨Tryz.isAgg101⟩
instance : TZ Tryz.prog 101 (.nilFunc) := ⟨Tryz.zeroValue101⟩
instance : TZL Tryz.prog 101 [.nilFunc] := ⟨_, Tryz.zeroValue101, rfl⟩
instance : TIn Tryz.prog 101 1 8 (.nilFunc) := ⟨_, rfl, rfl, rfl, rfl, rfl, by decide⟩
instance : TSz Tryz.prog 102 1 := ⟨Tryz.sizeOf102⟩
instance : TAgg Tryz.prog 102 false := ⟨Tryz.isAgg102⟩
instance : TZ Tryz.prog 102 (.nilFunc) := ⟨Tryz.zeroValue102⟩
instance : TZL Tryz.prog 102 [.nilFunc] := ⟨_, Tryz.zeroValue102, rfl⟩
instance : TIn Tryz.prog 102 1 8 (.nilFunc) := ⟨_, rfl, rfl, rfl, rfl, rfl, by decide⟩
instance : TSz Tryz.prog 103 1 := ⟨Tryz.sizeOf103⟩
instance : TAgg Tryz.prog 103 false := ⟨Tryz.isAgg103⟩
instance : TMap Tryz.prog 103 9 3 := ⟨Tryz.underlying103⟩
instance : TZ Tryz.prog 103 (.map none) := ⟨Tryz.zeroValue103⟩
instance : TZL Tryz.prog 103 [.map none] := ⟨_, Tryz.zeroValue103, rfl⟩
instance : TIn Tryz.prog 103 1 8 (.map none) := ⟨_, rfl, rfl, rfl, rfl, rfl, by decide⟩
instance : TSz Tryz.prog 104 1 := ⟨Tryz.sizeOf104⟩
instance : TAgg Tryz.prog 104 false := ⟨Tryz.isAgg104⟩
instance : TMap Tryz.prog 104 9 29 := ⟨Tryz.underlying104⟩
instance : TZ Tryz.prog 104 (.map none) := ⟨Tryz.zeroValue104⟩
instance : TZL Tryz.prog 104 [.map none] := ⟨_, Tryz.zeroValue104, rfl⟩
instance : TIn Tryz.prog 104 1 8 (.map none) := ⟨_, rfl, rfl, rfl, rfl, rfl, by decide⟩
instance : TSz Tryz.prog 105 1 := ⟨Tryz.sizeOf105⟩
instance : TAgg Tryz.prog 105 false := ⟨Tryz.isAgg105⟩
instance : TMap Tryz.prog 105 29 32 := ⟨Tryz.underlying105⟩
instance : TZ Tryz.prog 105 (.map none) := ⟨Tryz.zeroValue105⟩
instance : TZL Tryz.prog 105 [.map none] := ⟨_, Tryz.zeroValue105, rfl⟩
instance : TIn Tryz.prog 105 1 8 (.map none) := ⟨_, rfl, rfl, rfl, rfl, rfl, by decide⟩
instance : TSz Tryz.prog 106 3 := ⟨Tryz.sizeOf106⟩
instance : TAgg Tryz.prog 106 true := ⟨Tryz.isAgg106⟩
instance : TPl Tryz.prog 106 [(0, 1), (1, 1), (2, 1)] := ⟨_, Tryz.underlying106, fun w => by simp [List.mapM_cons]⟩
instance : TFd Tryz.prog 106 0 0 103 := ⟨_, _, Tryz.underlying106, rfl, rfl, rfl, fun w => ⟨0, Tryz.sizeOf103 w⟩⟩
instance : TFd Tryz.prog 106 1 1 104 := ⟨_, _, Tryz.underlying106, rfl, rfl, rfl, fun w => ⟨0, Tryz.sizeOf104 w⟩⟩
instance : TFd Tryz.prog 106 2 2 105 := ⟨_, _, Tryz.underlying106, rfl, rfl, rfl, fun w => ⟨0, Tryz.sizeOf105 w⟩⟩
instance : TZ Tryz.prog 106 (.agg #[.map none, .map none, .map none]) := ⟨Tryz.zeroValue106⟩
instance : TZL Tryz.prog 106 [.map none, .map none, .map none] := ⟨_, Tryz.zeroValue106, rfl⟩
instance : TIn Tryz.prog 106 3 24 (.agg #[.map none, .map none, .map none]) := ⟨_, rfl, rfl, rfl, rfl, rfl, by decide⟩
instance : TSz Tryz.prog 107 3 := ⟨Tryz.sizeOf107⟩
instance : TAgg Tryz.prog 107 true := ⟨Tryz.isAgg107⟩
instance : TPl Tryz.prog 107 [(0, 1), (1, 1), (2, 1)] := ⟨_, Tryz.underlying107, fun w => by simp [List.mapM_cons]⟩
instance : TFd Tryz.prog 107 0 0 103 := ⟨_, _, Tryz.underlying107, rfl, rfl, rfl, fun w => ⟨0, Tryz.sizeOf103 w⟩⟩
instance : TFd Tryz.prog 107 1 1 104 := ⟨_, _, Tryz.underlying107, rfl, rfl, rfl, fun w => ⟨0, Tryz.sizeOf104 w⟩⟩
instance : TFd Tryz.prog 107 2 2 105 := ⟨_, _, Tryz.underlying107, rfl, rfl, rfl, fun w => ⟨0, Tryz.sizeOf105 w⟩⟩
instance : TZ Tryz.prog 107 (.agg #[.map none, .map none, .map none]) := ⟨Tryz.zeroValue107⟩
instance : TZL Tryz.prog 107 [.map none, .map none, .map none] := ⟨_, Tryz.zeroValue107, rfl⟩
instance : TIn Tryz.prog 107 3 24 (.agg #[.map none, .map none, .map none]) := ⟨_, rfl, rfl, rfl, rfl, rfl, by decide⟩
instance : TSz Tryz.prog 108 2 := ⟨Tryz.sizeOf108⟩
instance : TAgg Tryz.prog 108 true := ⟨Tryz.isAgg108⟩
instance : TPl Tryz.prog 108 [(0, 1), (1, 1)] := ⟨_, Tryz.underlying108, fun w => by simp [List.mapM_cons]⟩
instance : TFd Tryz.prog 108 0 0 9 := ⟨_, _, Tryz.underlying108, rfl, rfl, rfl, fun w => ⟨0, Tryz.sizeOf9 w⟩⟩
instance : TFd Tryz.prog 108 1 1 3 := ⟨_, _, Tryz.underlying108, rfl, rfl, rfl, fun w => ⟨0, Tryz.sizeOf3 w⟩⟩
instance : TZ Tryz.prog 108 (.agg #[.string ⟨#[]⟩, .int .i64 0]) := ⟨Tryz.zeroValue108⟩
instance : TZL Tryz.prog 108 [.string ⟨#[]⟩, .int .i64 0] := ⟨_, Tryz.zeroValue108, rfl⟩
instance : TIn Tryz.prog 108 2 24 (.agg #[.string ⟨#[]⟩, .int .i64 0]) := ⟨_, rfl, rfl, rfl, rfl, rfl, by decide⟩
instance : TSz Tryz.prog 109 2 := ⟨Tryz.sizeOf109⟩
instance : TAgg Tryz.prog 109 true := ⟨Tryz.isAgg109⟩
instance : TPl Tryz.prog 109 [(0, 1), (1, 1)] := ⟨_, Tryz.underlying109, fun w => by simp [List.mapM_cons]⟩
instance : TFd Tryz.prog 109 0 0 9 := ⟨_, _, Tryz.underlying109, rfl, rfl, rfl, fun w => ⟨0, Tryz.sizeOf9 w⟩⟩
instance : TFd Tryz.prog 109 1 1 3 := ⟨_, _, Tryz.underlying109, rfl, rfl, rfl, fun w => ⟨0, Tryz.sizeOf3 w⟩⟩
instance : TZ Tryz.prog 109 (.agg #[.string ⟨#[]⟩, .int .i64 0]) := ⟨Tryz.zeroValue109⟩
instance : TZL Tryz.prog 109 [.string ⟨#[]⟩, .int .i64 0] := ⟨_, Tryz.zeroValue109, rfl⟩
instance : TIn Tryz.prog 109 2 24 (.agg #[.string ⟨#[]⟩, .int .i64 0]) := ⟨_, rfl, rfl, rfl, rfl, rfl, by decide⟩
instance : TSz Tryz.prog 110 1 := ⟨Tryz.sizeOf110⟩
instance : TAgg Tryz.prog 110 false := ⟨Tryz.isAgg110⟩
instance : TZ Tryz.prog 110 (.nilFunc) := ⟨Tryz.zeroValue110⟩
instance : TZL Tryz.prog 110 [.nilFunc] := ⟨_, Tryz.zeroValue110, rfl⟩
instance : TIn Tryz.prog 110 1 8 (.nilFunc) := ⟨_, rfl, rfl, rfl, rfl, rfl, by decide⟩
instance : TSz Tryz.prog 111 1 := ⟨Tryz.sizeOf111⟩
instance : TAgg Tryz.prog 111 false := ⟨Tryz.isAgg111⟩
instance : TZ Tryz.prog 111 (.nilFunc) := ⟨Tryz.zeroValue111⟩
instance : TZL Tryz.prog 111 [.nilFunc] := ⟨_, Tryz.zeroValue111, rfl⟩
instance : TIn Tryz.prog 111 1 8 (.nilFunc) := ⟨_, rfl, rfl, rfl, rfl, rfl, by decide⟩
instance : TSz Tryz.prog 112 1 := ⟨Tryz.sizeOf112⟩
instance : TAgg Tryz.prog 112 false := ⟨Tryz.isAgg112⟩
instance : TZ Tryz.prog 112 (.nilFunc) := ⟨Tryz.zeroValue112⟩
instance : TZL Tryz.prog 112 [.nilFunc] := ⟨_, Tryz.zeroValue112, rfl⟩
instance : TIn Tryz.prog 112 1 8 (.nilFunc) := ⟨_, rfl, rfl, rfl, rfl, rfl, by decide⟩
instance : TSz Tryz.prog 113 1 := ⟨Tryz.sizeOf113⟩
instance : TAgg Tryz.prog 113 false := ⟨Tryz.isAgg113⟩
instance : TZ Tryz.prog 113 (.nilFunc) := ⟨Tryz.zeroValue113⟩
instance : TZL Tryz.prog 113 [.nilFunc] := ⟨_, Tryz.zeroValue113, rfl⟩
instance : TIn Tryz.prog 113 1 8 (.nilFunc) := ⟨_, rfl, rfl, rfl, rfl, rfl, by decide⟩
instance : TSz Tryz.prog 114 1 := ⟨Tryz.sizeOf114⟩
instance : TAgg Tryz.prog 114 false := ⟨Tryz.isAgg114⟩
instance : TZ Tryz.prog 114 (.nilFunc) := ⟨Tryz.zeroValue114⟩
instance : TZL Tryz.prog 114 [.nilFunc] := ⟨_, Tryz.zeroValue114, rfl⟩
instance : TIn Tryz.prog 114 1 8 (.nilFunc) := ⟨_, rfl, rfl, rfl, rfl, rfl, by decide⟩
instance : TSz Tryz.prog 115 1 := ⟨Tryz.sizeOf115⟩
instance : TAgg Tryz.prog 115 false := ⟨Tryz.isAgg115⟩
instance : TZ Tryz.prog 115 (.nilFunc) := ⟨Tryz.zeroValue115⟩
instance : TZL Tryz.prog 115 [.nilFunc] := ⟨_, Tryz.zeroValue115, rfl⟩
instance : TIn Tryz.prog 115 1 8 (.nilFunc) := ⟨_, rfl, rfl, rfl, rfl, rfl, by decide⟩
instance : TSz Tryz.prog 116 1 := ⟨Tryz.sizeOf116⟩
instance : TAgg Tryz.prog 116 false := ⟨Tryz.isAgg116⟩
instance : TZ Tryz.prog 116 (.nilFunc) := ⟨Tryz.zeroValue116⟩
instance : TZL Tryz.prog 116 [.nilFunc] := ⟨_, Tryz.zeroValue116, rfl⟩
instance : TIn Tryz.prog 116 1 8 (.nilFunc) := ⟨_, rfl, rfl, rfl, rfl, rfl, by decide⟩
instance : TSz Tryz.prog 118 1 := ⟨Tryz.sizeOf118⟩
instance : TAgg Tryz.prog 118 false := ⟨Tryz.isAgg118⟩
instance : TZ Tryz.prog 118 (.nilFunc) := ⟨Tryz.zeroValue118⟩
instance : TZL Tryz.prog 118 [.nilFunc] := ⟨_, Tryz.zeroValue118, rfl⟩
instance : TIn Tryz.prog 118 1 8 (.nilFunc) := ⟨_, rfl, rfl, rfl, rfl, rfl, by decide⟩
instance : TSz Tryz.prog 119 1 := ⟨Tryz.sizeOf119⟩
instance : TAgg Tryz.prog 119 false := ⟨Tryz.isAgg119⟩
instance : TZ Tryz.prog 119 (.nilFunc) := ⟨Tryz.zeroValue119⟩
instance : TZL Tryz.prog 119 [.nilFunc] := ⟨_, Tryz.zeroValue119, rfl⟩
instance : TIn Tryz.prog 119 1 8 (.nilFunc) := ⟨_, rfl, rfl, rfl, rfl, rfl, by decide⟩
instance : TSz Tryz.prog 120 1 := ⟨Tryz.sizeOf120⟩
instance : TAgg Tryz.prog 120 false := ⟨Tryz.isAgg120⟩
instance : TZ Tryz.prog 120 (.nilFunc) := ⟨Tryz.zeroValue120⟩
instance : TZL Tryz.prog 120 [.nilFunc] := ⟨_, Tryz.zeroValue120, rfl⟩
instance : TIn Tryz.prog 120 1 8 (.nilFunc) := ⟨_, rfl, rfl, rfl, rfl, rfl, by decide⟩
instance : TSz Tryz.prog 121 4 := ⟨Tryz.sizeOf121⟩
instance : TAgg Tryz.prog 121 true := ⟨Tryz.isAgg121⟩
instance : TPl Tryz.prog 121 [(0, 3), (3, 1)] := ⟨_, Tryz.underlying121, fun w => by simp [List.mapM_cons]⟩
instance : TFd Tryz.prog 121 0 0 29 := ⟨_, _, Tryz.underlying121, rfl, rfl, rfl, fun w => ⟨2, Tryz.sizeOf29 w⟩⟩
instance : TFd Tryz.prog 121 1 3 3 := ⟨_, _, Tryz.underlying121, rfl, rfl, rfl, fun w => ⟨0, Tryz.sizeOf3 w⟩⟩
instance : TZ Tryz.prog 121 (.agg #[.int .i64 0, .int .i64 0, .int .i64 0, .int .i64 0]) := ⟨Tryz.zeroValue121⟩
instance : TZL Tryz.prog 121 [.int .i64 0, .int .i64 0, .int .i64 0, .int .i64 0] := ⟨_, Tryz.zeroValue121, rfl⟩
instance : TIn Tryz.prog 121 4 32 (.agg #[.int .i64 0, .int .i64 0, .int .i64 0, .int .i64 0]) := ⟨_, rfl, rfl, rfl, rfl, rfl, by decide⟩
instance : TSz Tryz.prog 122 1 := ⟨Tryz.sizeOf122⟩
instance : TAgg Tryz.prog 122 false := ⟨Tryz.isAgg122⟩
instance : TZ Tryz.prog 122 (.nilFunc) := ⟨Tryz.zeroValue122⟩
instance : TZL Tryz.prog 122 [.nilFunc] := ⟨_, Tryz.zeroValue122, rfl⟩
instance : TIn Tryz.prog 122 1 8 (.nilFunc) := ⟨_, rfl, rfl, rfl, rfl, rfl, by decide⟩
instance : TSz Tryz.prog 123 1 := ⟨Tryz.sizeOf123⟩
instance : TAgg Tryz.prog 123 false := ⟨Tryz.isAgg123⟩
instance : TZ Tryz.prog 123 (.nilFunc) := ⟨Tryz.zeroValue123⟩
instance : TZL Tryz.prog 123 [.nilFunc] := ⟨_, Tryz.zeroValue123, rfl⟩
instance : TIn Tryz.prog 123 1 8 (.nilFunc) := ⟨_, rfl, rfl, rfl, rfl, rfl, by decide⟩
instance : TSz Tryz.prog 124 1 := ⟨Tryz.sizeOf124⟩
instance : TAgg Tryz.prog 124 false := ⟨Tryz.isAgg124⟩
instance : TZ Tryz.prog 124 (.nilFunc) := ⟨Tryz.zeroValue124⟩
instance : TZL Tryz.prog 124 [.nilFunc] := ⟨_, Tryz.zeroValue124, rfl⟩
instance : TIn Tryz.prog 124 1 8 (.nilFunc) := ⟨_, rfl, rfl, rfl, rfl, rfl, by decide⟩
instance : TSz Tryz.prog 126 1 := ⟨Tryz.sizeOf126⟩
instance : TAgg Tryz.prog 126 false := ⟨Tryz.isAgg126⟩
instance : TZ Tryz.prog 126 (.nilFunc) := ⟨Tryz.zeroValue126⟩
instance : TZL Tryz.prog 126 [.nilFunc] := ⟨_, Tryz.zeroValue126, rfl⟩
instance : TIn Tryz.prog 126 1 8 (.nilFunc) := ⟨_, rfl, rfl, rfl, rfl, rfl, by decide⟩
instance : TSz Tryz.prog 127 1 := ⟨Tryz.sizeOf127⟩
instance : TAgg Tryz.prog 127 false := ⟨Tryz.isAgg127⟩
instance : TZ Tryz.prog 127 (.nilFunc) := ⟨Tryz.zeroValue127⟩
instance : TZL Tryz.prog 127 [.nilFunc] := ⟨_, Tryz.zeroValue127, rfl⟩
instance : TIn Tryz.prog 127 1 8 (.nilFunc) := ⟨_, rfl, rfl, rfl, rfl, rfl, by decide⟩
instance : TSz Tryz.prog 128 1 := ⟨Tryz.sizeOf128⟩
instance : TAgg Tryz.prog 128 false := ⟨Tryz.isAgg128⟩
instance : TZ Tryz.prog 128 (.nilFunc) := ⟨Tryz.zeroValue128⟩
instance : TZL Tryz.prog 128 [.nilFunc] := ⟨_, Tryz.zeroValue128, rfl⟩
instance : TIn Tryz.prog 128 1 8 (.nilFunc) := ⟨_, rfl, rfl, rfl, rfl, rfl, by decide⟩
instance : TSz Tryz.prog 130 3 := ⟨Tryz.sizeOf130⟩
instance : TAgg Tryz.prog 130 true := ⟨Tryz.isAgg130⟩
instance : TPl Tryz.prog 130 [(0, 1), (1, 1), (2, 1)] := ⟨_, Tryz.underlying130, fun w => by simp [List.mapM_cons]⟩
instance : TFd Tryz.prog 130 0 0 3 := ⟨_, _, Tryz.underlying130, rfl, rfl, rfl, fun w => ⟨0, Tryz.sizeOf3 w⟩⟩
instance : TFd Tryz.prog 130 1 1 3 := ⟨_, _, Tryz.underlying130, rfl, rfl, rfl, fun w => ⟨0, Tryz.sizeOf3 w⟩⟩
instance : TFd Tryz.prog 130 2 2 3 := ⟨_, _, Tryz.underlying130, rfl, rfl, rfl, fun w => ⟨0, Tryz.sizeOf3 w⟩⟩
instance : TZ Tryz.prog 130 (.agg #[.int .i64 0, .int .i64 0, .int .i64 0]) := ⟨Tryz.zeroValue130⟩
instance : TZL Tryz.prog 130 [.int .i64 0, .int .i64 0, .int .i64 0] := ⟨_, Tryz.zeroValue130, rfl⟩
instance : TIn Tryz.prog 130 3 24 (.agg #[.int .i64 0, .int .i64 0, .int .i64 0]) := ⟨_, rfl, rfl, rfl, rfl, rfl, by decide⟩
instance : TSz Tryz.prog 131 3 := ⟨Tryz.sizeOf131⟩
instance : TAgg Tryz.prog 131 true := ⟨Tryz.isAgg131⟩
instance : TPl Tryz.prog 131 [(0, 1), (1, 1), (2, 1)] := ⟨_, Tryz.underlying131, fun w => by simp [List.mapM_cons]⟩
instance : TFd Tryz.prog 131 0 0 3 := ⟨_, _, Tryz.underlying131, rfl, rfl, rfl, fun w => ⟨0, Tryz.sizeOf3 w⟩⟩
instance : TFd Tryz.prog 131 1 1 3 := ⟨_, _, Tryz.underlying131, rfl, rfl, rfl, fun w => ⟨0, Tryz.sizeOf3 w⟩⟩
instance : TFd Tryz.prog 131 2 2 3 := ⟨_, _, Tryz.underlying131, rfl, rfl, rfl, fun w => ⟨0, Tryz.sizeOf3 w⟩⟩
instance : TZ Tryz.prog 131 (.agg #[.int .i64 0, .int .i64 0, .int .i64 0]) := ⟨Tryz.zeroValue131⟩
instance : TZL Tryz.prog 131 [.int .i64 0, .int .i64 0, .int .i64 0] := ⟨_, Tryz.zeroValue131, rfl⟩
instance : TIn Tryz.prog 131 3 24 (.agg #[.int .i64 0, .int .i64 0, .int .i64 0]) := ⟨_, rfl, rfl, rfl, rfl, rfl, by decide⟩
instance : TSz Tryz.prog 133 1 := ⟨Tryz.sizeOf133⟩
instance : TAgg Tryz.prog 133 false := ⟨Tryz.isAgg133⟩
instance : TZ Tryz.prog 133 (.nilFunc) := ⟨Tryz.zeroValue133⟩
instance : TZL Tryz.prog 133 [.nilFunc] := ⟨_, Tryz.zeroValue133, rfl⟩
instance : TIn Tryz.prog 133 1 8 (.nilFunc) := ⟨_, rfl, rfl, rfl, rfl, rfl, by decide⟩
instance : TSz Tryz.prog 134 1 := ⟨Tryz.sizeOf134⟩
instance : TAgg Tryz.prog 134 false := ⟨Tryz.isAgg134⟩
instance : TZ Tryz.prog 134 (.nilFunc) := ⟨Tryz.zeroValue134⟩
instance : TZL Tryz.prog 134 [.nilFunc] := ⟨_, Tryz.zeroValue134, rfl⟩
instance : TIn Tryz.prog 134 1 8 (.nilFunc) := ⟨_, rfl, rfl, rfl, rfl, rfl, by decide⟩
instance : TSz Tryz.prog 135 1 := ⟨Tryz.sizeOf135⟩
instance : TAgg Tryz.prog 135 false := ⟨Tryz.isAgg135⟩
instance : TZ Tryz.prog 135 (.nilFunc) := ⟨Tryz.zeroValue135⟩
instance : TZL Tryz.prog 135 [.nilFunc] := ⟨_, Tryz.zeroValue135, rfl⟩
instance : TIn Tryz.prog 135 1 8 (.nilFunc) := ⟨_, rfl, rfl, rfl, rfl, rfl, by decide⟩
instance : TSz Tryz.prog 136 1 := ⟨Tryz.sizeOf136⟩
instance : TAgg Tryz.prog 136 false := ⟨Tryz.isAgg136⟩
instance : TZ Tryz.prog 136 (.nilFunc) := ⟨Tryz.zeroValue136⟩
instance : TZL Tryz.prog 136 [.nilFunc] := ⟨_, Tryz.zeroValue136, rfl⟩
instance : TIn Tryz.prog 136 1 8 (.nilFunc) := ⟨_, rfl, rfl, rfl, rfl, rfl, by decide⟩
instance : TSz Tryz.prog 137 1 := ⟨Tryz.sizeOf137⟩
instance : TAgg Tryz.prog 137 false := ⟨Tryz.isAgg137⟩
instance : TZ Tryz.prog 137 (.nilFunc) := ⟨Tryz.zeroValue137⟩
instance : TZL Tryz.prog 137 [.nilFunc] := ⟨_, Tryz.zeroValue137, rfl⟩
instance : TIn Tryz.prog 137 1 8 (.nilFunc) := ⟨_, rfl, rfl, rfl, rfl, rfl, by decide⟩
instance : TSz Tryz.prog 138 1 := ⟨Tryz.sizeOf138⟩
instance : TAgg Tryz.prog 138 false := ⟨Tryz.isAgg138⟩
instance : TZ Tryz.prog 138 (.nilFunc) := ⟨Tryz.zeroValue138⟩
instance : TZL Tryz.prog 138 [.nilFunc] := ⟨_, Tryz.zeroValue138, rfl⟩
instance : TIn Tryz.prog 138 1 8 (.nilFunc) := ⟨_, rfl, rfl, rfl, rfl, rfl, by decide⟩
instance : TSz Tryz.prog 139 1 := ⟨Tryz.sizeOf139⟩
instance : TAgg Tryz.prog 139 false := ⟨Tryz.isAgg139⟩
instance : TZ Tryz.prog 139 (.nilFunc) := ⟨Tryz.zeroValue139⟩
instance : TZL Tryz.prog 139 [.nilFunc] := ⟨_, Tryz.zeroValue139, rfl⟩
instance : TIn Tryz.prog 139 1 8 (.nilFunc) := ⟨_, rfl, rfl, rfl, rfl, rfl, by decide⟩
instance : TSz Tryz.prog 140 1 := ⟨Tryz.sizeOf140⟩
instance : TAgg Tryz.prog 140 false := ⟨Tryz.isAgg140⟩
instance : TZ Tryz.prog 140 (.nilFunc) := ⟨Tryz.zeroValue140⟩
instance : TZL Tryz.prog 140 [.nilFunc] := ⟨_, Tryz.zeroValue140, rfl⟩
instance : TIn Tryz.prog 140 1 8 (.nilFunc) := ⟨_, rfl, rfl, rfl, rfl, rfl, by decide⟩
instance : TSz Tryz.prog 141 1 := ⟨Tryz.sizeOf141⟩
instance : TAgg Tryz.prog 141 false := ⟨Tryz.isAgg141⟩
instance : TZ Tryz.prog 141 (.nilFunc) := ⟨Tryz.zeroValue141⟩
instance : TZL Tryz.prog 141 [.nilFunc] := ⟨_, Tryz.zeroValue141, rfl⟩
instance : TIn Tryz.prog 141 1 8 (.nilFunc) := ⟨_, rfl, rfl, rfl, rfl, rfl, by decide⟩
instance : TSz Tryz.prog 142 1 := ⟨Tryz.sizeOf142⟩
instance : TAgg Tryz.prog 142 false := ⟨Tryz.isAgg142⟩
instance : TZ Tryz.prog 142 (.nilFunc) := ⟨Tryz.zeroValue142⟩
instance : TZL Tryz.prog 142 [.nilFunc] := ⟨_, Tryz.zeroValue142, rfl⟩
instance : TIn Tryz.prog 142 1 8 (.nilFunc) := ⟨_, rfl, rfl, rfl, rfl, rfl, by decide⟩
instance : TSz Tryz.prog 144 1 := ⟨Tryz.sizeOf144⟩
instance : TAgg Tryz.prog 144 false := ⟨Tryz.isAgg144⟩
instance : TZ Tryz.prog 144 (.nilFunc) := ⟨Tryz.zeroValue144⟩
instance : TZL Tryz.prog 144 [.nilFunc] := ⟨_, Tryz.zeroValue144, rfl⟩
instance : TIn Tryz.prog 144 1 8 (.nilFunc) := ⟨_, rfl, rfl, rfl, rfl, rfl, by decide⟩
instance : TSz Tryz.prog 145 1 := ⟨Tryz.sizeOf145⟩
instance : TAgg Tryz.prog 145 false := ⟨Tryz.isAgg145⟩
instance : TZ Tryz.prog 145 (.nilFunc) := ⟨Tryz.zeroValue145⟩
instance : TZL Tryz.prog 145 [.nilFunc] := ⟨_, Tryz.zeroValue145, rfl⟩
instance : TIn Tryz.prog 145 1 8 (.nilFunc) := ⟨_, rfl, rfl, rfl, rfl, rfl, by decide⟩
instance : TSz Tryz.prog 146 1 := ⟨Tryz.sizeOf146⟩
instance : TAgg Tryz.prog 146 false := ⟨Tryz.isAgg146⟩
instance : TZ Tryz.prog 146 (.nilFunc) := ⟨Tryz.zeroValue146⟩
instance : TZL Tryz.prog 146 [.nilFunc] := ⟨_, Tryz.zeroValue146, rfl⟩
instance : TIn Tryz.prog 146 1 8 (.nilFunc) := ⟨_, rfl, rfl, rfl, rfl, rfl, by decide⟩
instance : TSz Tryz.prog 147 1 := ⟨Tryz.sizeOf147⟩
instance : TAgg Tryz.prog 147 false := ⟨Tryz.isAgg147⟩
instance : TZ Tryz.prog 147 (.nilFunc) := ⟨Tryz.zeroValue147⟩
instance : TZL Tryz.prog 147 [.nilFunc] := ⟨_, Tryz.zeroValue147, rfl⟩
instance : TIn Tryz.prog 147 1 8 (.nilFunc) := ⟨_, rfl, rfl, rfl, rfl, rfl, by decide⟩
instance : TSz Tryz.prog 148 1 := ⟨Tryz.sizeOf148⟩
instance : TAgg Tryz.prog 148 false := ⟨Tryz.isAgg148⟩
instance : TZ Tryz.prog 148 (.nilFunc) := ⟨Tryz.zeroValue148⟩
instance : TZL Tryz.prog 148 [.nilFunc] := ⟨_, Tryz.zeroValue148, rfl⟩
instance : TIn Tryz.prog 148 1 8 (.nilFunc) := ⟨_, rfl, rfl, rfl, rfl, rfl, by decide⟩
instance : TSz Tryz.prog 149 1 := ⟨Tryz.sizeOf149⟩
instance : TAgg Tryz.prog 149 false := ⟨Tryz.isAgg149⟩
instance : TZ Tryz.prog 149 (.nilFunc) := ⟨Tryz.zeroValue149⟩
instance : TZL Tryz.prog 149 [.nilFunc] := ⟨_, Tryz.zeroValue149, rfl⟩
instance : TIn Tryz.prog 149 1 8 (.nilFunc) := ⟨_, rfl, rfl, rfl, rfl, rfl, by decide⟩
instance : TSz Tryz.prog 150 1 := ⟨Tryz.sizeOf150⟩
instance : TAgg Tryz.prog 150 false := ⟨Tryz.isAgg150⟩
instance : TZ Tryz.prog 150 (.nilFunc) := ⟨Tryz.zeroValue150⟩
instance : TZL Tryz.prog 150 [.nilFunc] := ⟨_, Tryz.zeroValue150, rfl⟩
instance : TIn Tryz.prog 150 1 8 (.nilFunc) := ⟨_, rfl, rfl, rfl, rfl, rfl, by decide⟩
instance : TSz Tryz.prog 151 1 := ⟨Tryz.sizeOf151⟩
instance : TAgg Tryz.prog 151 false := ⟨Tryz.isAgg151⟩
instance : TZ Tryz.prog 151 (.nilFunc) := ⟨Tryz.zeroValue151⟩
instance : TZL Tryz.prog 151 [.nilFunc] := ⟨_, Tryz.zeroValue151, rfl⟩
instance : TIn Tryz.prog 151 1 8 (.nilFunc) := ⟨_, rfl, rfl, rfl, rfl, rfl, by decide⟩
instance : TSz Tryz.prog 152 1 := ⟨Tryz.sizeOf152⟩
instance : TAgg Tryz.prog 152 false := ⟨Tryz.isAgg152⟩
instance : TZ Tryz.prog 152 (.nilFunc) := ⟨Tryz.zeroValue152⟩
instance : TZL Tryz.prog 152 [.nilFunc] := ⟨_, Tryz.zeroValue152, rfl⟩
instance : TIn Tryz.prog 152 1 8 (.nilFunc) := ⟨_, rfl, rfl, rfl, rfl, rfl, by decide⟩
instance : TSz Tryz.prog 153 1 := ⟨Tryz.sizeOf153⟩
instance : TAgg Tryz.prog 153 false := ⟨Tryz.isAgg153⟩
instance : TZ Tryz.prog 153 (.nilFunc) := ⟨Tryz.zeroValue153⟩
instance : TZL Tryz.prog 153 [.nilFunc] := ⟨_, Tryz.zeroValue153, rfl⟩
instance : TIn Tryz.prog 153 1 8 (.nilFunc) := ⟨_, rfl, rfl, rfl, rfl, rfl, by decide⟩
instance : TSz Tryz.prog 154 3 := ⟨Tryz.sizeOf154⟩
instance : TAgg Tryz.prog 154 true := ⟨Tryz.isAgg154⟩
instance : TPl Tryz.prog 154 [(0, 1), (1, 1), (2, 1)] := ⟨_, Tryz.underlying154, fun w => by simp [List.mapM_cons]⟩
instance : TFd Tryz.prog 154 0 0 3 := ⟨_, _, Tryz.underlying154, rfl, rfl, rfl, fun w => ⟨0, Tryz.sizeOf3 w⟩⟩
instance : TFd Tryz.prog 154 1 1 3 := ⟨_, _, Tryz.underlying154, rfl, rfl, rfl, fun w => ⟨0, Tryz.sizeOf3 w⟩⟩
instance : TFd Tryz.prog 154 2 2 3 := ⟨_, _, Tryz.underlying154, rfl, rfl, rfl, fun w => ⟨0, Tryz.sizeOf3 w⟩⟩
instance : TZ Tryz.prog 154 (.agg #[.int .i64 0, .int .i64 0, .int .i64 0]) := ⟨Tryz.zeroValue154⟩
instance : TZL Tryz.prog 154 [.int .i64 0, .int .i64 0, .int .i64 0] := ⟨_, Tryz.zeroValue154, rfl⟩
instance : TIn Tryz.prog 154 3 24 (.agg #[.int .i64 0, .int .i64 0, .int .i64 0]) := ⟨_, rfl, rfl, rfl, rfl, rfl, by decide⟩
instance : TSz Tryz.prog 156 1 := ⟨Tryz.sizeOf156⟩
instance : TAgg Tryz.prog 156 false := ⟨Tryz.isAgg156⟩
instance : TZ Tryz.prog 156 (.nilFunc) := ⟨Tryz.zeroValue156⟩
instance : TZL Tryz.prog 156 [.nilFunc] := ⟨_, Tryz.zeroValue156, rfl⟩
instance : TIn Tryz.prog 156 1 8 (.nilFunc) := ⟨_, rfl, rfl, rfl, rfl, rfl, by decide⟩
instance : TSz Tryz.prog 157 1 := ⟨Tryz.sizeOf157⟩
instance : TAgg Tryz.prog 157 false := ⟨Tryz.isAgg157⟩
instance : TZ Tryz.prog 157 (.nilFunc) := ⟨Tryz.zeroValue157⟩
instance : TZL Tryz.prog 157 [.nilFunc] := ⟨_, Tryz.zeroValue157, rfl⟩
instance : TIn Tryz.prog 157 1 8 (.nilFunc) := ⟨_, rfl, rfl, rfl, rfl, rfl, by decide⟩
instance : TSz Tryz.prog 158 1 := ⟨Tryz.sizeOf158⟩
instance : TAgg Tryz.prog 158 false := ⟨Tryz.isAgg158⟩
instance : TZ Tryz.prog 158 (.nilFunc) := ⟨Tryz.zeroValue158⟩
instance : TZL Tryz.prog 158 [.nilFunc] := ⟨_, Tryz.zeroValue158, rfl⟩
instance : TIn Tryz.prog 158 1 8 (.nilFunc) := ⟨_, rfl, rfl, rfl, rfl, rfl, by decide⟩
instance : TSz Tryz.prog 159 1 := ⟨Tryz.sizeOf159⟩
instance : TAgg Tryz.prog 159 false := ⟨Tryz.isAgg159⟩
instance : TSl Tryz.prog 159 30 := ⟨Tryz.underlying159⟩
instance : TZ Tryz.prog 159 (.slice none 0 0) := ⟨Tryz.zeroValue159⟩
instance : TZL Tryz.prog 159 [.slice none 0 0] := ⟨_, Tryz.zeroValue159, rfl⟩
instance : TIn Tryz.prog 159 1 24 (.slice none 0 0) := ⟨_, rfl, rfl, rfl, rfl, rfl, by decide⟩
instance : TSz Tryz.prog 160 1 := ⟨Tryz.sizeOf160⟩
instance : TAgg Tryz.prog 160 false := ⟨Tryz.isAgg160⟩
instance : TZ Tryz.prog 160 (.nilFunc) := ⟨Tryz.zeroValue160⟩
instance : TZL Tryz.prog 160 [.nilFunc] := ⟨_, Tryz.zeroValue160, rfl⟩
instance : TIn Tryz.prog 160 1 8 (.nilFunc) := ⟨_, rfl, rfl, rfl, rfl, rfl, by decide⟩
instance : TSz Tryz.prog 161 1 := ⟨Tryz.sizeOf161⟩
instance : TAgg Tryz.prog 161 false := ⟨Tryz.isAgg161⟩
instance : TZ Tryz.prog 161 (.nilFunc) := ⟨Tryz.zeroValue161⟩
instance : TZL Tryz.prog 161 [.nilFunc] := ⟨_, Tryz.zeroValue161, rfl⟩
instance : TIn Tryz.prog 161 1 8 (.nilFunc) := ⟨_, rfl, rfl, rfl, rfl, rfl, by decide⟩
instance : TSz Tryz.prog 162 1 := ⟨Tryz.sizeOf162⟩
instance : TAgg Tryz.prog 162 false := ⟨Tryz.isAgg162⟩
instance : TZ Tryz.prog 162 (.nilFunc) := ⟨Tryz.zeroValue162⟩
instance : TZL Tryz.prog 162 [.nilFunc] := ⟨_, Tryz.zeroValue162, rfl⟩
instance : TIn Tryz.prog 162 1 8 (.nilFunc) := ⟨_, rfl, rfl, rfl, rfl, rfl, by decide⟩
instance : TSz Tryz.prog 163 1 := ⟨Tryz.sizeOf163⟩
instance : TAgg Tryz.prog 163 false := ⟨Tryz.isAgg163⟩
instance : TIt Tryz.prog 163 .u64 := ⟨Tryz.underlying163⟩
instance : TZ Tryz.prog 163 (.int .u64 0) := ⟨Tryz.zeroValue163⟩
instance : TZL Tryz.prog 163 [.int .u64 0] := ⟨_, Tryz.zeroValue163, rfl⟩
instance : TIn Tryz.prog 163 1 8 (.int .u64 0) := ⟨_, rfl, rfl, rfl, rfl, rfl, by decide⟩
instance : TSz Tryz.prog 165 1 := ⟨Tryz.sizeOf165⟩
instance : TAgg Tryz.prog 165 false := ⟨Tryz.isAgg165⟩
instance : TZ Tryz.prog 165 (.nilFunc) := ⟨Tryz.zeroValue165⟩
instance : TZL Tryz.prog 165 [.nilFunc] := ⟨_, Tryz.zeroValue165, rfl⟩
instance : TIn Tryz.prog 165 1 8 (.nilFunc) := ⟨_, rfl, rfl, rfl, rfl, rfl, by decide⟩
instance : TSz Tryz.prog 166 1 := ⟨Tryz.sizeOf166⟩
instance : TAgg Tryz.prog 166 false := ⟨Tryz.isAgg166⟩
instance : TZ Tryz.prog 166 (.nilFunc) := ⟨Tryz.zeroValue166⟩
instance : TZL Tryz.prog 166 [.nilFunc] := ⟨_, Tryz.zeroValue166, rfl⟩
instance : TIn Tryz.prog 166 1 8 (.nilFunc) := ⟨_, rfl, rfl, rfl, rfl, rfl, by decide⟩
instance : TSz Tryz.prog 168 1 := ⟨Tryz.sizeOf168⟩
instance : TAgg Tryz.prog 168 false := ⟨Tryz.isAgg168⟩
instance : TZ Tryz.prog 168 (.nilFunc) := ⟨Tryz.zeroValue168⟩
instance : TZL Tryz.prog 168 [.nilFunc] := ⟨_, Tryz.zeroValue168, rfl⟩
instance : TIn Tryz.prog 168 1 8 (.nilFunc) := ⟨_, rfl, rfl, rfl, rfl, rfl, by decide⟩
instance : TSz Tryz.prog 169 1 := ⟨Tryz.sizeOf169⟩
instance : TAgg Tryz.prog 169 false := ⟨Tryz.isAgg169⟩
instance : TZ Tryz.prog 169 (.nilFunc) := ⟨Tryz.zeroValue169⟩
instance : TZL Tryz.prog 169 [.nilFunc] := ⟨_, Tryz.zeroValue169, rfl⟩
instance : TIn Tryz.prog 169 1 8 (.nilFunc) := ⟨_, rfl, rfl, rfl, rfl, rfl, by decide⟩
instance : TSz Tryz.prog 170 1 := ⟨Tryz.sizeOf170⟩
instance : TAgg Tryz.prog 170 false := ⟨Tryz.isAgg170⟩
instance : TZ Tryz.prog 170 (.nilFunc) := ⟨Tryz.zeroValue170⟩
instance : TZL Tryz.prog 170 [.nilFunc] := ⟨_, Tryz.zeroValue170, rfl⟩
instance : TIn Tryz.prog 170 1 8 (.nilFunc) := ⟨_, rfl, rfl, rfl, rfl, rfl, by decide⟩
instance : TSz Tryz.prog 171 1 := ⟨Tryz.sizeOf171⟩
instance : TAgg Tryz.prog 171 false := ⟨Tryz.isAgg171⟩
instance : TZ Tryz.prog 171 (.nilFunc) := ⟨Tryz.zeroValue171⟩
instance : TZL Tryz.prog 171 [.nilFunc] := ⟨_, Tryz.zeroValue171, rfl⟩
instance : TIn Tryz.prog 171 1 8 (.nilFunc) := ⟨_, rfl, rfl, rfl, rfl, rfl, by decide⟩
instance : TSz Tryz.prog 172 1 := ⟨Tryz.sizeOf172⟩
instance : TAgg Tryz.prog 172 false := ⟨Tryz.isAgg172⟩
instance : TZ Tryz.prog 172 (.nilFunc) := ⟨Tryz.zeroValue172⟩
instance : TZL Tryz.prog 172 [.nilFunc] := ⟨_, Tryz.zeroValue172, rfl⟩
instance : TIn Tryz.prog 172 1 8 (.nilFunc) := ⟨_, rfl, rfl, rfl, rfl, rfl, by decide⟩
instance : TSz Tryz.prog 174 1 := ⟨Tryz.sizeOf174⟩
instance : TAgg Tryz.prog 174 false := ⟨Tryz.isAgg174⟩
instance : TZ Tryz.prog 174 (.nilFunc) := ⟨Tryz.zeroValue174⟩
instance : TZL Tryz.prog 174 [.nilFunc] := ⟨_, Tryz.zeroValue174, rfl⟩
instance : TIn Tryz.prog 174 1 8 (.nilFunc) := ⟨_, rfl, rfl, rfl, rfl, rfl, by decide⟩
instance : TSz Tryz.prog 175 1 := ⟨Tryz.sizeOf175⟩
instance : TAgg Tryz.prog 175 false := ⟨Tryz.isAgg175⟩
instance : TZ Tryz.prog 175 (.nilFunc) := ⟨Tryz.zeroValue175⟩
instance : TZL Tryz.prog 175 [.nilFunc] := ⟨_, Tryz.zeroValue175, rfl⟩
instance : TIn Tryz.prog 175 1 8 (.nilFunc) := ⟨_, rfl, rfl, rfl, rfl, rfl, by decide⟩
instance : TSz Tryz.prog 176 1 := ⟨Tryz.sizeOf176⟩
instance : TAgg Tryz.prog 176 false := ⟨Tryz.isAgg176⟩
instance : TZ Tryz.prog 176 (.nilFunc) := ⟨Tryz.zeroValue176⟩
instance : TZL Tryz.prog 176 [.nilFunc] := ⟨_, Tryz.zeroValue176, rfl⟩
instance : TIn Tryz.prog 176 1 8 (.nilFunc) := ⟨_, rfl, rfl, rfl, rfl, rfl, by decide⟩
instance : TSz Tryz.prog 177 1 := ⟨Tryz.sizeOf177⟩
instance : TAgg Tryz.prog 177 false := ⟨Tryz.isAgg177⟩
instance : TZ Tryz.prog 177 (.nilFunc) := ⟨Tryz.zeroValue177⟩
instance : TZL Tryz.prog 177 [.nilFunc] := ⟨_, Tryz.zeroValue177, rfl⟩
instance : TIn Tryz.prog 177 1 8 (.nilFunc) := ⟨_, rfl, rfl, rfl, rfl, rfl, by decide⟩
instance : TSz Tryz.prog 178 1 := ⟨Tryz.sizeOf178⟩
instance : TAgg Tryz.prog 178 false := ⟨Tryz.isAgg178⟩
instance : TZ Tryz.prog 178 (.nilFunc) := ⟨Tryz.zeroValue178⟩
instance : TZL Tryz.prog 178 [.nilFunc] := ⟨_, Tryz.zeroValue178, rfl⟩
instance : TIn Tryz.prog 178 1 8 (.nilFunc) := ⟨_, rfl, rfl, rfl, rfl, rfl, by decide⟩
instance : TSz Tryz.prog 180 1 := ⟨Tryz.sizeOf180⟩
instance : TAgg Tryz.prog 180 false := ⟨Tryz.isAgg180⟩
instance : TZ Tryz.prog 180 (.nilFunc) := ⟨Tryz.zeroValue180⟩
instance : TZL Tryz.prog 180 [.nilFunc] := ⟨_, Tryz.zeroValue180, rfl⟩
instance : TIn Tryz.prog 180 1 8 (.nilFunc) := ⟨_, rfl, rfl, rfl, rfl, rfl, by decide⟩
instance : TSz Tryz.prog 181 1 := ⟨Tryz.sizeOf181⟩
instance : TAgg Tryz.prog 181 false := ⟨Tryz.isAgg181⟩
instance : TZ Tryz.prog 181 (.nilFunc) := ⟨Tryz.zeroValue181⟩
instance : TZL Tryz.prog 181 [.nilFunc] := ⟨_, Tryz.zeroValue181, rfl⟩
instance : TIn Tryz.prog 181 1 8 (.nilFunc) := ⟨_, rfl, rfl, rfl, rfl, rfl, by decide⟩
instance : TSz Tryz.prog 182 1 := ⟨Tryz.sizeOf182⟩
instance : TAgg Tryz.prog 182 false := ⟨Tryz.isAgg182⟩
instance : TZ Tryz.prog 182 (.nilFunc) := ⟨Tryz.zeroValue182⟩
instance : TZL Tryz.prog 182 [.nilFunc] := ⟨_, Tryz.zeroValue182, rfl⟩
instance : TIn Tryz.prog 182 1 8 (.nilFunc) := ⟨_, rfl, rfl, rfl, rfl, rfl, by decide⟩
instance : TSz Tryz.prog 183 1 := ⟨Tryz.sizeOf183⟩
instance : TAgg Tryz.prog 183 false := ⟨Tryz.isAgg183⟩
instance : TZ Tryz.prog 183 (.nilFunc) := ⟨Tryz.zeroValue183⟩
instance : TZL Tryz.prog 183 [.nilFunc] := ⟨_, Tryz.zeroValue183, rfl⟩
instance : TIn Tryz.prog 183 1 8 (.nilFunc) := ⟨_, rfl, rfl, rfl, rfl, rfl, by decide⟩
instance : TSz Tryz.prog 184 1 := ⟨Tryz.sizeOf184⟩
instance : TAgg Tryz.prog 184 false := ⟨Tryz.isAgg184⟩
instance : TIt Tryz.prog 184 .i64 := ⟨Tryz.underlying184⟩
instance : TZ Tryz.prog 184 (.int .i64 0) := ⟨Tryz.zeroValue184⟩
instance : TZL Tryz.prog 184 [.int .i64 0] := ⟨_, Tryz.zeroValue184, rfl⟩
instance : TIn Tryz.prog 184 1 8 (.int .i64 0) := ⟨_, rfl, rfl, rfl, rfl, rfl, by decide⟩
instance : TSz Tryz.prog 186 1 := ⟨Tryz.sizeOf186⟩
instance : TAgg Tryz.prog 186 false := ⟨Tryz.isAgg186⟩
instance : TZ Tryz.prog 186 (.nilFunc) := ⟨Tryz.zeroValue186⟩
instance : TZL Tryz.prog 186 [.nilFunc] := ⟨_, Tryz.zeroValue186, rfl⟩
instance : TIn Tryz.prog 186 1 8 (.nilFunc) := ⟨_, rfl, rfl, rfl, rfl, rfl, by decide⟩
instance : TSz Tryz.prog 187 1 := ⟨Tryz.sizeOf187⟩
instance : TAgg Tryz.prog 187 false := ⟨Tryz.isAgg187⟩
instance : TZ Tryz.prog 187 (.nilFunc) := ⟨Tryz.zeroValue187⟩
instance : TZL Tryz.prog 187 [.nilFunc] := ⟨_, Tryz.zeroValue187, rfl⟩
instance : TIn Tryz.prog 187 1 8 (.nilFunc) := ⟨_, rfl, rfl, rfl, rfl, rfl, by decide⟩
instance : TSz Tryz.prog 188 1 := ⟨Tryz.sizeOf188⟩
instance : TAgg Tryz.prog 188 false := ⟨Tryz.isAgg188⟩
instance : TZ Tryz.prog 188 (.nilFunc) := ⟨Tryz.zeroValue188⟩
instance : TZL Tryz.prog 188 [.nilFunc] := ⟨_, Tryz.zeroValue188, rfl⟩
instance : TIn Tryz.prog 188 1 8 (.nilFunc) := ⟨_, rfl, rfl, rfl, rfl, rfl, by decide⟩
instance : TSz Tryz.prog 189 1 := ⟨Tryz.sizeOf189⟩
instance : TAgg Tryz.prog 189 false := ⟨Tryz.isAgg189⟩
instance : TZ Tryz.prog 189 (.nilFunc) := ⟨Tryz.zeroValue189⟩
instance : TZL Tryz.prog 189 [.nilFunc] := ⟨_, Tryz.zeroValue189, rfl⟩
instance : TIn Tryz.prog 189 1 8 (.nilFunc) := ⟨_, rfl, rfl, rfl, rfl, rfl, by decide⟩
instance : TSz Tryz.prog 190 1 := ⟨Tryz.sizeOf190⟩
instance : TAgg Tryz.prog 190 false := ⟨Tryz.isAgg190⟩
instance : TZ Tryz.prog 190 (.nilFunc) := ⟨Tryz.zeroValue190⟩
instance : TZL Tryz.prog 190 [.nilFunc] := ⟨_, Tryz.zeroValue190, rfl⟩
instance : TIn Tryz.prog 190 1 8 (.nilFunc) := ⟨_, rfl, rfl, rfl, rfl, rfl, by decide⟩
instance : TSz Tryz.prog 191 1 := ⟨Tryz.sizeOf191⟩
instance : TAgg Tryz.prog 191 false := ⟨Tryz.isAgg191⟩
instance : TZ Tryz.prog 191 (.nilFunc) := ⟨Tryz.zeroValue191⟩
instance : TZL Tryz.prog 191 [.nilFunc] := ⟨_, Tryz.zeroValue191, rfl⟩
instance : TIn Tryz.prog 191 1 8 (.nilFunc) := ⟨_, rfl, rfl, rfl, rfl, rfl, by decide⟩
instance : TSz Tryz.prog 192 1 := ⟨Tryz.sizeOf192⟩
instance : TAgg Tryz.prog 192 false := ⟨Tryz.isAgg192⟩
instance : TIt Tryz.prog 192 .u32 := ⟨Tryz.underlying192⟩
instance : TZ Tryz.prog 192 (.int .u32 0) := ⟨Tryz.zeroValue192⟩
instance : TZL Tryz.prog 192 [.int .u32 0] := ⟨_, Tryz.zeroValue192, rfl⟩
instance : TIn Tryz.prog 192 1 4 (.int .u32 0) := ⟨_, rfl, rfl, rfl, rfl, rfl, by decide⟩
instance : TSz Tryz.prog 193 1 := ⟨Tryz.sizeOf193⟩
instance : TAgg Tryz.prog 193 false := ⟨Tryz.isAgg193⟩
instance : TZ Tryz.prog 193 (.nilFunc) := ⟨Tryz.zeroValue193⟩
instance : TZL Tryz.prog 193 [.nilFunc] := ⟨_, Tryz.zeroValue193, rfl⟩
instance : TIn Tryz.prog 193 1 8 (.nilFunc) := ⟨_, rfl, rfl, rfl, rfl, rfl, by decide⟩
instance : TSz Tryz.prog 194 1 := ⟨Tryz.sizeOf194⟩
instance : TAgg Tryz.prog 194 false := ⟨Tryz.isAgg194⟩
instance : TIt Tryz.prog 194 .u64 := ⟨Tryz.underlying194⟩
instance : TZ Tryz.prog 194 (.int .u64 0) := ⟨Tryz.zeroValue194⟩
instance : TZL Tryz.prog 194 [.int .u64 0] := ⟨_, Tryz.zeroValue194, rfl⟩
instance : TIn Tryz.prog 194 1 8 (.int .u64 0) := ⟨_, rfl, rfl, rfl, rfl, rfl, by decide⟩
instance : TSz Tryz.prog 195 1 := ⟨Tryz.sizeOf195⟩
instance : TAgg Tryz.prog 195 false := ⟨Tryz.isAgg195⟩
instance : TZ Tryz.prog 195 (.nilIface) := ⟨Tryz.zeroValue195⟩
instance : TZL Tryz.prog 195 [.nilIface] := ⟨_, Tryz.zeroValue195, rfl⟩
instance : TIn Tryz.prog 195 1 16 (.nilIface) := ⟨_, rfl, rfl, rfl, rfl, rfl, by decide⟩
instance : TSz Tryz.prog 196 1 := ⟨Tryz.sizeOf196⟩
instance : TAgg Tryz.prog 196 false := ⟨Tryz.isAgg196⟩
instance : TZ Tryz.prog 196 (.nilIface) := ⟨Tryz.zeroValue196⟩
instance : TZL Tryz.prog 196 [.nilIface] := ⟨_, Tryz.zeroValue196, rfl⟩
instance : TIn Tryz.prog 196 1 16 (.nilIface) := ⟨_, rfl, rfl, rfl, rfl, rfl, by decide⟩
instance : TSz Tryz.prog 198 1 := ⟨Tryz.sizeOf198⟩
instance : TAgg Tryz.prog 198 false := ⟨Tryz.isAgg198⟩
instance : TZ Tryz.prog 198 (.nilFunc) := ⟨Tryz.zeroValue198⟩
instance : TZL Tryz.prog 198 [.nilFunc] := ⟨_, Tryz.zeroValue198, rfl⟩
instance : TIn Tryz.prog 198 1 8 (.nilFunc) := ⟨_, rfl, rfl, rfl, rfl, rfl, by decide⟩
instance : TSz Tryz.prog 199 1 := ⟨Tryz.sizeOf199⟩
instance : TAgg Tryz.prog 199 false := ⟨Tryz.isAgg199⟩
instance : TZ Tryz.prog 199 (.nilFunc) := ⟨Tryz.zeroValue199⟩
instance : TZL Tryz.prog 199 [.nilFunc] := ⟨_, Tryz.zeroValue199, rfl⟩
instance : TIn Tryz.prog 199 1 8 (.nilFunc) := ⟨_, rfl, rfl, rfl, rfl, rfl, by decide⟩
instance : TSz Tryz.prog 200 1 := ⟨Tryz.sizeOf200⟩
instance : TAgg Tryz.prog 200 false := ⟨Tryz.isAgg200⟩
instance : TZ Tryz.prog 200 (.nilFunc) := ⟨Tryz.zeroValue200⟩
instance : TZL Tryz.prog 200 [.nilFunc] := ⟨_, Tryz.zeroValue200, rfl⟩
instance : TIn Tryz.prog 200 1 8 (.nilFunc) := ⟨_, rfl, rfl, rfl, rfl, rfl, by decide⟩
instance : TSz Tryz.prog 201 1 := ⟨Tryz.sizeOf201⟩
instance : TAgg Tryz.prog 201 false := ⟨Tryz.isAgg201⟩
instance : TZ Tryz.prog 201 (.nilFunc) := ⟨Tryz.zeroValue201⟩
instance : TZL Tryz.prog 201 [.nilFunc] := ⟨_, Tryz.zeroValue201, rfl⟩
instance : TIn Tryz.prog 201 1 8 (.nilFunc) := ⟨_, rfl, rfl, rfl, rfl, rfl, by decide⟩
instance : TSz Tryz.prog 202 1 := ⟨Tryz.sizeOf202⟩
instance : TAgg Tryz.prog 202 false := ⟨Tryz.isAgg202⟩
instance : TZ Tryz.prog 202 (.nilFunc) := ⟨Tryz.zeroValue202⟩
instance : TZL Tryz.prog 202 [.nilFunc] := ⟨_, Tryz.zeroValue202, rfl⟩
instance : TIn Tryz.prog 202 1 8 (.nilFunc) := ⟨_, rfl, rfl, rfl, rfl, rfl, by decide⟩
instance : TSz Tryz.prog 203 1 := ⟨Tryz.sizeOf203⟩
instance : TAgg Tryz.prog 203 false := ⟨Tryz.isAgg203⟩
instance : TZ Tryz.prog 203 (.nilFunc) := ⟨Tryz.zeroValue203⟩
instance : TZL Tryz.prog 203 [.nilFunc] := ⟨_, Tryz.zeroValue203, rfl⟩
instance : TIn Tryz.prog 203 1 8 (.nilFunc) := ⟨_, rfl, rfl, rfl, rfl, rfl, by decide⟩
instance : TSz Tryz.prog 204 1 := ⟨Tryz.sizeOf204⟩
instance : TAgg Tryz.prog 204 false := ⟨Tryz.isAgg204⟩
instance : TZ Tryz.prog 204 (.nilFunc) := ⟨Tryz.zeroValue204⟩
instance : TZL Tryz.prog 204 [.nilFunc] := ⟨_, Tryz.zeroValue204, rfl⟩
instance : TIn Tryz.prog 204 1 8 (.nilFunc) := ⟨_, rfl, rfl, rfl, rfl, rfl, by decide⟩
instance : TSz Tryz.prog 205 1 := ⟨Tryz.sizeOf205⟩
instance : TAgg Tryz.prog 205 false := ⟨Tryz.isAgg205⟩
instance : TIt Tryz.prog 205 .u64 := ⟨Tryz.underlying205⟩
instance : TZ Tryz.prog 205 (.int .u64 0) := ⟨Tryz.zeroValue205⟩
instance : TZL Tryz.prog 205 [.int .u64 0] := ⟨_, Tryz.zeroValue205, rfl⟩
instance : TIn Tryz.prog 205 1 8 (.int .u64 0) := ⟨_, rfl, rfl, rfl, rfl, rfl, by decide⟩
instance : TSz Tryz.prog 206 1 := ⟨Tryz.sizeOf206⟩
instance : TAgg Tryz.prog 206 false := ⟨Tryz.isAgg206⟩
instance : TZ Tryz.prog 206 (.nilFunc) := ⟨Tryz.zeroValue206⟩
instance : TZL Tryz.prog 206 [.nilFunc] := ⟨_, Tryz.zeroValue206, rfl⟩
instance : TIn Tryz.prog 206 1 8 (.nilFunc) := ⟨_, rfl, rfl, rfl, rfl, rfl, by decide⟩
instance : TSz Tryz.prog 207 1 := ⟨Tryz.sizeOf207⟩
instance : TAgg Tryz.prog 207 false := ⟨Tryz.isAgg207⟩
instance : TZ Tryz.prog 207 (.nilFunc) := ⟨Tryz.zeroValue207⟩
instance : TZL Tryz.prog 207 [.nilFunc] := ⟨_, Tryz.zeroValue207, rfl⟩
instance : TIn Tryz.prog 207 1 8 (.nilFunc) := ⟨_, rfl, rfl, rfl, rfl, rfl, by decide⟩
instance : TSz Tryz.prog 208 1 := ⟨Tryz.sizeOf208⟩
instance : TAgg Tryz.prog 208 false := ⟨Tryz.isAgg208⟩
instance : TZ Tryz.prog 208 (.nilFunc) := ⟨Tryz.zeroValue208⟩
instance : TZL Tryz.prog 208 [.nilFunc] := ⟨_, Tryz.zeroValue208, rfl⟩
instance : TIn Tryz.prog 208 1 8 (.nilFunc) := ⟨_, rfl, rfl, rfl, rfl, rfl, by decide⟩
instance : TSz Tryz.prog 209 1 := ⟨Tryz.sizeOf209⟩
instance : TAgg Tryz.prog 209 false := ⟨Tryz.isAgg209⟩
instance : TPt Tryz.prog 209 := ⟨_, Tryz.underlying209⟩
instance : TZ Tryz.prog 209 (.pointer none) := ⟨Tryz.zeroValue209⟩
instance : TZL Tryz.prog 209 [.pointer none] := ⟨_, Tryz.zeroValue209, rfl⟩
instance : TIn Tryz.prog 209 1 8 (.pointer none) := ⟨_, rfl, rfl, rfl, rfl, rfl, by decide⟩
instance : TSz Tryz.prog 210 1 := ⟨Tryz.sizeOf210⟩
instance : TAgg Tryz.prog 210 false := ⟨Tryz.isAgg210⟩
instance : TZ Tryz.prog 210 (.nilFunc) := ⟨Tryz.zeroValue210⟩
instance : TZL Tryz.prog 210 [.nilFunc] := ⟨_, Tryz.zeroValue210, rfl⟩
instance : TIn Tryz.prog 210 1 8 (.nilFunc) := ⟨_, rfl, rfl, rfl, rfl, rfl, by decide⟩
instance : TSz Tryz.prog 211 1 := ⟨Tryz.sizeOf211⟩
instance : TAgg Tryz.prog 211 false := ⟨Tryz.isAgg211⟩
instance : TZ Tryz.prog 211 (.nilFunc) := ⟨Tryz.zeroValue211⟩
instance : TZL Tryz.prog 211 [.nilFunc] := ⟨_, Tryz.zeroValue211, rfl⟩
instance : TIn Tryz.prog 211 1 8 (.nilFunc) := ⟨_, rfl, rfl, rfl, rfl, rfl, by decide⟩
instance : TSz Tryz.prog 212 1 := ⟨Tryz.sizeOf212⟩
instance : TAgg Tryz.prog 212 false := ⟨Tryz.isAgg212⟩
instance : TZ Tryz.prog 212 (.nilFunc) := ⟨Tryz.zeroValue212⟩
instance : TZL Tryz.prog 212 [.nilFunc] := ⟨_, Tryz.zeroValue212, rfl⟩
instance : TIn Tryz.prog 212 1 8 (.nilFunc) := ⟨_, rfl, rfl, rfl, rfl, rfl, by decide⟩
instance : TSz Tryz.prog 213 1 := ⟨Tryz.sizeOf213⟩
instance : TAgg Tryz.prog 213 false := ⟨Tryz.isAgg213⟩
instance : TZ Tryz.prog 213 (.nilFunc) := ⟨Tryz.zeroValue213⟩
instance : TZL Tryz.prog 213 [.nilFunc] := ⟨_, Tryz.zeroValue213, rfl⟩
instance : TIn Tryz.prog 213 1 8 (.nilFunc) := ⟨_, rfl, rfl, rfl, rfl, rfl, by decide⟩
instance : TSz Tryz.prog 214 1 := ⟨Tryz.sizeOf214⟩
instance : TAgg Tryz.prog 214 false := ⟨Tryz.isAgg214⟩
instance : TZ Tryz.prog 214 (.nilFunc) := ⟨Tryz.zeroValue214⟩
instance : TZL Tryz.prog 214 [.nilFunc] := ⟨_, Tryz.zeroValue214, rfl⟩
instance : TIn Tryz.prog 214 1 8 (.nilFunc) := ⟨_, rfl, rfl, rfl, rfl, rfl, by decide⟩
instance : TSz Tryz.prog 215 1 := ⟨Tryz.sizeOf215⟩
instance : TAgg Tryz.prog 215 false := ⟨Tryz.isAgg215⟩
instance : TSl Tryz.prog 215 5 := ⟨Tryz.underlying215⟩
instance : TZ Tryz.prog 215 (.slice none 0 0) := ⟨Tryz.zeroValue215⟩
instance : TZL Tryz.prog 215 [.slice none 0 0] := ⟨_, Tryz.zeroValue215, rfl⟩
instance : TIn Tryz.prog 215 1 24 (.slice none 0 0) := ⟨_, rfl, rfl, rfl, rfl, rfl, by decide⟩
instance : TSz Tryz.prog 216 1 := ⟨Tryz.sizeOf216⟩
instance : TAgg Tryz.prog 216 false := ⟨Tryz.isAgg216⟩
instance : TPt Tryz.prog 216 := ⟨_, Tryz.underlying216⟩
instance : TZ Tryz.prog 216 (.pointer none) := ⟨Tryz.zeroValue216⟩
instance : TZL Tryz.prog 216 [.pointer none] := ⟨_, Tryz.zeroValue216, rfl⟩
instance : TIn Tryz.prog 216 1 8 (.pointer none) := ⟨_, rfl, rfl, rfl, rfl, rfl, by decide⟩
instance : TSz Tryz.prog 217 1 := ⟨Tryz.sizeOf217⟩
instance : TAgg Tryz.prog 217 false := ⟨Tryz.isAgg217⟩
instance : TZ Tryz.prog 217 (.nilFunc) := ⟨Tryz.zeroValue217⟩
instance : TZL Tryz.prog 217 [.nilFunc] := ⟨_, Tryz.zeroValue217, rfl⟩
instance : TIn Tryz.prog 217 1 8 (.nilFunc) := ⟨_, rfl, rfl, rfl, rfl, rfl, by decide⟩
instance : TSz Tryz.prog 218 1 := ⟨Tryz.sizeOf218⟩
instance : TAgg Tryz.prog 218 false := ⟨Tryz.isAgg218⟩
instance : TZ Tryz.prog 218 (.nilFunc) := ⟨Tryz.zeroValue218⟩
instance : TZL Tryz.prog 218 [.nilFunc] := ⟨_, Tryz.zeroValue218, rfl⟩
instance : TIn Tryz.prog 218 1 8 (.nilFunc) := ⟨_, rfl, rfl, rfl, rfl, rfl, by decide⟩
instance : TSz Tryz.prog 219 1 := ⟨Tryz.sizeOf219⟩
instance : TAgg Tryz.prog 219 false := ⟨Tryz.isAgg219⟩
instance : TZ Tryz.prog 219 (.nilFunc) := ⟨Tryz.zeroValue219⟩
instance : TZL Tryz.prog 219 [.nilFunc] := ⟨_, Tryz.zeroValue219, rfl⟩
instance : TIn Tryz.prog 219 1 8 (.nilFunc) := ⟨_, rfl, rfl, rfl, rfl, rfl, by decide⟩
instance : TSz Tryz.prog 220 1 := ⟨Tryz.sizeOf220⟩
instance : TAgg Tryz.prog 220 false := ⟨Tryz.isAgg220⟩
instance : TIt Tryz.prog 220 .i64 := ⟨Tryz.underlying220⟩
instance : TZ Tryz.prog 220 (.int .i64 0) := ⟨Tryz.zeroValue220⟩
instance : TZL Tryz.prog 220 [.int .i64 0] := ⟨_, Tryz.zeroValue220, rfl⟩
instance : TIn Tryz.prog 220 1 8 (.int .i64 0) := ⟨_, rfl, rfl, rfl, rfl, rfl, by decide⟩
instance : TSz Tryz.prog 222 1 := ⟨Tryz.sizeOf222⟩
instance : TAgg Tryz.prog 222 false := ⟨Tryz.isAgg222⟩
instance : TZ Tryz.prog 222 (.nilFunc) := ⟨Tryz.zeroValue222⟩
instance : TZL Tryz.prog 222 [.nilFunc] := ⟨_, Tryz.zeroValue222, rfl⟩
instance : TIn Tryz.prog 222 1 8 (.nilFunc) := ⟨_, rfl, rfl, rfl, rfl, rfl, by decide⟩
instance : TSz Tryz.prog 223 1 := ⟨Tryz.sizeOf223⟩
instance : TAgg Tryz.prog 223 false := ⟨Tryz.isAgg223⟩
instance : TPt Tryz.prog 223 := ⟨_, Tryz.underlying223⟩
instance : TZ Tryz.prog 223 (.pointer none) := ⟨Tryz.zeroValue223⟩
instance : TZL Tryz.prog 223 [.pointer none] := ⟨_, Tryz.zeroValue223, rfl⟩
instance : TIn Tryz.prog 223 1 8 (.pointer none) := ⟨_, rfl, rfl, rfl, rfl, rfl, by decide⟩
instance : TSz Tryz.prog 224 1 := ⟨Tryz.sizeOf224⟩
instance : TAgg Tryz.prog 224 false := ⟨Tryz.isAgg224⟩
instance : TZ Tryz.prog 224 (.nilFunc) := ⟨Tryz.zeroValue224⟩
instance : TZL Tryz.prog 224 [.nilFunc] := ⟨_, Tryz.zeroValue224, rfl⟩
instance : TIn Tryz.prog 224 1 8 (.nilFunc) := ⟨_, rfl, rfl, rfl, rfl, rfl, by decide⟩
instance : TSz Tryz.prog 225 1 := ⟨Tryz.sizeOf225⟩
instance : TAgg Tryz.prog 225 false := ⟨Tryz.isAgg225⟩
instance : TZ Tryz.prog 225 (.nilFunc) := ⟨Tryz.zeroValue225⟩
instance : TZL Tryz.prog 225 [.nilFunc] := ⟨_, Tryz.zeroValue225, rfl⟩
instance : TIn Tryz.prog 225 1 8 (.nilFunc) := ⟨_, rfl, rfl, rfl, rfl, rfl, by decide⟩
instance : TSz Tryz.prog 226 1 := ⟨Tryz.sizeOf226⟩
instance : TAgg Tryz.prog 226 false := ⟨Tryz.isAgg226⟩
instance : TZ Tryz.prog 226 (.nilFunc) := ⟨Tryz.zeroValue226⟩
instance : TZL Tryz.prog 226 [.nilFunc] := ⟨_, Tryz.zeroValue226, rfl⟩
instance : TIn Tryz.prog 226 1 8 (.nilFunc) := ⟨_, rfl, rfl, rfl, rfl, rfl, by decide⟩
instance : TSz Tryz.prog 227 1 := ⟨Tryz.sizeOf227⟩
instance : TAgg Tryz.prog 227 false := ⟨Tryz.isAgg227⟩
instance : TZ Tryz.prog 227 (.nilFunc) := ⟨Tryz.zeroValue227⟩
instance : TZL Tryz.prog 227 [.nilFunc] := ⟨_, Tryz.zeroValue227, rfl⟩
instance : TIn Tryz.prog 227 1 8 (.nilFunc) := ⟨_, rfl, rfl, rfl, rfl, rfl, by decide⟩
instance : TSz Tryz.prog 229 1 := ⟨Tryz.sizeOf229⟩
instance : TAgg Tryz.prog 229 false := ⟨Tryz.isAgg229⟩
instance : TZ Tryz.prog 229 (.nilFunc) := ⟨Tryz.zeroValue229⟩
instance : TZL Tryz.prog 229 [.nilFunc] := ⟨_, Tryz.zeroValue229, rfl⟩
instance : TIn Tryz.prog 229 1 8 (.nilFunc) := ⟨_, rfl, rfl, rfl, rfl, rfl, by decide⟩
instance : TSz Tryz.prog 231 1 := ⟨Tryz.sizeOf231⟩
instance : TAgg Tryz.prog 231 false := ⟨Tryz.isAgg231⟩
instance : TZ Tryz.prog 231 (.nilFunc) := ⟨Tryz.zeroValue231⟩
instance : TZL Tryz.prog 231 [.nilFunc] := ⟨_, Tryz.zeroValue231, rfl⟩
instance : TIn Tryz.prog 231 1 8 (.nilFunc) := ⟨_, rfl, rfl, rfl, rfl, rfl, by decide⟩
instance : TSz Tryz.prog 232 1 := ⟨Tryz.sizeOf232⟩
instance : TAgg Tryz.prog 232 false := ⟨Tryz.isAgg232⟩
instance : TZ Tryz.prog 232 (.nilFunc) := ⟨Tryz.zeroValue232⟩
instance : TZL Tryz.prog 232 [.nilFunc] := ⟨_, Tryz.zeroValue232, rfl⟩
instance : TIn Tryz.prog 232 1 8 (.nilFunc) := ⟨_, rfl, rfl, rfl, rfl, rfl, by decide⟩
instance : TSz Tryz.prog 233 3 := ⟨Tryz.sizeOf233⟩
instance : TAgg Tryz.prog 233 true := ⟨Tryz.isAgg233⟩
instance : TPl Tryz.prog 233 [(0, 1), (1, 1), (2, 1)] := ⟨_, Tryz.underlying233, fun w => by simp [List.mapM_cons]⟩
instance : TFd Tryz.prog 233 0 0 9 := ⟨_, _, Tryz.underlying233, rfl, rfl, rfl, fun w => ⟨0, Tryz.sizeOf9 w⟩⟩
instance : TFd Tryz.prog 233 1 1 9 := ⟨_, _, Tryz.underlying233, rfl, rfl, rfl, fun w => ⟨0, Tryz.sizeOf9 w⟩⟩
instance : TFd Tryz.prog 233 2 2 196 := ⟨_, _, Tryz.underlying233, rfl, rfl, rfl, fun w => ⟨0, Tryz.sizeOf196 w⟩⟩
instance : TZ Tryz.prog 233 (.agg #[.string ⟨#[]⟩, .string ⟨#[]⟩, .nilIface]) := ⟨Tryz.zeroValue233⟩
instance : TZL Tryz.prog 233 [.string ⟨#[]⟩, .string ⟨#[]⟩, .nilIface] := ⟨_, Tryz.zeroValue233, rfl⟩
instance : TIn Tryz.prog 233 3 48 (.agg #[.string ⟨#[]⟩, .string ⟨#[]⟩, .nilIface]) := ⟨_, rfl, rfl, rfl, rfl, rfl, by decide⟩
instance : TSz Tryz.prog 234 3 := ⟨Tryz.sizeOf234⟩
instance : TAgg Tryz.prog 234 true := ⟨Tryz.isAgg234⟩
instance : TPl Tryz.prog 234 [(0, 1), (1, 1), (2, 1)] := ⟨_, Tryz.underlying234, fun w => by simp [List.mapM_cons]⟩
instance : TFd Tryz.prog 234 0 0 9 := ⟨_, _, Tryz.underlying234, rfl, rfl, rfl, fun w => ⟨0, Tryz.sizeOf9 w⟩⟩
instance : TFd Tryz.prog 234 1 1 9 := ⟨_, _, Tryz.underlying234, rfl, rfl, rfl, fun w => ⟨0, Tryz.sizeOf9 w⟩⟩
instance : TFd Tryz.prog 234 2 2 196 := ⟨_, _, Tryz.underlying234, rfl, rfl, rfl, fun w => ⟨0, Tryz.sizeOf196 w⟩⟩
instance : TZ Tryz.prog 234 (.agg #[.string ⟨#[]⟩, .string ⟨#[]⟩, .nilIface]) := ⟨Tryz.zeroValue234⟩
instance : TZL Tryz.prog 234 [.string ⟨#[]⟩, .string ⟨#[]⟩, .nilIface] := ⟨_, Tryz.zeroValue234, rfl⟩
instance : TIn Tryz.prog 234 3 48 (.agg #[.string ⟨#[]⟩, .string ⟨#[]⟩, .nilIface]) := ⟨_, rfl, rfl, rfl, rfl, rfl, by decide⟩
instance : TSz Tryz.prog 235 1 := ⟨Tryz.sizeOf235⟩
instance : TAgg Tryz.prog 235 false := ⟨Tryz.isAgg235⟩
instance : TZ Tryz.prog 235 (.nilFunc) := ⟨Tryz.zeroValue235⟩
instance : TZL Tryz.prog 235 [.nilFunc] := ⟨_, Tryz.zeroValue235, rfl⟩
instance : TIn Tryz.prog 235 1 8 (.nilFunc) := ⟨_, rfl, rfl, rfl, rfl, rfl, by decide⟩
instance : TSz Tryz.prog 236 24 := ⟨Tryz.sizeOf236⟩
instance : TAgg Tryz.prog 236 true := ⟨Tryz.isAgg236⟩
instance : TSz Tryz.prog 237 1 := ⟨Tryz.sizeOf237⟩
instance : TAgg Tryz.prog 237 false := ⟨Tryz.isAgg237⟩
instance : TZ Tryz.prog 237 (.nilFunc) := ⟨Tryz.zeroValue237⟩
instance : TZL Tryz.prog 237 [.nilFunc] := ⟨_, Tryz.zeroValue237, rfl⟩
instance : TIn Tryz.prog 237 1 8 (.nilFunc) := ⟨_, rfl, rfl, rfl, rfl, rfl, by decide⟩
instance : TSz Tryz.prog 239 1 := ⟨Tryz.sizeOf239⟩
instance : TAgg Tryz.prog 239 false := ⟨Tryz.isAgg239⟩
instance : TZ Tryz.prog 239 (.nilFunc) := ⟨Tryz.zeroValue239⟩
instance : TZL Tryz.prog 239 [.nilFunc] := ⟨_, Tryz.zeroValue239, rfl⟩
instance : TIn Tryz.prog 239 1 8 (.nilFunc) := ⟨_, rfl, rfl, rfl, rfl, rfl, by decide⟩
instance : TSz Tryz.prog 240 1 := ⟨Tryz.sizeOf240⟩
instance : TAgg Tryz.prog 240 false := ⟨Tryz.isAgg240⟩
instance : TZ Tryz.prog 240 (.nilFunc) := ⟨Tryz.zeroValue240⟩
instance : TZL Tryz.prog 240 [.nilFunc] := ⟨_, Tryz.zeroValue240, rfl⟩
instance : TIn Tryz.prog 240 1 8 (.nilFunc) := ⟨_, rfl, rfl, rfl, rfl, rfl, by decide⟩
instance : TSz Tryz.prog 241 1 := ⟨Tryz.sizeOf241⟩
instance : TAgg Tryz.prog 241 false := ⟨Tryz.isAgg241⟩
instance : TPt Tryz.prog 241 := ⟨_, Tryz.underlying241⟩
instance : TZ Tryz.prog 241 (.pointer none) := ⟨Tryz.zeroValue241⟩
instance : TZL Tryz.prog 241 [.pointer none] := ⟨_, Tryz.zeroValue241, rfl⟩
instance : TIn Tryz.prog 241 1 8 (.pointer none) := ⟨_, rfl, rfl, rfl, rfl, rfl, by decide⟩
instance : TSz Tryz.prog 242 1 := ⟨Tryz.sizeOf242⟩
instance : TAgg Tryz.prog 242 false := ⟨Tryz.isAgg242⟩
instance : TPt Tryz.prog 242 := ⟨_, Tryz.underlying242⟩
instance : TZ Tryz.prog 242 (.pointer none) := ⟨Tryz.zeroValue242⟩
instance : TZL Tryz.prog 242 [.pointer none] := ⟨_, Tryz.zeroValue242, rfl⟩
instance : TIn Tryz.prog 242 1 8 (.pointer none) := ⟨_, rfl, rfl, rfl, rfl, rfl, by decide⟩
instance : TSz Tryz.prog 243 1 := ⟨Tryz.sizeOf243⟩
instance : TAgg Tryz.prog 243 true := ⟨Tryz.isAgg243⟩
instance : TPl Tryz.prog 243 [(0, 1)] := ⟨_, Tryz.underlying243, fun w => by simp [List.mapM_cons]⟩
instance : TFd Tryz.prog 243 0 0 9 := ⟨_, _, Tryz.underlying243, rfl, rfl, rfl, fun w => ⟨0, Tryz.sizeOf9 w⟩⟩
instance : TZ Tryz.prog 243 (.agg #[.string ⟨#[]⟩]) := ⟨Tryz.zeroValue243⟩
instance : TZL Tryz.prog 243 [.string ⟨#[]⟩] := ⟨_, Tryz.zeroValue243, rfl⟩
instance : TIn Tryz.prog 243 1 16 (.agg #[.string ⟨#[]⟩]) := ⟨_, rfl, rfl, rfl, rfl, rfl, by decide⟩
instance : TSz Tryz.prog 244 1 := ⟨Tryz.sizeOf244⟩
instance : TAgg Tryz.prog 244 true := ⟨Tryz.isAgg244⟩
instance : TPl Tryz.prog 244 [(0, 1)] := ⟨_, Tryz.underlying244, fun w => by simp [List.mapM_cons]⟩
instance : TFd Tryz.prog 244 0 0 9 := ⟨_, _, Tryz.underlying244, rfl, rfl, rfl, fun w => ⟨0, Tryz.sizeOf9 w⟩⟩
instance : TZ Tryz.prog 244 (.agg #[.string ⟨#[]⟩]) := ⟨Tryz.zeroValue244⟩
instance : TZL Tryz.prog 244 [.string ⟨#[]⟩] := ⟨_, Tryz.zeroValue244, rfl⟩
instance : TIn Tryz.prog 244 1 16 (.agg #[.string ⟨#[]⟩]) := ⟨_, rfl, rfl, rfl, rfl, rfl, by decide⟩
instance : TSz Tryz.prog 245 1 := ⟨Tryz.sizeOf245⟩
instance : TAgg Tryz.prog 245 false := ⟨Tryz.isAgg245⟩
instance : TZ Tryz.prog 245 (.nilFunc) := ⟨Tryz.zeroValue245⟩
instance : TZL Tryz.prog 245 [.nilFunc] := ⟨_, Tryz.zeroValue245, rfl⟩
instance : TIn Tryz.prog 245 1 8 (.nilFunc) := ⟨_, rfl, rfl, rfl, rfl, rfl, by decide⟩
instance : TSz Tryz.prog 246 20 := ⟨Tryz.sizeOf246⟩
instance : TAgg Tryz.prog 246 true := ⟨Tryz.isAgg246⟩
instance : TSz Tryz.prog 247 65 := ⟨Tryz.sizeOf247⟩
instance : TAgg Tryz.prog 247 true := ⟨Tryz.isAgg247⟩
instance : TSz Tryz.prog 248 32 := ⟨Tryz.sizeOf248⟩
instance : TAgg Tryz.prog 248 true := ⟨Tryz.isAgg248⟩
instance : TSz Tryz.prog 249 64 := ⟨Tryz.sizeOf249⟩
instance : TAgg Tryz.prog 249 true := ⟨Tryz.isAgg249⟩
instance : TSz Tryz.prog 250 1 := ⟨Tryz.sizeOf250⟩
instance : TAgg Tryz.prog 250 false := ⟨Tryz.isAgg250⟩
instance : TZ Tryz.prog 250 (.nilFunc) := ⟨Tryz.zeroValue250⟩
instance : TZL Tryz.prog 250 [.nilFunc] := ⟨_, Tryz.zeroValue250, rfl⟩
instance : TIn Tryz.prog 250 1 8 (.nilFunc) := ⟨_, rfl, rfl, rfl, rfl, rfl, by decide⟩
instance : TSz Tryz.prog 251 4 := ⟨Tryz.sizeOf251⟩
instance : TAgg Tryz.prog 251 true := ⟨Tryz.isAgg251⟩
instance : TPl Tryz.prog 251 [(0, 1), (1, 1), (2, 1), (3, 1)] := ⟨_, Tryz.underlying251, fun w => by simp [List.mapM_cons]⟩
instance : TFd Tryz.prog 251 0 0 17 := ⟨_, _, Tryz.underlying251, rfl, rfl, rfl, fun w => ⟨0, Tryz.sizeOf17 w⟩⟩
instance : TFd Tryz.prog 251 1 1 17 := ⟨_, _, Tryz.underlying251, rfl, rfl, rfl, fun w => ⟨0, Tryz.sizeOf17 w⟩⟩
instance : TFd Tryz.prog 251 2 2 17 := ⟨_, _, Tryz.underlying251, rfl, rfl, rfl, fun w => ⟨0, Tryz.sizeOf17 w⟩⟩
instance : TFd Tryz.prog 251 3 3 9 := ⟨_, _, Tryz.underlying251, rfl, rfl, rfl, fun w => ⟨0, Tryz.sizeOf9 w⟩⟩
instance : TZ Tryz.prog 251 (.agg #[.pointer none, .pointer none, .pointer none, .string ⟨#[]⟩]) := ⟨Tryz.zeroValue251⟩
instance : TZL Tryz.prog 251 [.pointer none, .pointer none, .pointer none, .string ⟨#[]⟩] := ⟨_, Tryz.zeroValue251, rfl⟩
instance : TIn Tryz.prog 251 4 40 (.agg #[.pointer none, .pointer none, .pointer none, .string ⟨#[]⟩]) := ⟨_, rfl, rfl, rfl, rfl, rfl, by decide⟩
instance : TSz Tryz.prog 252 4 := ⟨Tryz.sizeOf252⟩
instance : TAgg Tryz.prog 252 true := ⟨Tryz.isAgg252⟩
instance : TPl Tryz.prog 252 [(0, 1), (1, 1), (2, 1), (3, 1)] := ⟨_, Tryz.underlying252, fun w => by simp [List.mapM_cons]⟩
instance : TFd Tryz.prog 252 0 0 17 := ⟨_, _, Tryz.underlying252, rfl, rfl, rfl, fun w => ⟨0, Tryz.sizeOf17 w⟩⟩
instance : TFd Tryz.prog 252 1 1 17 := ⟨_, _, Tryz.underlying252, rfl, rfl, rfl, fun w => ⟨0, Tryz.sizeOf17 w⟩⟩
instance : TFd Tryz.prog 252 2 2 17 := ⟨_, _, Tryz.underlying252, rfl, rfl, rfl, fun w => ⟨0, Tryz.sizeOf17 w⟩⟩
instance : TFd Tryz.prog 252 3 3 9 := ⟨_, _, Tryz.underlying252, rfl, rfl, rfl, fun w => ⟨0, Tryz.sizeOf9 w⟩⟩
instance : TZ Tryz.prog 252 (.agg #[.pointer none, .pointer none, .pointer none, .string ⟨#[]⟩]) := ⟨Tryz.zeroValue252⟩
instance : TZL Tryz.prog 252 [.pointer none, .pointer none, .pointer none, .string ⟨#[]⟩] := ⟨_, Tryz.zeroValue252, rfl⟩
instance : TIn Tryz.prog 252 4 40 (.agg #[.pointer none, .pointer none, .pointer none, .string ⟨#[]⟩]) := ⟨_, rfl, rfl, rfl, rfl, rfl, by decide⟩
instance : TSz Tryz.prog 253 0 := ⟨Tryz.sizeOf253⟩
instance : TAgg Tryz.prog 253 true := ⟨Tryz.isAgg253⟩
instance : TSz Tryz.prog 254 0 := ⟨Tryz.sizeOf254⟩
instance : TAgg Tryz.prog 254 true := ⟨Tryz.isAgg254⟩
instance : TPl Tryz.prog 254 [(0, 0)] := ⟨_, Tryz.underlying254, fun w => by simp [List.mapM_cons]⟩
instance : TSz Tryz.prog 255 0 := ⟨Tryz.sizeOf255⟩
instance : TAgg Tryz.prog 255 true := ⟨Tryz.isAgg255⟩
instance : TPl Tryz.prog 255 [(0, 0)] := ⟨_, Tryz.underlying255, fun w => by simp [List.mapM_cons]⟩
instance : TSz Tryz.prog 256 1 := ⟨Tryz.sizeOf256⟩
instance : TAgg Tryz.prog 256 false := ⟨Tryz.isAgg256⟩
instance : TZ Tryz.prog 256 (.nilFunc) := ⟨Tryz.zeroValue256⟩
instance : TZL Tryz.prog 256 [.nilFunc] := ⟨_, Tryz.zeroValue256, rfl⟩
instance : TIn Tryz.prog 256 1 8 (.nilFunc) := ⟨_, rfl, rfl, rfl, rfl, rfl, by decide⟩
instance : TSz Tryz.prog 257 1 := ⟨Tryz.sizeOf257⟩
instance : TAgg Tryz.prog 257 false := ⟨Tryz.isAgg257⟩
instance : TIt Tryz.prog 257 .u8 := ⟨Tryz.underlying257⟩
instance : TZ Tryz.prog 257 (.int .u8 0) := ⟨Tryz.zeroValue257⟩
instance : TZL Tryz.prog 257 [.int .u8 0] := ⟨_, Tryz.zeroValue257, rfl⟩
instance : TIn Tryz.prog 257 1 1 (.int .u8 0) := ⟨_, rfl, rfl, rfl, rfl, rfl, by decide⟩
instance : TSz Tryz.prog 258 1 := ⟨Tryz.sizeOf258⟩
instance : TAgg Tryz.prog 258 false := ⟨Tryz.isAgg258⟩
instance : TIt Tryz.prog 258 .u8 := ⟨Tryz.underlying258⟩
instance : TZ Tryz.prog 258 (.int .u8 0) := ⟨Tryz.zeroValue258⟩
instance : TZL Tryz.prog 258 [.int .u8 0] := ⟨_, Tryz.zeroValue258, rfl⟩
instance : TIn Tryz.prog 258 1 1 (.int .u8 0) := ⟨_, rfl, rfl, rfl, rfl, rfl, by decide⟩
instance : TSz Tryz.prog 259 1 := ⟨Tryz.sizeOf259⟩
instance : TAgg Tryz.prog 259 false := ⟨Tryz.isAgg259⟩
instance : TZ Tryz.prog 259 (.nilFunc) := ⟨Tryz.zeroValue259⟩
instance : TZL Tryz.prog 259 [.nilFunc] := ⟨_, Tryz.zeroValue259, rfl⟩
instance : TIn Tryz.prog 259 1 8 (.nilFunc) := ⟨_, rfl, rfl, rfl, rfl, rfl, by decide⟩
instance : TSz Tryz.prog 260 1 := ⟨Tryz.sizeOf260⟩
instance : TAgg Tryz.prog 260 false := ⟨Tryz.isAgg260⟩
instance : TIt Tryz.prog 260 .i32 := ⟨Tryz.underlying260⟩
instance : TZ Tryz.prog 260 (.int .i32 0) := ⟨Tryz.zeroValue260⟩
instance : TZL Tryz.prog 260 [.int .i32 0] := ⟨_, Tryz.zeroValue260, rfl⟩
instance : TIn Tryz.prog 260 1 4 (.int .i32 0) := ⟨_, rfl, rfl, rfl, rfl, rfl, by decide⟩
instance : TSz Tryz.prog 261 1 := ⟨Tryz.sizeOf261⟩
instance : TAgg Tryz.prog 261 false := ⟨Tryz.isAgg261⟩
instance : TIt Tryz.prog 261 .i32 := ⟨Tryz.underlying261⟩
instance : TZ Tryz.prog 261 (.int .i32 0) := ⟨Tryz.zeroValue261⟩
instance : TZL Tryz.prog 261 [.int .i32 0] := ⟨_, Tryz.zeroValue261, rfl⟩
instance : TIn Tryz.prog 261 1 4 (.int .i32 0) := ⟨_, rfl, rfl, rfl, rfl, rfl, by decide⟩
instance : TSz Tryz.prog 262 11 := ⟨Tryz.sizeOf262⟩
instance : TAgg Tryz.prog 262 true := ⟨Tryz.isAgg262⟩
instance : TPl Tryz.prog 262 [(0, 1), (1, 1), (2, 1), (3, 1), (4, 1), (5, 1), (6, 1), (7, 1), (8, 1), (9, 1), (10, 1)] := ⟨_, Tryz.underlying262, fun w => by simp [List.mapM_cons]⟩
instance : TFd Tryz.prog 262 0 0 12 := ⟨_, _, Tryz.underlying262, rfl, rfl, rfl, fun w => ⟨0, Tryz.sizeOf12 w⟩⟩
instance : TFd Tryz.prog 262 1 1 12 := ⟨_, _, Tryz.underlying262, rfl, rfl, rfl, fun w => ⟨0, Tryz.sizeOf12 w⟩⟩
instance : TFd Tryz.prog 262 2 2 192 := ⟨_, _, Tryz.underlying262, rfl, rfl, rfl, fun w => ⟨0, Tryz.sizeOf192 w⟩⟩
instance : TFd Tryz.prog 262 3 3 257 := ⟨_, _, Tryz.underlying262, rfl, rfl, rfl, fun w => ⟨0, Tryz.sizeOf257 w⟩⟩
instance : TFd Tryz.prog 262 4 4 5 := ⟨_, _, Tryz.underlying262, rfl, rfl, rfl, fun w => ⟨0, Tryz.sizeOf5 w⟩⟩
instance : TFd Tryz.prog 262 5 5 5 := ⟨_, _, Tryz.underlying262, rfl, rfl, rfl, fun w => ⟨0, Tryz.sizeOf5 w⟩⟩
instance : TFd Tryz.prog 262 6 6 258 := ⟨_, _, Tryz.underlying262, rfl, rfl, rfl, fun w => ⟨0, Tryz.sizeOf258 w⟩⟩
instance : TFd Tryz.prog 262 7 7 259 := ⟨_, _, Tryz.underlying262, rfl, rfl, rfl, fun w => ⟨0, Tryz.sizeOf259 w⟩⟩
instance : TFd Tryz.prog 262 8 8 241 := ⟨_, _, Tryz.underlying262, rfl, rfl, rfl, fun w => ⟨0, Tryz.sizeOf241 w⟩⟩
instance : TFd Tryz.prog 262 9 9 260 := ⟨_, _, Tryz.underlying262, rfl, rfl, rfl, fun w => ⟨0, Tryz.sizeOf260 w⟩⟩
instance : TFd Tryz.prog 262 10 10 261 := ⟨_, _, Tryz.underlying262, rfl, rfl, rfl, fun w => ⟨0, Tryz.sizeOf261 w⟩⟩
instance : TZ Tryz.prog 262 (.agg #[.int .u64 0, .int .u64 0, .int .u32 0, .int .u8 0, .int .u8 0, .int .u8 0, .int .u8 0, .nilFunc, .pointer none, .int .i32 0, .int .i32 0]) := ⟨Tryz.zeroValue262⟩
instance : TZL Tryz.prog 262 [.int .u64 0, .int .u64 0, .int .u32 0, .int .u8 0, .int .u8 0, .int .u8 0, .int .u8 0, .nilFunc, .pointer none, .int .i32 0, .int .i32 0] := ⟨_, Tryz.zeroValue262, rfl⟩
instance : TIn Tryz.prog 262 11 48 (.agg #[.int .u64 0, .int .u64 0, .int .u32 0, .int .u8 0, .int .u8 0, .int .u8 0, .int .u8 0, .nilFunc, .pointer none, .int .i32 0, .int .i32 0]) := ⟨_, rfl, rfl, rfl, rfl, rfl, by decide⟩
instance : TSz Tryz.prog 263 11 := ⟨Tryz.sizeOf263⟩
instance : TAgg Tryz.prog 263 true := ⟨Tryz.isAgg263⟩
instance : TPl Tryz.prog 263 [(0, 1), (1, 1), (2, 1), (3, 1), (4, 1), (5, 1), (6, 1), (7, 1), (8, 1), (9, 1), (10, 1)] := ⟨_, Tryz.underlying263, fun w => by simp [List.mapM_cons]⟩
instance : TFd Tryz.prog 263 0 0 12 := ⟨_, _, Tryz.underlying263, rfl, rfl, rfl, fun w => ⟨0, Tryz.sizeOf12 w⟩⟩
instance : TFd Tryz.prog 263 1 1 12 := ⟨_, _, Tryz.underlying263, rfl, rfl, rfl, fun w => ⟨0, Tryz.sizeOf12 w⟩⟩
instance : TFd Tryz.prog 263 2 2 192 := ⟨_, _, Tryz.underlying263, rfl, rfl, rfl, fun w => ⟨0, Tryz.sizeOf192 w⟩⟩
instance : TFd Tryz.prog 263 3 3 257 := ⟨_, _, Tryz.underlying263, rfl, rfl, rfl, fun w => ⟨0, Tryz.sizeOf257 w⟩⟩
instance : TFd Tryz.prog 263 4 4 5 := ⟨_, _, Tryz.underlying263, rfl, rfl, rfl, fun w => ⟨0, Tryz.sizeOf5 w⟩⟩
instance : TFd Tryz.prog 263 5 5 5 := ⟨_, _, Tryz.underlying263, rfl, rfl, rfl, fun w => ⟨0, Tryz.sizeOf5 w⟩⟩
instance : TFd Tryz.prog 263 6 6 258 := ⟨_, _, Tryz.underlying263, rfl, rfl, rfl, fun w => ⟨0, Tryz.sizeOf258 w⟩⟩
instance : TFd Tryz.prog 263 7 7 259 := ⟨_, _, Tryz.underlying263, rfl, rfl, rfl, fun w => ⟨0, Tryz.sizeOf259 w⟩⟩
instance : TFd Tryz.prog 263 8 8 241 := ⟨_, _, Tryz.underlying263, rfl, rfl, rfl, fun w => ⟨0, Tryz.sizeOf241 w⟩⟩
instance : TFd Tryz.prog 263 9 9 260 := ⟨_, _, Tryz.underlying263, rfl, rfl, rfl, fun w => ⟨0, Tryz.sizeOf260 w⟩⟩
instance : TFd Tryz.prog 263 10 10 261 := ⟨_, _, Tryz.underlying263, rfl, rfl, rfl, fun w => ⟨0, Tryz.sizeOf261 w⟩⟩
instance : TZ Tryz.prog 263 (.agg #[.int .u64 0, .int .u64 0, .int .u32 0, .int .u8 0, .int .u8 0, .int .u8 0, .int .u8 0, .nilFunc, .pointer none, .int .i32 0, .int .i32 0]) := ⟨Tryz.zeroValue263⟩
instance : TZL Tryz.prog 263 [.int .u64 0, .int .u64 0, .int .u32 0, .int .u8 0, .int .u8 0, .int .u8 0, .int .u8 0, .nilFunc, .pointer none, .int .i32 0, .int .i32 0] := ⟨_, Tryz.zeroValue263, rfl⟩
instance : TIn Tryz.prog 263 11 48 (.agg #[.int .u64 0, .int .u64 0, .int .u32 0, .int .u8 0, .int .u8 0, .int .u8 0, .int .u8 0, .nilFunc, .pointer none, .int .i32 0, .int .i32 0]) := ⟨_, rfl, rfl, rfl, rfl, rfl, by decide⟩
instance : TSz Tryz.prog 264 1 := ⟨Tryz.sizeOf264⟩
instance : TAgg Tryz.prog 264 false := ⟨Tryz.isAgg264⟩
instance : TFn Tryz.prog 3 := ⟨Tryz.call3⟩
instance : TBody Tryz.prog 3 Tryz.f3 (Tryz.f3.body.getD .skip) 116 := ⟨Tryz.func3, rfl, Tryz.ntmps3⟩
instance : TFn Tryz.prog 4 := ⟨Tryz.call4⟩
instance : TBody Tryz.prog 4 Tryz.f4 (Tryz.f4.body.getD .skip) 81 := ⟨Tryz.func4, rfl, Tryz.ntmps4⟩
instance : TFn Tryz.prog 5 := ⟨Tryz.call5⟩
instance : TBody Tryz.prog 5 Tryz.f5 (Tryz.f5.body.getD .skip) 168 := ⟨Tryz.func5, rfl, Tryz.ntmps5⟩
instance : TFn Tryz.prog 6 := ⟨Tryz.call6⟩
instance : TBody Tryz.prog 6 Tryz.f6 (Tryz.f6.body.getD .skip) 88 := ⟨Tryz.func6, rfl, Tryz.ntmps6⟩
instance : TFn Tryz.prog 7 := ⟨Tryz.call7⟩
instance : TBody Tryz.prog 7 Tryz.f7 (Tryz.f7.body.getD .skip) 8 := ⟨Tryz.func7, rfl, Tryz.ntmps7⟩
instance : TFn Tryz.prog 8 := ⟨Tryz.call8⟩
instance : TBody Tryz.prog 8 Tryz.f8 (Tryz.f8.body.getD .skip) 50 := ⟨Tryz.func8, rfl, Tryz.ntmps8⟩
instance : TFn Tryz.prog 9 := ⟨Tryz.call9⟩
instance : TBody Tryz.prog 9 Tryz.f9 (Tryz.f9.body.getD .skip) 115 := ⟨Tryz.func9, rfl, Tryz.ntmps9⟩
instance : TFn Tryz.prog 10 := ⟨Tryz.call10⟩
instance : TBody Tryz.prog 10 Tryz.f10 (Tryz.f10.body.getD .skip) 27 := ⟨Tryz.func10, rfl, Tryz.ntmps10⟩
instance : TFn Tryz.prog 11 := ⟨Tryz.call11⟩
instance : TBody Tryz.prog 11 Tryz.f11 (Tryz.f11.body.getD .skip) 30 := ⟨Tryz.func11, rfl, Tryz.ntmps11⟩
instance : TFn Tryz.prog 12 := ⟨Tryz.call12⟩
instance : TBody Tryz.prog 12 Tryz.f12 (Tryz.f12.body.getD .skip) 64 := ⟨Tryz.func12, rfl, Tryz.ntmps12⟩
instance : TFn Tryz.prog 13 := ⟨Tryz.call13⟩
instance : TBody Tryz.prog 13 Tryz.f13 (Tryz.f13.body.getD .skip) 30 := ⟨Tryz.func13, rfl, Tryz.ntmps13⟩
instance : TFn Tryz.prog 14 := ⟨Tryz.call14⟩
instance : TBody Tryz.prog 14 Tryz.f14 (Tryz.f14.body.getD .skip) 31 := ⟨Tryz.func14, rfl, Tryz.ntmps14⟩
instance : TFn Tryz.prog 15 := ⟨Tryz.call15⟩
instance : TBody Tryz.prog 15 Tryz.f15 (Tryz.f15.body.getD .skip) 44 := ⟨Tryz.func15, rfl, Tryz.ntmps15⟩
instance : TFn Tryz.prog 16 := ⟨Tryz.call16⟩
instance : TBody Tryz.prog 16 Tryz.f16 (Tryz.f16.body.getD .skip) 27 := ⟨Tryz.func16, rfl, Tryz.ntmps16⟩
instance : TFn Tryz.prog 17 := ⟨Tryz.call17⟩
instance : TBody Tryz.prog 17 Tryz.f17 (Tryz.f17.body.getD .skip) 26 := ⟨Tryz.func17, rfl, Tryz.ntmps17⟩
instance : TFn Tryz.prog 18 := ⟨Tryz.call18⟩
instance : TBody Tryz.prog 18 Tryz.f18 (Tryz.f18.body.getD .skip) 82 := ⟨Tryz.func18, rfl, Tryz.ntmps18⟩
instance : TFn Tryz.prog 19 := ⟨Tryz.call19⟩
instance : TBody Tryz.prog 19 Tryz.f19 (Tryz.f19.body.getD .skip) 22 := ⟨Tryz.func19, rfl, Tryz.ntmps19⟩
instance : TFn Tryz.prog 20 := ⟨Tryz.call20⟩
instance : TBody Tryz.prog 20 Tryz.f20 (Tryz.f20.body.getD .skip) 136 := ⟨Tryz.func20, rfl, Tryz.ntmps20⟩
instance : TFn Tryz.prog 21 := ⟨Tryz.call21⟩
instance : TBody Tryz.prog 21 Tryz.f21 (Tryz.f21.body.getD .skip) 26 := ⟨Tryz.func21, rfl, Tryz.ntmps21⟩
instance : TFn Tryz.prog 22 := ⟨Tryz.call22⟩
instance : TBody Tryz.prog 22 Tryz.f22 (Tryz.f22.body.getD .skip) 67 := ⟨Tryz.func22, rfl, Tryz.ntmps22⟩
instance : TFn Tryz.prog 23 := ⟨Tryz.call23⟩
instance : TBody Tryz.prog 23 Tryz.f23 (Tryz.f23.body.getD .skip) 6 := ⟨Tryz.func23, rfl, Tryz.ntmps23⟩
instance : TFn Tryz.prog 24 := ⟨Tryz.call24⟩
instance : TBody Tryz.prog 24 Tryz.f24 (Tryz.f24.body.getD .skip) 31 := ⟨Tryz.func24, rfl, Tryz.ntmps24⟩
instance : TFn Tryz.prog 25 := ⟨Tryz.call25⟩
instance : TBody Tryz.prog 25 Tryz.f25 (Tryz.f25.body.getD .skip) 12 := ⟨Tryz.func25, rfl, Tryz.ntmps25⟩
instance : TFn Tryz.prog 26 := ⟨Tryz.call26⟩
instance : TBody Tryz.prog 26 Tryz.f26 (Tryz.f26.body.getD .skip) 122 := ⟨Tryz.func26, rfl, Tryz.ntmps26⟩
instance : TFn Tryz.prog 27 := ⟨Tryz.call27⟩
instance : TBody Tryz.prog 27 Tryz.f27 (Tryz.f27.body.getD .skip) 12 := ⟨Tryz.func27, rfl, Tryz.ntmps27⟩
instance : TFn Tryz.prog 28 := ⟨Tryz.call28⟩
instance : TBody Tryz.prog 28 Tryz.f28 (Tryz.f28.body.getD .skip) 53 := ⟨Tryz.func28, rfl, Tryz.ntmps28⟩
instance : TFn Tryz.prog 29 := ⟨Tryz.call29⟩
instance : TBody Tryz.prog 29 Tryz.f29 (Tryz.f29.body.getD .skip) 96 := ⟨Tryz.func29, rfl, Tryz.ntmps29⟩
instance : TFn Tryz.prog 30 := ⟨Tryz.call30⟩
instance : TBody Tryz.prog 30 Tryz.f30 (Tryz.f30.body.getD .skip) 36 := ⟨Tryz.func30, rfl, Tryz.ntmps30⟩
instance : TFn Tryz.prog 31 := ⟨Tryz.call31⟩
instance : TBody Tryz.prog 31 Tryz.f31 (Tryz.f31.body.getD .skip) 12 := ⟨Tryz.func31, rfl, Tryz.ntmps31⟩
instance : TFn Tryz.prog 32 := ⟨Tryz.call32⟩
instance : TBody Tryz.prog 32 Tryz.f32 (Tryz.f32.body.getD .skip) 4 := ⟨Tryz.func32, rfl, Tryz.ntmps32⟩
instance : TFn Tryz.prog 33 := ⟨Tryz.call33⟩
instance : TBody Tryz.prog 33 Tryz.f33 (Tryz.f33.body.getD .skip) 22 := ⟨Tryz.func33, rfl, Tryz.ntmps33⟩
instance : TFn Tryz.prog 34 := ⟨Tryz.call34⟩
instance : TBody Tryz.prog 34 Tryz.f34 (Tryz.f34.body.getD .skip) 68 := ⟨Tryz.func34, rfl, Tryz.ntmps34⟩
instance : TFn Tryz.prog 35 := ⟨Tryz.call35⟩
instance : TBody Tryz.prog 35 Tryz.f35 (Tryz.f35.body.getD .skip) 9 := ⟨Tryz.func35, rfl, Tryz.ntmps35⟩
instance : TFn Tryz.prog 36 := ⟨Tryz.call36⟩
instance : TBody Tryz.prog 36 Tryz.f36 (Tryz.f36.body.getD .skip) 4 := ⟨Tryz.func36, rfl, Tryz.ntmps36⟩
instance : TFn Tryz.prog 37 := ⟨Tryz.call37⟩
instance : TBody Tryz.prog 37 Tryz.f37 (Tryz.f37.body.getD .skip) 4 := ⟨Tryz.func37, rfl, Tryz.ntmps37⟩
instance : TFn Tryz.prog 38 := ⟨Tryz.call38⟩
instance : TBody Tryz.prog 38 Tryz.f38 (Tryz.f38.body.getD .skip) 22 := ⟨Tryz.func38, rfl, Tryz.ntmps38⟩
instance : TFn Tryz.prog 39 := ⟨Tryz.call39⟩
instance : TBody Tryz.prog 39 Tryz.f39 (Tryz.f39.body.getD .skip) 12 := ⟨Tryz.func39, rfl, Tryz.ntmps39⟩
instance : TFn Tryz.prog 40 := ⟨Tryz.call40⟩
instance : TBody Tryz.prog 40 Tryz.f40 (Tryz.f40.body.getD .skip) 119 := ⟨Tryz.func40, rfl, Tryz.ntmps40⟩
instance : TFn Tryz.prog 41 := ⟨Tryz.call41⟩
instance : TBody Tryz.prog 41 Tryz.f41 (Tryz.f41.body.getD .skip) 66 := ⟨Tryz.func41, rfl, Tryz.ntmps41⟩
instance : TFn Tryz.prog 42 := ⟨Tryz.call42⟩
instance : TBody Tryz.prog 42 Tryz.f42 (Tryz.f42.body.getD .skip) 24 := ⟨Tryz.func42, rfl, Tryz.ntmps42⟩
instance : TFn Tryz.prog 43 := ⟨Tryz.call43⟩
instance : TBody Tryz.prog 43 Tryz.f43 (Tryz.f43.body.getD .skip) 26 := ⟨Tryz.func43, rfl, Tryz.ntmps43⟩
instance : TFn Tryz.prog 44 := ⟨Tryz.call44⟩
instance : TBody Tryz.prog 44 Tryz.f44 (Tryz.f44.body.getD .skip) 21 := ⟨Tryz.func44, rfl, Tryz.ntmps44⟩
instance : TFn Tryz.prog 45 := ⟨Tryz.call45⟩
instance : TBody Tryz.prog 45 Tryz.f45 (Tryz.f45.body.getD .skip) 22 := ⟨Tryz.func45, rfl, Tryz.ntmps45⟩
instance : TFn Tryz.prog 46 := ⟨Tryz.call46⟩
instance : TBody Tryz.prog 46 Tryz.f46 (Tryz.f46.body.getD .skip) 101 := ⟨Tryz.func46, rfl, Tryz.ntmps46⟩
instance : TFn Tryz.prog 47 := ⟨Tryz.call47⟩
instance : TBody Tryz.prog 47 Tryz.f47 (Tryz.f47.body.getD .skip) 39 := ⟨Tryz.func47, rfl, Tryz.ntmps47⟩
instance : TFn Tryz.prog 48 := ⟨Tryz.call48⟩
instance : TBody Tryz.prog 48 Tryz.f48 (Tryz.f48.body.getD .skip) 31 := ⟨Tryz.func48, rfl, Tryz.ntmps48⟩
instance : TFn Tryz.prog 49 := ⟨Tryz.call49⟩
instance : TBody Tryz.prog 49 Tryz.f49 (Tryz.f49.body.getD .skip) 95 := ⟨Tryz.func49, rfl, Tryz.ntmps49⟩
instance : TFn Tryz.prog 50 := ⟨Tryz.call50⟩
instance : TBody Tryz.prog 50 Tryz.f50 (Tryz.f50.body.getD .skip) 9 := ⟨Tryz.func50, rfl, Tryz.ntmps50⟩
instance : TFn Tryz.prog 51 := ⟨Tryz.call51⟩
instance : TBody Tryz.prog 51 Tryz.f51 (Tryz.f51.body.getD .skip) 8 := ⟨Tryz.func51, rfl, Tryz.ntmps51⟩
instance : TFn Tryz.prog 52 := ⟨Tryz.call52⟩
instance : TBody Tryz.prog 52 Tryz.f52 (Tryz.f52.body.getD .skip) 36 := ⟨Tryz.func52, rfl, Tryz.ntmps52⟩
instance : TFn Tryz.prog 53 := ⟨Tryz.call53⟩
instance : TBody Tryz.prog 53 Tryz.f53 (Tryz.f53.body.getD .skip) 11 := ⟨Tryz.func53, rfl, Tryz.ntmps53⟩
instance : TFn Tryz.prog 54 := ⟨Tryz.call54⟩
instance : TBody Tryz.prog 54 Tryz.f54 (Tryz.f54.body.getD .skip) 61 := ⟨Tryz.func54, rfl, Tryz.ntmps54⟩
instance : TFn Tryz.prog 55 := ⟨Tryz.call55⟩
instance : TBody Tryz.prog 55 Tryz.f55 (Tryz.f55.body.getD .skip) 8 := ⟨Tryz.func55, rfl, Tryz.ntmps55⟩
instance : TFn Tryz.prog 56 := ⟨Tryz.call56⟩
instance : TBody Tryz.prog 56 Tryz.f56 (Tryz.f56.body.getD .skip) 101 := ⟨Tryz.func56, rfl, Tryz.ntmps56⟩
instance : TFn Tryz.prog 57 := ⟨Tryz.call57⟩
instance : TBody Tryz.prog 57 Tryz.f57 (Tryz.f57.body.getD .skip) 5 := ⟨Tryz.func57, rfl, Tryz.ntmps57⟩
instance : TFn Tryz.prog 58 := ⟨Tryz.call58⟩
instance : TBody Tryz.prog 58 Tryz.f58 (Tryz.f58.body.getD .skip) 14 := ⟨Tryz.func58, rfl, Tryz.ntmps58⟩
instance : TFn Tryz.prog 59 := ⟨Tryz.call59⟩
instance : TBody Tryz.prog 59 Tryz.f59 (Tryz.f59.body.getD .skip) 14 := ⟨Tryz.func59, rfl, Tryz.ntmps59⟩
instance : TFn Tryz.prog 60 := ⟨Tryz.call60⟩
instance : TBody Tryz.prog 60 Tryz.f60 (Tryz.f60.body.getD .skip) 18 := ⟨Tryz.func60, rfl, Tryz.ntmps60⟩
instance : TFn Tryz.prog 61 := ⟨Tryz.call61⟩
instance : TBody Tryz.prog 61 Tryz.f61 (Tryz.f61.body.getD .skip) 20 := ⟨Tryz.func61, rfl, Tryz.ntmps61⟩
instance : TFn Tryz.prog 62 := ⟨Tryz.call62⟩
instance : TBody Tryz.prog 62 Tryz.f62 (Tryz.f62.body.getD .skip) 9 := ⟨Tryz.func62, rfl, Tryz.ntmps62⟩
instance : TFn Tryz.prog 63 := ⟨Tryz.call63⟩
instance : TBody Tryz.prog 63 Tryz.f63 (Tryz.f63.body.getD .skip) 10 := ⟨Tryz.func63, rfl, Tryz.ntmps63⟩
instance : TFn Tryz.prog 64 := ⟨Tryz.call64⟩
instance : TBody Tryz.prog 64 Tryz.f64 (Tryz.f64.body.getD .skip) 26 := ⟨Tryz.func64, rfl, Tryz.ntmps64⟩
instance : TFn Tryz.prog 65 := ⟨Tryz.call65⟩
instance : TBody Tryz.prog 65 Tryz.f65 (Tryz.f65.body.getD .skip) 5 := ⟨Tryz.func65, rfl, Tryz.ntmps65⟩
instance : TFn Tryz.prog 66 := ⟨Tryz.call66⟩
instance : TBody Tryz.prog 66 Tryz.f66 (Tryz.f66.body.getD .skip) 14 := ⟨Tryz.func66, rfl, Tryz.ntmps66⟩
instance : TFn Tryz.prog 67 := ⟨Tryz.call67⟩
instance : TBody Tryz.prog 67 Tryz.f67 (Tryz.f67.body.getD .skip) 14 := ⟨Tryz.func67, rfl, Tryz.ntmps67⟩
instance : TFn Tryz.prog 68 := ⟨Tryz.call68⟩
instance : TBody Tryz.prog 68 Tryz.f68 (Tryz.f68.body.getD .skip) 31 := ⟨Tryz.func68, rfl, Tryz.ntmps68⟩
instance : TFn Tryz.prog 69 := ⟨Tryz.call69⟩
instance : TBody Tryz.prog 69 Tryz.f69 (Tryz.f69.body.getD .skip) 46 := ⟨Tryz.func69, rfl, Tryz.ntmps69⟩
instance : TFn Tryz.prog 70 := ⟨Tryz.call70⟩
instance : TBody Tryz.prog 70 Tryz.f70 (Tryz.f70.body.getD .skip) 26 := ⟨Tryz.func70, rfl, Tryz.ntmps70⟩
instance : TFn Tryz.prog 71 := ⟨Tryz.call71⟩
instance : TBody Tryz.prog 71 Tryz.f71 (Tryz.f71.body.getD .skip) 17 := ⟨Tryz.func71, rfl, Tryz.ntmps71⟩
instance : TFn Tryz.prog 72 := ⟨Tryz.call72⟩
instance : TBody Tryz.prog 72 Tryz.f72 (Tryz.f72.body.getD .skip) 24 := ⟨Tryz.func72, rfl, Tryz.ntmps72⟩
instance : TFn Tryz.prog 73 := ⟨Tryz.call73⟩
instance : TBody Tryz.prog 73 Tryz.f73 (Tryz.f73.body.getD .skip) 24 := ⟨Tryz.func73, rfl, Tryz.ntmps73⟩
instance : TFn Tryz.prog 74 := ⟨Tryz.call74⟩
instance : TBody Tryz.prog 74 Tryz.f74 (Tryz.f74.body.getD .skip) 21 := ⟨Tryz.func74, rfl, Tryz.ntmps74⟩
instance : TFn Tryz.prog 75 := ⟨Tryz.call75⟩
instance : TBody Tryz.prog 75 Tryz.f75 (Tryz.f75.body.getD .skip) 10 := ⟨Tryz.func75, rfl, Tryz.ntmps75⟩
instance : TFn Tryz.prog 76 := ⟨Tryz.call76⟩
instance : TBody Tryz.prog 76 Tryz.f76 (Tryz.f76.body.getD .skip) 28 := ⟨Tryz.func76, rfl, Tryz.ntmps76⟩
instance : TFn Tryz.prog 77 := ⟨Tryz.call77⟩
instance : TBody Tryz.prog 77 Tryz.f77 (Tryz.f77.body.getD .skip) 30 := ⟨Tryz.func77, rfl, Tryz.ntmps77⟩
instance : TFn Tryz.prog 78 := ⟨Tryz.call78⟩
instance : TBody Tryz.prog 78 Tryz.f78 (Tryz.f78.body.getD .skip) 30 := ⟨Tryz.func78, rfl, Tryz.ntmps78⟩
instance : TFn Tryz.prog 79 := ⟨Tryz.call79⟩
instance : TBody Tryz.prog 79 Tryz.f79 (Tryz.f79.body.getD .skip) 84 := ⟨Tryz.func79, rfl, Tryz.ntmps79⟩
instance : TFn Tryz.prog 80 := ⟨Tryz.call80⟩
instance : TBody Tryz.prog 80 Tryz.f80 (Tryz.f80.body.getD .skip) 66 := ⟨Tryz.func80, rfl, Tryz.ntmps80⟩
instance : TFn Tryz.prog 81 := ⟨Tryz.call81⟩
instance : TBody Tryz.prog 81 Tryz.f81 (Tryz.f81.body.getD .skip) 19 := ⟨Tryz.func81, rfl, Tryz.ntmps81⟩
instance : TFn Tryz.prog 82 := ⟨Tryz.call82⟩
instance : TBody Tryz.prog 82 Tryz.f82 (Tryz.f82.body.getD .skip) 27 := ⟨Tryz.func82, rfl, Tryz.ntmps82⟩
instance : TFn Tryz.prog 83 := ⟨Tryz.call83⟩
instance : TBody Tryz.prog 83 Tryz.f83 (Tryz.f83.body.getD .skip) 134 := ⟨Tryz.func83, rfl, Tryz.ntmps83⟩
instance : TFn Tryz.prog 84 := ⟨Tryz.call84⟩
instance : TBody Tryz.prog 84 Tryz.f84 (Tryz.f84.body.getD .skip) 8 := ⟨Tryz.func84, rfl, Tryz.ntmps84⟩
instance : TFn Tryz.prog 85 := ⟨Tryz.call85⟩
instance : TBody Tryz.prog 85 Tryz.f85 (Tryz.f85.body.getD .skip) 13 := ⟨Tryz.func85, rfl, Tryz.ntmps85⟩
instance : TFn Tryz.prog 86 := ⟨Tryz.call86⟩
instance : TBody Tryz.prog 86 Tryz.f86 (Tryz.f86.body.getD .skip) 28 := ⟨Tryz.func86, rfl, Tryz.ntmps86⟩
instance : TFn Tryz.prog 87 := ⟨Tryz.call87⟩
instance : TBody Tryz.prog 87 Tryz.f87 (Tryz.f87.body.getD .skip) 11 := ⟨Tryz.func87, rfl, Tryz.ntmps87⟩
instance : TFn Tryz.prog 88 := ⟨Tryz.call88⟩
instance : TBody Tryz.prog 88 Tryz.f88 (Tryz.f88.body.getD .skip) 13 := ⟨Tryz.func88, rfl, Tryz.ntmps88⟩
instance : TFn Tryz.prog 89 := ⟨Tryz.call89⟩
instance : TBody Tryz.prog 89 Tryz.f89 (Tryz.f89.body.getD .skip) 148 := ⟨Tryz.func89, rfl, Tryz.ntmps89⟩
instance : TFn Tryz.prog 90 := ⟨Tryz.call90⟩
instance : TBody Tryz.prog 90 Tryz.f90 (Tryz.f90.body.getD .skip) 6 := ⟨Tryz.func90, rfl, Tryz.ntmps90⟩
instance : TFn Tryz.prog 91 := ⟨Tryz.call91⟩
instance : TBody Tryz.prog 91 Tryz.f91 (Tryz.f91.body.getD .skip) 13 := ⟨Tryz.func91, rfl, Tryz.ntmps91⟩
instance : TFn Tryz.prog 92 := ⟨Tryz.call92⟩
instance : TBody Tryz.prog 92 Tryz.f92 (Tryz.f92.body.getD .skip) 56 := ⟨Tryz.func92, rfl, Tryz.ntmps92⟩
instance : TFn Tryz.prog 93 := ⟨Tryz.call93⟩
instance : TBody Tryz.prog 93 Tryz.f93 (Tryz.f93.body.getD .skip) 19 := ⟨Tryz.func93, rfl, Tryz.ntmps93⟩
instance : TFn Tryz.prog 94 := ⟨Tryz.call94⟩
instance : TBody Tryz.prog 94 Tryz.f94 (Tryz.f94.body.getD .skip) 9 := ⟨Tryz.func94, rfl, Tryz.ntmps94⟩
instance : TFn Tryz.prog 95 := ⟨Tryz.call95⟩
instance : TBody Tryz.prog 95 Tryz.f95 (Tryz.f95.body.getD .skip) 44 := ⟨Tryz.func95, rfl, Tryz.ntmps95⟩
instance : TFn Tryz.prog 96 := ⟨Tryz.call96⟩
instance : TBody Tryz.prog 96 Tryz.f96 (Tryz.f96.body.getD .skip) 17 := ⟨Tryz.func96, rfl, Tryz.ntmps96⟩
instance : TFn Tryz.prog 97 := ⟨Tryz.call97⟩
instance : TBody Tryz.prog 97 Tryz.f97 (Tryz.f97.body.getD .skip) 18 := ⟨Tryz.func97, rfl, Tryz.ntmps97⟩
instance : TFn Tryz.prog 98 := ⟨Tryz.call98⟩
instance : TBody Tryz.prog 98 Tryz.f98 (Tryz.f98.body.getD .skip) 39 := ⟨Tryz.func98, rfl, Tryz.ntmps98⟩
instance : TFn Tryz.prog 99 := ⟨Tryz.call99⟩
instance : TBody Tryz.prog 99 Tryz.f99 (Tryz.f99.body.getD .skip) 12 := ⟨Tryz.func99, rfl, Tryz.ntmps99⟩
instance : TFn Tryz.prog 100 := ⟨Tryz.call100⟩
instance : TBody Tryz.prog 100 Tryz.f100 (Tryz.f100.body.getD .skip) 25 := ⟨Tryz.func100, rfl, Tryz.ntmps100⟩
instance : TFn Tryz.prog 101 := ⟨Tryz.call101⟩
instance : TBody Tryz.prog 101 Tryz.f101 (Tryz.f101.body.getD .skip) 9 := ⟨Tryz.func101, rfl, Tryz.ntmps101⟩
instance : TFn Tryz.prog 102 := ⟨Tryz.call102⟩
instance : TBody Tryz.prog 102 Tryz.f102 (Tryz.f102.body.getD .skip) 49 := ⟨Tryz.func102, rfl, Tryz.ntmps102⟩
instance : TFn Tryz.prog 103 := ⟨Tryz.call103⟩
instance : TBody Tryz.prog 103 Tryz.f103 (Tryz.f103.body.getD .skip) 56 := ⟨Tryz.func103, rfl, Tryz.ntmps103⟩
instance : TFn Tryz.prog 104 := ⟨Tryz.call104⟩
instance : TBody Tryz.prog 104 Tryz.f104 (Tryz.f104.body.getD .skip) 65 := ⟨Tryz.func104, rfl, Tryz.ntmps104⟩
instance : TFn Tryz.prog 105 := ⟨Tryz.call105⟩
instance : TBody Tryz.prog 105 Tryz.f105 (Tryz.f105.body.getD .skip) 57 := ⟨Tryz.func105, rfl, Tryz.ntmps105⟩
instance : TFn Tryz.prog 106 := ⟨Tryz.call106⟩
instance : TBody Tryz.prog 106 Tryz.f106 (Tryz.f106.body.getD .skip) 32 := ⟨Tryz.func106, rfl, Tryz.ntmps106⟩
instance : TFn Tryz.prog 107 := ⟨Tryz.call107⟩
instance : TBody Tryz.prog 107 Tryz.f107 (Tryz.f107.body.getD .skip) 133 := ⟨Tryz.func107, rfl, Tryz.ntmps107⟩
instance : TFn Tryz.prog 108 := ⟨Tryz.call108⟩
instance : TBody Tryz.prog 108 Tryz.f108 (Tryz.f108.body.getD .skip) 17 := ⟨Tryz.func108, rfl, Tryz.ntmps108⟩
instance : TFn Tryz.prog 109 := ⟨Tryz.call109⟩
instance : TBody Tryz.prog 109 Tryz.f109 (Tryz.f109.body.getD .skip) 84 := ⟨Tryz.func109, rfl, Tryz.ntmps109⟩
instance : TFn Tryz.prog 110 := ⟨Tryz.call110⟩
instance : TBody Tryz.prog 110 Tryz.f110 (Tryz.f110.body.getD .skip) 168 := ⟨Tryz.func110, rfl, Tryz.ntmps110⟩
instance : TFn Tryz.prog 111 := ⟨Tryz.call111⟩
instance : TBody Tryz.prog 111 Tryz.f111 (Tryz.f111.body.getD .skip) 19 := ⟨Tryz.func111, rfl, Tryz.ntmps111⟩
instance : TFn Tryz.prog 112 := ⟨Tryz.call112⟩
instance : TBody Tryz.prog 112 Tryz.f112 (Tryz.f112.body.getD .skip) 25 := ⟨Tryz.func112, rfl, Tryz.ntmps112⟩
instance : TFn Tryz.prog 114 := ⟨Tryz.call114⟩
instance : TBody Tryz.prog 114 Tryz.f114 (Tryz.f114.body.getD .skip) 18 := ⟨Tryz.func114, rfl, Tryz.ntmps114⟩
instance : TFn Tryz.prog 115 := ⟨Tryz.call115⟩
instance : TBody Tryz.prog 115 Tryz.f115 (Tryz.f115.body.getD .skip) 5 := ⟨Tryz.func115, rfl, Tryz.ntmps115⟩
instance : TFn Tryz.prog 117 := ⟨Tryz.call117⟩
instance : TBody Tryz.prog 117 Tryz.f117 (Tryz.f117.body.getD .skip) 53 := ⟨Tryz.func117, rfl, Tryz.ntmps117⟩
instance : TFn Tryz.prog 118 := ⟨Tryz.call118⟩
instance : TBody Tryz.prog 118 Tryz.f118 (Tryz.f118.body.getD .skip) 60 := ⟨Tryz.func118, rfl, Tryz.ntmps118⟩
instance : TFn Tryz.prog 119 := ⟨Tryz.call119⟩
instance : TBody Tryz.prog 119 Tryz.f119 (Tryz.f119.body.getD .skip) 67 := ⟨Tryz.func119, rfl, Tryz.ntmps119⟩
instance : TFn Tryz.prog 120 := ⟨Tryz.call120⟩
instance : TBody Tryz.prog 120 Tryz.f120 (Tryz.f120.body.getD .skip) 63 := ⟨Tryz.func120, rfl, Tryz.ntmps120⟩
instance : TFn Tryz.prog 121 := ⟨Tryz.call121⟩
instance : TBody Tryz.prog 121 Tryz.f121 (Tryz.f121.body.getD .skip) 34 := ⟨Tryz.func121, rfl, Tryz.ntmps121⟩
instance : TFn Tryz.prog 122 := ⟨Tryz.call122⟩
instance : TBody Tryz.prog 122 Tryz.f122 (Tryz.f122.body.getD .skip) 141 := ⟨Tryz.func122, rfl, Tryz.ntmps122⟩
instance : TFn Tryz.prog 123 := ⟨Tryz.call123⟩
instance : TBody Tryz.prog 123 Tryz.f123 (Tryz.f123.body.getD .skip) 90 := ⟨Tryz.func123, rfl, Tryz.ntmps123⟩
instance : TFn Tryz.prog 124 := ⟨Tryz.call124⟩
instance : TBody Tryz.prog 124 Tryz.f124 (Tryz.f124.body.getD .skip) 178 := ⟨Tryz.func124, rfl, Tryz.ntmps124⟩
instance : TFn Tryz.prog 125 := ⟨Tryz.call125⟩
instance : TBody Tryz.prog 125 Tryz.f125 (Tryz.f125.body.getD .skip) 31 := ⟨Tryz.func125, rfl, Tryz.ntmps125⟩
instance : TFn Tryz.prog 126 := ⟨Tryz.call126⟩
instance : TBody Tryz.prog 126 Tryz.f126 (Tryz.f126.body.getD .skip) 76 := ⟨Tryz.func126, rfl, Tryz.ntmps126⟩
instance : TFn Tryz.prog 127 := ⟨Tryz.call127⟩
instance : TBody Tryz.prog 127 Tryz.f127 (Tryz.f127.body.getD .skip) 7 := ⟨Tryz.func127, rfl, Tryz.ntmps127⟩
instance : TFn Tryz.prog 128 := ⟨Tryz.call128⟩
instance : TBody Tryz.prog 128 Tryz.f128 (Tryz.f128.body.getD .skip) 33 := ⟨Tryz.func128, rfl, Tryz.ntmps128⟩
instance : TFn Tryz.prog 129 := ⟨Tryz.call129⟩
instance : TBody Tryz.prog 129 Tryz.f129 (Tryz.f129.body.getD .skip) 15 := ⟨Tryz.func129, rfl, Tryz.ntmps129⟩
instance : TFn Tryz.prog 130 := ⟨Tryz.call130⟩
instance : TBody Tryz.prog 130 Tryz.f130 (Tryz.f130.body.getD .skip) 36 := ⟨Tryz.func130, rfl, Tryz.ntmps130⟩
instance : TFn Tryz.prog 131 := ⟨Tryz.call131⟩
instance : TBody Tryz.prog 131 Tryz.f131 (Tryz.f131.body.getD .skip) 6 := ⟨Tryz.func131, rfl, Tryz.ntmps131⟩
instance : TFn Tryz.prog 134 := ⟨Tryz.call134⟩
instance : TBody Tryz.prog 134 Tryz.f134 (Tryz.f134.body.getD .skip) 43 := ⟨Tryz.func134, rfl, Tryz.ntmps134⟩
instance : TFn Tryz.prog 137 := ⟨Tryz.call137⟩
instance : TBody Tryz.prog 137 Tryz.f137 (Tryz.f137.body.getD .skip) 82 := ⟨Tryz.func137, rfl, Tryz.ntmps137⟩
instance : TFn Tryz.prog 138 := ⟨Tryz.call138⟩
instance : TBody Tryz.prog 138 Tryz.f138 (Tryz.f138.body.getD .skip) 18 := ⟨Tryz.func138, rfl, Tryz.ntmps138⟩
instance : TFn Tryz.prog 139 := ⟨Tryz.call139⟩
instance : TBody Tryz.prog 139 Tryz.f139 (Tryz.f139.body.getD .skip) 41 := ⟨Tryz.func139, rfl, Tryz.ntmps139⟩
instance : TFn Tryz.prog 140 := ⟨Tryz.call140⟩
instance : TBody Tryz.prog 140 Tryz.f140 (Tryz.f140.body.getD .skip) 28 := ⟨Tryz.func140, rfl, Tryz.ntmps140⟩
instance : TFn Tryz.prog 146 := ⟨Tryz.call146⟩
instance : TBody Tryz.prog 146 Tryz.f146 (Tryz.f146.body.getD .skip) 11 := ⟨Tryz.func146, rfl, Tryz.ntmps146⟩
instance : TFn Tryz.prog 147 := ⟨Tryz.call147⟩
instance : TBody Tryz.prog 147 Tryz.f147 (Tryz.f147.body.getD .skip) 11 := ⟨Tryz.func147, rfl, Tryz.ntmps147⟩
instance : TFn Tryz.prog 148 := ⟨Tryz.call148⟩
instance : TBody Tryz.prog 148 Tryz.f148 (Tryz.f148.body.getD .skip) 16 := ⟨Tryz.func148, rfl, Tryz.ntmps148⟩
instance : TFn Tryz.prog 149 := ⟨Tryz.call149⟩
instance : TBody Tryz.prog 149 Tryz.f149 (Tryz.f149.body.getD .skip) 16 := ⟨Tryz.func149, rfl, Tryz.ntmps149⟩
instance : TFn Tryz.prog 151 := ⟨Tryz.call151⟩
instance : TBody Tryz.prog 151 Tryz.f151 (Tryz.f151.body.getD .skip) 32 := ⟨Tryz.func151, rfl, Tryz.ntmps151⟩
instance : TFn Tryz.prog 156 := ⟨Tryz.call156⟩
instance : TBody Tryz.prog 156 Tryz.f156 (Tryz.f156.body.getD .skip) 7 := ⟨Tryz.func156, rfl, Tryz.ntmps156⟩
instance : TFn Tryz.prog 166 := ⟨Tryz.call166⟩
instance : TBody Tryz.prog 166 Tryz.f166 (Tryz.f166.body.getD .skip) 8 := ⟨Tryz.func166, rfl, Tryz.ntmps166⟩
instance : TFn Tryz.prog 167 := ⟨Tryz.call167⟩
instance : TBody Tryz.prog 167 Tryz.f167 (Tryz.f167.body.getD .skip) 14 := ⟨Tryz.func167, rfl, Tryz.ntmps167⟩
instance : TFn Tryz.prog 168 := ⟨Tryz.call168⟩
instance : TBody Tryz.prog 168 Tryz.f168 (Tryz.f168.body.getD .skip) 14 := ⟨Tryz.func168, rfl, Tryz.ntmps168⟩
instance : TMix Tryz.prog := ⟨rfl⟩
end Go.Proofs.YtjgjcakeimkkdaaGreatDoor
