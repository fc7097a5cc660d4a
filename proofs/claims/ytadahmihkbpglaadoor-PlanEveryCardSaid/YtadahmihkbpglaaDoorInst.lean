/- Written by program (gen_inst.py) for this seat: what the walk asks of its types and functions. -/
import Derived.Test.YtadahmihkbpglaaDoorKB
import Derived.Test.YtadahmihkbpglaaDoorProg
set_option maxRecDepth 100000
namespace Go.Proofs.YtadahmihkbpglaaDoor
open Go Go.Sx Go.Proofs
instance : TSz Tryd.prog 1 1 := ⟨Tryd.sizeOf1⟩
instance : TAgg Tryd.prog 1 false := ⟨Tryd.isAgg1⟩
instance : TZ Tryd.prog 1 (.nilFunc) := ⟨Tryd.zeroValue1⟩
instance : TZL Tryd.prog 1 [.nilFunc] := ⟨_, Tryd.zeroValue1, rfl⟩
instance : TIn Tryd.prog 1 1 8 (.nilFunc) := ⟨_, rfl, rfl, rfl, rfl, rfl, by decide⟩
instance : TSz Tryd.prog 2 1 := ⟨Tryd.sizeOf2⟩
instance : TAgg Tryd.prog 2 false := ⟨Tryd.isAgg2⟩
instance : TIt Tryd.prog 2 .i64 := ⟨Tryd.underlying2⟩
instance : TZ Tryd.prog 2 (.int .i64 0) := ⟨Tryd.zeroValue2⟩
instance : TZL Tryd.prog 2 [.int .i64 0] := ⟨_, Tryd.zeroValue2, rfl⟩
instance : TIn Tryd.prog 2 1 8 (.int .i64 0) := ⟨_, rfl, rfl, rfl, rfl, rfl, by decide⟩
instance : TSz Tryd.prog 3 1 := ⟨Tryd.sizeOf3⟩
instance : TAgg Tryd.prog 3 false := ⟨Tryd.isAgg3⟩
instance : TIt Tryd.prog 3 .i64 := ⟨Tryd.underlying3⟩
instance : TZ Tryd.prog 3 (.int .i64 0) := ⟨Tryd.zeroValue3⟩
instance : TZL Tryd.prog 3 [.int .i64 0] := ⟨_, Tryd.zeroValue3, rfl⟩
instance : TIn Tryd.prog 3 1 8 (.int .i64 0) := ⟨_, rfl, rfl, rfl, rfl, rfl, by decide⟩
instance : TSz Tryd.prog 4 1 := ⟨Tryd.sizeOf4⟩
instance : TAgg Tryd.prog 4 false := ⟨Tryd.isAgg4⟩
instance : TBo Tryd.prog 4 := ⟨Tryd.underlying4⟩
instance : TZ Tryd.prog 4 (.bool false) := ⟨Tryd.zeroValue4⟩
instance : TZL Tryd.prog 4 [.bool false] := ⟨_, Tryd.zeroValue4, rfl⟩
instance : TIn Tryd.prog 4 1 1 (.bool false) := ⟨_, rfl, rfl, rfl, rfl, rfl, by decide⟩
instance : TSz Tryd.prog 5 1 := ⟨Tryd.sizeOf5⟩
instance : TAgg Tryd.prog 5 false := ⟨Tryd.isAgg5⟩
instance : TIt Tryd.prog 5 .u8 := ⟨Tryd.underlying5⟩
instance : TZ Tryd.prog 5 (.int .u8 0) := ⟨Tryd.zeroValue5⟩
instance : TZL Tryd.prog 5 [.int .u8 0] := ⟨_, Tryd.zeroValue5, rfl⟩
instance : TIn Tryd.prog 5 1 1 (.int .u8 0) := ⟨_, rfl, rfl, rfl, rfl, rfl, by decide⟩
instance : TSz Tryd.prog 6 1 := ⟨Tryd.sizeOf6⟩
instance : TAgg Tryd.prog 6 false := ⟨Tryd.isAgg6⟩
instance : TIt Tryd.prog 6 .u8 := ⟨Tryd.underlying6⟩
instance : TZ Tryd.prog 6 (.int .u8 0) := ⟨Tryd.zeroValue6⟩
instance : TZL Tryd.prog 6 [.int .u8 0] := ⟨_, Tryd.zeroValue6, rfl⟩
instance : TIn Tryd.prog 6 1 1 (.int .u8 0) := ⟨_, rfl, rfl, rfl, rfl, rfl, by decide⟩
instance : TSz Tryd.prog 7 4 := ⟨Tryd.sizeOf7⟩
instance : TAgg Tryd.prog 7 true := ⟨Tryd.isAgg7⟩
instance : TPl Tryd.prog 7 [(0, 1), (1, 1), (2, 1), (3, 1)] := ⟨_, Tryd.underlying7, fun w => by simp [List.mapM_cons]⟩
instance : TFd Tryd.prog 7 0 0 2 := ⟨_, _, Tryd.underlying7, rfl, rfl, rfl, fun w => ⟨0, Tryd.sizeOf2 w⟩⟩
instance : TFd Tryd.prog 7 1 1 3 := ⟨_, _, Tryd.underlying7, rfl, rfl, rfl, fun w => ⟨0, Tryd.sizeOf3 w⟩⟩
instance : TFd Tryd.prog 7 2 2 4 := ⟨_, _, Tryd.underlying7, rfl, rfl, rfl, fun w => ⟨0, Tryd.sizeOf4 w⟩⟩
instance : TFd Tryd.prog 7 3 3 6 := ⟨_, _, Tryd.underlying7, rfl, rfl, rfl, fun w => ⟨0, Tryd.sizeOf6 w⟩⟩
instance : TZ Tryd.prog 7 (.agg #[.int .i64 0, .int .i64 0, .bool false, .int .u8 0]) := ⟨Tryd.zeroValue7⟩
instance : TZL Tryd.prog 7 [.int .i64 0, .int .i64 0, .bool false, .int .u8 0] := ⟨_, Tryd.zeroValue7, rfl⟩
instance : TIn Tryd.prog 7 4 24 (.agg #[.int .i64 0, .int .i64 0, .bool false, .int .u8 0]) := ⟨_, rfl, rfl, rfl, rfl, rfl, by decide⟩
instance : TSz Tryd.prog 8 4 := ⟨Tryd.sizeOf8⟩
instance : TAgg Tryd.prog 8 true := ⟨Tryd.isAgg8⟩
instance : TPl Tryd.prog 8 [(0, 1), (1, 1), (2, 1), (3, 1)] := ⟨_, Tryd.underlying8, fun w => by simp [List.mapM_cons]⟩
instance : TFd Tryd.prog 8 0 0 2 := ⟨_, _, Tryd.underlying8, rfl, rfl, rfl, fun w => ⟨0, Tryd.sizeOf2 w⟩⟩
instance : TFd Tryd.prog 8 1 1 3 := ⟨_, _, Tryd.underlying8, rfl, rfl, rfl, fun w => ⟨0, Tryd.sizeOf3 w⟩⟩
instance : TFd Tryd.prog 8 2 2 4 := ⟨_, _, Tryd.underlying8, rfl, rfl, rfl, fun w => ⟨0, Tryd.sizeOf4 w⟩⟩
instance : TFd Tryd.prog 8 3 3 6 := ⟨_, _, Tryd.underlying8, rfl, rfl, rfl, fun w => ⟨0, Tryd.sizeOf6 w⟩⟩
instance : TZ Tryd.prog 8 (.agg #[.int .i64 0, .int .i64 0, .bool false, .int .u8 0]) := ⟨Tryd.zeroValue8⟩
instance : TZL Tryd.prog 8 [.int .i64 0, .int .i64 0, .bool false, .int .u8 0] := ⟨_, Tryd.zeroValue8, rfl⟩
instance : TIn Tryd.prog 8 4 24 (.agg #[.int .i64 0, .int .i64 0, .bool false, .int .u8 0]) := ⟨_, rfl, rfl, rfl, rfl, rfl, by decide⟩
instance : TSz Tryd.prog 9 1 := ⟨Tryd.sizeOf9⟩
instance : TAgg Tryd.prog 9 false := ⟨Tryd.isAgg9⟩
instance : TSt Tryd.prog 9 := ⟨Tryd.underlying9⟩
instance : TZ Tryd.prog 9 (.string ⟨#[]⟩) := ⟨Tryd.zeroValue9⟩
instance : TZL Tryd.prog 9 [.string ⟨#[]⟩] := ⟨_, Tryd.zeroValue9, rfl⟩
instance : TIn Tryd.prog 9 1 16 (.string ⟨#[]⟩) := ⟨_, rfl, rfl, rfl, rfl, rfl, by decide⟩
instance : TSz Tryd.prog 10 1 := ⟨Tryd.sizeOf10⟩
instance : TAgg Tryd.prog 10 false := ⟨Tryd.isAgg10⟩
instance : TSt Tryd.prog 10 := ⟨Tryd.underlying10⟩
instance : TZ Tryd.prog 10 (.string ⟨#[]⟩) := ⟨Tryd.zeroValue10⟩
instance : TZL Tryd.prog 10 [.string ⟨#[]⟩] := ⟨_, Tryd.zeroValue10, rfl⟩
instance : TIn Tryd.prog 10 1 16 (.string ⟨#[]⟩) := ⟨_, rfl, rfl, rfl, rfl, rfl, by decide⟩
instance : TSz Tryd.prog 11 1 := ⟨Tryd.sizeOf11⟩
instance : TAgg Tryd.prog 11 false := ⟨Tryd.isAgg11⟩
instance : TSt Tryd.prog 11 := ⟨Tryd.underlying11⟩
instance : TZ Tryd.prog 11 (.string ⟨#[]⟩) := ⟨Tryd.zeroValue11⟩
instance : TZL Tryd.prog 11 [.string ⟨#[]⟩] := ⟨_, Tryd.zeroValue11, rfl⟩
instance : TIn Tryd.prog 11 1 16 (.string ⟨#[]⟩) := ⟨_, rfl, rfl, rfl, rfl, rfl, by decide⟩
instance : TSz Tryd.prog 12 1 := ⟨Tryd.sizeOf12⟩
instance : TAgg Tryd.prog 12 false := ⟨Tryd.isAgg12⟩
instance : TIt Tryd.prog 12 .u64 := ⟨Tryd.underlying12⟩
instance : TZ Tryd.prog 12 (.int .u64 0) := ⟨Tryd.zeroValue12⟩
instance : TZL Tryd.prog 12 [.int .u64 0] := ⟨_, Tryd.zeroValue12, rfl⟩
instance : TIn Tryd.prog 12 1 8 (.int .u64 0) := ⟨_, rfl, rfl, rfl, rfl, rfl, by decide⟩
instance : TSz Tryd.prog 13 2 := ⟨Tryd.sizeOf13⟩
instance : TAgg Tryd.prog 13 true := ⟨Tryd.isAgg13⟩
instance : TPl Tryd.prog 13 [(0, 1), (1, 1)] := ⟨_, Tryd.underlying13, fun w => by simp [List.mapM_cons]⟩
instance : TFd Tryd.prog 13 0 0 9 := ⟨_, _, Tryd.underlying13, rfl, rfl, rfl, fun w => ⟨0, Tryd.sizeOf9 w⟩⟩
instance : TFd Tryd.prog 13 1 1 12 := ⟨_, _, Tryd.underlying13, rfl, rfl, rfl, fun w => ⟨0, Tryd.sizeOf12 w⟩⟩
instance : TZ Tryd.prog 13 (.agg #[.string ⟨#[]⟩, .int .u64 0]) := ⟨Tryd.zeroValue13⟩
instance : TZL Tryd.prog 13 [.string ⟨#[]⟩, .int .u64 0] := ⟨_, Tryd.zeroValue13, rfl⟩
instance : TIn Tryd.prog 13 2 24 (.agg #[.string ⟨#[]⟩, .int .u64 0]) := ⟨_, rfl, rfl, rfl, rfl, rfl, by decide⟩
instance : TSz Tryd.prog 14 2 := ⟨Tryd.sizeOf14⟩
instance : TAgg Tryd.prog 14 true := ⟨Tryd.isAgg14⟩
instance : TPl Tryd.prog 14 [(0, 1), (1, 1)] := ⟨_, Tryd.underlying14, fun w => by simp [List.mapM_cons]⟩
instance : TFd Tryd.prog 14 0 0 9 := ⟨_, _, Tryd.underlying14, rfl, rfl, rfl, fun w => ⟨0, Tryd.sizeOf9 w⟩⟩
instance : TFd Tryd.prog 14 1 1 12 := ⟨_, _, Tryd.underlying14, rfl, rfl, rfl, fun w => ⟨0, Tryd.sizeOf12 w⟩⟩
instance : TZ Tryd.prog 14 (.agg #[.string ⟨#[]⟩, .int .u64 0]) := ⟨Tryd.zeroValue14⟩
instance : TZL Tryd.prog 14 [.string ⟨#[]⟩, .int .u64 0] := ⟨_, Tryd.zeroValue14, rfl⟩
instance : TIn Tryd.prog 14 2 24 (.agg #[.string ⟨#[]⟩, .int .u64 0]) := ⟨_, rfl, rfl, rfl, rfl, rfl, by decide⟩
instance : TSz Tryd.prog 15 1 := ⟨Tryd.sizeOf15⟩
instance : TAgg Tryd.prog 15 false := ⟨Tryd.isAgg15⟩
instance : TPt Tryd.prog 15 := ⟨_, Tryd.underlying15⟩
instance : TZ Tryd.prog 15 (.pointer none) := ⟨Tryd.zeroValue15⟩
instance : TZL Tryd.prog 15 [.pointer none] := ⟨_, Tryd.zeroValue15, rfl⟩
instance : TIn Tryd.prog 15 1 8 (.pointer none) := ⟨_, rfl, rfl, rfl, rfl, rfl, by decide⟩
instance : TSz Tryd.prog 16 1 := ⟨Tryd.sizeOf16⟩
instance : TAgg Tryd.prog 16 false := ⟨Tryd.isAgg16⟩
instance : TPt Tryd.prog 16 := ⟨_, Tryd.underlying16⟩
instance : TZ Tryd.prog 16 (.pointer none) := ⟨Tryd.zeroValue16⟩
instance : TZL Tryd.prog 16 [.pointer none] := ⟨_, Tryd.zeroValue16, rfl⟩
instance : TIn Tryd.prog 16 1 8 (.pointer none) := ⟨_, rfl, rfl, rfl, rfl, rfl, by decide⟩
instance : TSz Tryd.prog 17 1 := ⟨Tryd.sizeOf17⟩
instance : TAgg Tryd.prog 17 false := ⟨Tryd.isAgg17⟩
instance : TPt Tryd.prog 17 := ⟨_, Tryd.underlying17⟩
instance : TZ Tryd.prog 17 (.pointer none) := ⟨Tryd.zeroValue17⟩
instance : TZL Tryd.prog 17 [.pointer none] := ⟨_, Tryd.zeroValue17, rfl⟩
instance : TIn Tryd.prog 17 1 8 (.pointer none) := ⟨_, rfl, rfl, rfl, rfl, rfl, by decide⟩
instance : TSz Tryd.prog 18 1 := ⟨Tryd.sizeOf18⟩
instance : TAgg Tryd.prog 18 true := ⟨Tryd.isAgg18⟩
instance : TPl Tryd.prog 18 [(0, 1)] := ⟨_, Tryd.underlying18, fun w => by simp [List.mapM_cons]⟩
instance : TFd Tryd.prog 18 0 0 17 := ⟨_, _, Tryd.underlying18, rfl, rfl, rfl, fun w => ⟨0, Tryd.sizeOf17 w⟩⟩
instance : TZ Tryd.prog 18 (.agg #[.pointer none]) := ⟨Tryd.zeroValue18⟩
instance : TZL Tryd.prog 18 [.pointer none] := ⟨_, Tryd.zeroValue18, rfl⟩
instance : TIn Tryd.prog 18 1 8 (.agg #[.pointer none]) := ⟨_, rfl, rfl, rfl, rfl, rfl, by decide⟩
instance : TSz Tryd.prog 19 1 := ⟨Tryd.sizeOf19⟩
instance : TAgg Tryd.prog 19 true := ⟨Tryd.isAgg19⟩
instance : TPl Tryd.prog 19 [(0, 1)] := ⟨_, Tryd.underlying19, fun w => by simp [List.mapM_cons]⟩
instance : TFd Tryd.prog 19 0 0 17 := ⟨_, _, Tryd.underlying19, rfl, rfl, rfl, fun w => ⟨0, Tryd.sizeOf17 w⟩⟩
instance : TZ Tryd.prog 19 (.agg #[.pointer none]) := ⟨Tryd.zeroValue19⟩
instance : TZL Tryd.prog 19 [.pointer none] := ⟨_, Tryd.zeroValue19, rfl⟩
instance : TIn Tryd.prog 19 1 8 (.agg #[.pointer none]) := ⟨_, rfl, rfl, rfl, rfl, rfl, by decide⟩
instance : TSz Tryd.prog 20 1 := ⟨Tryd.sizeOf20⟩
instance : TAgg Tryd.prog 20 false := ⟨Tryd.isAgg20⟩
instance : TZ Tryd.prog 20 (.nilIface) := ⟨Tryd.zeroValue20⟩
instance : TZL Tryd.prog 20 [.nilIface] := ⟨_, Tryd.zeroValue20, rfl⟩
instance : TIn Tryd.prog 20 1 16 (.nilIface) := ⟨_, rfl, rfl, rfl, rfl, rfl, by decide⟩
instance : TSz Tryd.prog 21 1 := ⟨Tryd.sizeOf21⟩
instance : TAgg Tryd.prog 21 false := ⟨Tryd.isAgg21⟩
instance : TIt Tryd.prog 21 .i32 := ⟨Tryd.underlying21⟩
instance : TZ Tryd.prog 21 (.int .i32 0) := ⟨Tryd.zeroValue21⟩
instance : TZL Tryd.prog 21 [.int .i32 0] := ⟨_, Tryd.zeroValue21, rfl⟩
instance : TIn Tryd.prog 21 1 4 (.int .i32 0) := ⟨_, rfl, rfl, rfl, rfl, rfl, by decide⟩
instance : TSz Tryd.prog 22 1 := ⟨Tryd.sizeOf22⟩
instance : TAgg Tryd.prog 22 false := ⟨Tryd.isAgg22⟩
instance : TSl Tryd.prog 22 3 := ⟨Tryd.underlying22⟩
instance : TZ Tryd.prog 22 (.slice none 0 0) := ⟨Tryd.zeroValue22⟩
instance : TZL Tryd.prog 22 [.slice none 0 0] := ⟨_, Tryd.zeroValue22, rfl⟩
instance : TIn Tryd.prog 22 1 24 (.slice none 0 0) := ⟨_, rfl, rfl, rfl, rfl, rfl, by decide⟩
instance : TSz Tryd.prog 23 4 := ⟨Tryd.sizeOf23⟩
instance : TAgg Tryd.prog 23 true := ⟨Tryd.isAgg23⟩
instance : TPl Tryd.prog 23 [(0, 1), (1, 1), (2, 1), (3, 1)] := ⟨_, Tryd.underlying23, fun w => by simp [List.mapM_cons]⟩
instance : TFd Tryd.prog 23 0 0 3 := ⟨_, _, Tryd.underlying23, rfl, rfl, rfl, fun w => ⟨0, Tryd.sizeOf3 w⟩⟩
instance : TFd Tryd.prog 23 1 1 3 := ⟨_, _, Tryd.underlying23, rfl, rfl, rfl, fun w => ⟨0, Tryd.sizeOf3 w⟩⟩
instance : TFd Tryd.prog 23 2 2 3 := ⟨_, _, Tryd.underlying23, rfl, rfl, rfl, fun w => ⟨0, Tryd.sizeOf3 w⟩⟩
instance : TFd Tryd.prog 23 3 3 22 := ⟨_, _, Tryd.underlying23, rfl, rfl, rfl, fun w => ⟨0, Tryd.sizeOf22 w⟩⟩
instance : TZ Tryd.prog 23 (.agg #[.int .i64 0, .int .i64 0, .int .i64 0, .slice none 0 0]) := ⟨Tryd.zeroValue23⟩
instance : TZL Tryd.prog 23 [.int .i64 0, .int .i64 0, .int .i64 0, .slice none 0 0] := ⟨_, Tryd.zeroValue23, rfl⟩
instance : TIn Tryd.prog 23 4 48 (.agg #[.int .i64 0, .int .i64 0, .int .i64 0, .slice none 0 0]) := ⟨_, rfl, rfl, rfl, rfl, rfl, by decide⟩
instance : TSz Tryd.prog 24 4 := ⟨Tryd.sizeOf24⟩
instance : TAgg Tryd.prog 24 true := ⟨Tryd.isAgg24⟩
instance : TPl Tryd.prog 24 [(0, 1), (1, 1), (2, 1), (3, 1)] := ⟨_, Tryd.underlying24, fun w => by simp [List.mapM_cons]⟩
instance : TFd Tryd.prog 24 0 0 3 := ⟨_, _, Tryd.underlying24, rfl, rfl, rfl, fun w => ⟨0, Tryd.sizeOf3 w⟩⟩
instance : TFd Tryd.prog 24 1 1 3 := ⟨_, _, Tryd.underlying24, rfl, rfl, rfl, fun w => ⟨0, Tryd.sizeOf3 w⟩⟩
instance : TFd Tryd.prog 24 2 2 3 := ⟨_, _, Tryd.underlying24, rfl, rfl, rfl, fun w => ⟨0, Tryd.sizeOf3 w⟩⟩
instance : TFd Tryd.prog 24 3 3 22 := ⟨_, _, Tryd.underlying24, rfl, rfl, rfl, fun w => ⟨0, Tryd.sizeOf22 w⟩⟩
instance : TZ Tryd.prog 24 (.agg #[.int .i64 0, .int .i64 0, .int .i64 0, .slice none 0 0]) := ⟨Tryd.zeroValue24⟩
instance : TZL Tryd.prog 24 [.int .i64 0, .int .i64 0, .int .i64 0, .slice none 0 0] := ⟨_, Tryd.zeroValue24, rfl⟩
instance : TIn Tryd.prog 24 4 48 (.agg #[.int .i64 0, .int .i64 0, .int .i64 0, .slice none 0 0]) := ⟨_, rfl, rfl, rfl, rfl, rfl, by decide⟩
instance : TSz Tryd.prog 25 1 := ⟨Tryd.sizeOf25⟩
instance : TAgg Tryd.prog 25 false := ⟨Tryd.isAgg25⟩
instance : TSl Tryd.prog 25 9 := ⟨Tryd.underlying25⟩
instance : TZ Tryd.prog 25 (.slice none 0 0) := ⟨Tryd.zeroValue25⟩
instance : TZL Tryd.prog 25 [.slice none 0 0] := ⟨_, Tryd.zeroValue25, rfl⟩
instance : TIn Tryd.prog 25 1 24 (.slice none 0 0) := ⟨_, rfl, rfl, rfl, rfl, rfl, by decide⟩
instance : TSz Tryd.prog 26 5 := ⟨Tryd.sizeOf26⟩
instance : TAgg Tryd.prog 26 true := ⟨Tryd.isAgg26⟩
instance : TPl Tryd.prog 26 [(0, 1), (1, 1), (2, 1), (3, 1), (4, 1)] := ⟨_, Tryd.underlying26, fun w => by simp [List.mapM_cons]⟩
instance : TFd Tryd.prog 26 0 0 3 := ⟨_, _, Tryd.underlying26, rfl, rfl, rfl, fun w => ⟨0, Tryd.sizeOf3 w⟩⟩
instance : TFd Tryd.prog 26 1 1 3 := ⟨_, _, Tryd.underlying26, rfl, rfl, rfl, fun w => ⟨0, Tryd.sizeOf3 w⟩⟩
instance : TFd Tryd.prog 26 2 2 3 := ⟨_, _, Tryd.underlying26, rfl, rfl, rfl, fun w => ⟨0, Tryd.sizeOf3 w⟩⟩
instance : TFd Tryd.prog 26 3 3 3 := ⟨_, _, Tryd.underlying26, rfl, rfl, rfl, fun w => ⟨0, Tryd.sizeOf3 w⟩⟩
instance : TFd Tryd.prog 26 4 4 25 := ⟨_, _, Tryd.underlying26, rfl, rfl, rfl, fun w => ⟨0, Tryd.sizeOf25 w⟩⟩
instance : TZ Tryd.prog 26 (.agg #[.int .i64 0, .int .i64 0, .int .i64 0, .int .i64 0, .slice none 0 0]) := ⟨Tryd.zeroValue26⟩
instance : TZL Tryd.prog 26 [.int .i64 0, .int .i64 0, .int .i64 0, .int .i64 0, .slice none 0 0] := ⟨_, Tryd.zeroValue26, rfl⟩
instance : TIn Tryd.prog 26 5 56 (.agg #[.int .i64 0, .int .i64 0, .int .i64 0, .int .i64 0, .slice none 0 0]) := ⟨_, rfl, rfl, rfl, rfl, rfl, by decide⟩
instance : TSz Tryd.prog 27 5 := ⟨Tryd.sizeOf27⟩
instance : TAgg Tryd.prog 27 true := ⟨Tryd.isAgg27⟩
instance : TPl Tryd.prog 27 [(0, 1), (1, 1), (2, 1), (3, 1), (4, 1)] := ⟨_, Tryd.underlying27, fun w => by simp [List.mapM_cons]⟩
instance : TFd Tryd.prog 27 0 0 3 := ⟨_, _, Tryd.underlying27, rfl, rfl, rfl, fun w => ⟨0, Tryd.sizeOf3 w⟩⟩
instance : TFd Tryd.prog 27 1 1 3 := ⟨_, _, Tryd.underlying27, rfl, rfl, rfl, fun w => ⟨0, Tryd.sizeOf3 w⟩⟩
instance : TFd Tryd.prog 27 2 2 3 := ⟨_, _, Tryd.underlying27, rfl, rfl, rfl, fun w => ⟨0, Tryd.sizeOf3 w⟩⟩
instance : TFd Tryd.prog 27 3 3 3 := ⟨_, _, Tryd.underlying27, rfl, rfl, rfl, fun w => ⟨0, Tryd.sizeOf3 w⟩⟩
instance : TFd Tryd.prog 27 4 4 25 := ⟨_, _, Tryd.underlying27, rfl, rfl, rfl, fun w => ⟨0, Tryd.sizeOf25 w⟩⟩
instance : TZ Tryd.prog 27 (.agg #[.int .i64 0, .int .i64 0, .int .i64 0, .int .i64 0, .slice none 0 0]) := ⟨Tryd.zeroValue27⟩
instance : TZL Tryd.prog 27 [.int .i64 0, .int .i64 0, .int .i64 0, .int .i64 0, .slice none 0 0] := ⟨_, Tryd.zeroValue27, rfl⟩
instance : TIn Tryd.prog 27 5 56 (.agg #[.int .i64 0, .int .i64 0, .int .i64 0, .int .i64 0, .slice none 0 0]) := ⟨_, rfl, rfl, rfl, rfl, rfl, by decide⟩
instance : TSz Tryd.prog 28 1 := ⟨Tryd.sizeOf28⟩
instance : TAgg Tryd.prog 28 false := ⟨Tryd.isAgg28⟩
instance : TZ Tryd.prog 28 (.nilFunc) := ⟨Tryd.zeroValue28⟩
instance : TZL Tryd.prog 28 [.nilFunc] := ⟨_, Tryd.zeroValue28, rfl⟩
instance : TIn Tryd.prog 28 1 8 (.nilFunc) := ⟨_, rfl, rfl, rfl, rfl, rfl, by decide⟩
instance : TSz Tryd.prog 29 1 := ⟨Tryd.sizeOf29⟩
instance : TAgg Tryd.prog 29 false := ⟨Tryd.isAgg29⟩
instance : TPt Tryd.prog 29 := ⟨_, Tryd.underlying29⟩
instance : TZ Tryd.prog 29 (.pointer none) := ⟨Tryd.zeroValue29⟩
instance : TZL Tryd.prog 29 [.pointer none] := ⟨_, Tryd.zeroValue29, rfl⟩
instance : TIn Tryd.prog 29 1 8 (.pointer none) := ⟨_, rfl, rfl, rfl, rfl, rfl, by decide⟩
instance : TSz Tryd.prog 30 1 := ⟨Tryd.sizeOf30⟩
instance : TAgg Tryd.prog 30 false := ⟨Tryd.isAgg30⟩
instance : TIt Tryd.prog 30 .i64 := ⟨Tryd.underlying30⟩
instance : TZ Tryd.prog 30 (.int .i64 0) := ⟨Tryd.zeroValue30⟩
instance : TZL Tryd.prog 30 [.int .i64 0] := ⟨_, Tryd.zeroValue30, rfl⟩
instance : TIn Tryd.prog 30 1 8 (.int .i64 0) := ⟨_, rfl, rfl, rfl, rfl, rfl, by decide⟩
instance : TSz Tryd.prog 32 1 := ⟨Tryd.sizeOf32⟩
instance : TAgg Tryd.prog 32 false := ⟨Tryd.isAgg32⟩
instance : TZ Tryd.prog 32 (.nilFunc) := ⟨Tryd.zeroValue32⟩
instance : TZL Tryd.prog 32 [.nilFunc] := ⟨_, Tryd.zeroValue32, rfl⟩
instance : TIn Tryd.prog 32 1 8 (.nilFunc) := ⟨_, rfl, rfl, rfl, rfl, rfl, by decide⟩
instance : TSz Tryd.prog 33 1 := ⟨Tryd.sizeOf33⟩
instance : TAgg Tryd.prog 33 false := ⟨Tryd.isAgg33⟩
instance : TZ Tryd.prog 33 (.nilFunc) := ⟨Tryd.zeroValue33⟩
instance : TZL Tryd.prog 33 [.nilFunc] := ⟨_, Tryd.zeroValue33, rfl⟩
instance : TIn Tryd.prog 33 1 8 (.nilFunc) := ⟨_, rfl, rfl, rfl, rfl, rfl, by decide⟩
instance : TSz Tryd.prog 34 1 := ⟨Tryd.sizeOf34⟩
instance : TAgg Tryd.prog 34 false := ⟨Tryd.isAgg34⟩
instance : TZ Tryd.prog 34 (.nilFunc) := ⟨Tryd.zeroValue34⟩
instance : TZL Tryd.prog 34 [.nilFunc] := ⟨_, Tryd.zeroValue34, rfl⟩
instance : TIn Tryd.prog 34 1 8 (.nilFunc) := ⟨_, rfl, rfl, rfl, rfl, rfl, by decide⟩
instance : TSz Tryd.prog 35 2 := ⟨Tryd.sizeOf35⟩
instance : TAgg Tryd.prog 35 true := ⟨Tryd.isAgg35⟩
instance : TPl Tryd.prog 35 [(0, 1), (1, 1)] := ⟨_, Tryd.underlying35, fun w => by simp [List.mapM_cons]⟩
instance : TFd Tryd.prog 35 0 0 3 := ⟨_, _, Tryd.underlying35, rfl, rfl, rfl, fun w => ⟨0, Tryd.sizeOf3 w⟩⟩
instance : TFd Tryd.prog 35 1 1 22 := ⟨_, _, Tryd.underlying35, rfl, rfl, rfl, fun w => ⟨0, Tryd.sizeOf22 w⟩⟩
instance : TZ Tryd.prog 35 (.agg #[.int .i64 0, .slice none 0 0]) := ⟨Tryd.zeroValue35⟩
instance : TZL Tryd.prog 35 [.int .i64 0, .slice none 0 0] := ⟨_, Tryd.zeroValue35, rfl⟩
instance : TIn Tryd.prog 35 2 32 (.agg #[.int .i64 0, .slice none 0 0]) := ⟨_, rfl, rfl, rfl, rfl, rfl, by decide⟩
instance : TSz Tryd.prog 36 2 := ⟨Tryd.sizeOf36⟩
instance : TAgg Tryd.prog 36 true := ⟨Tryd.isAgg36⟩
instance : TPl Tryd.prog 36 [(0, 1), (1, 1)] := ⟨_, Tryd.underlying36, fun w => by simp [List.mapM_cons]⟩
instance : TFd Tryd.prog 36 0 0 3 := ⟨_, _, Tryd.underlying36, rfl, rfl, rfl, fun w => ⟨0, Tryd.sizeOf3 w⟩⟩
instance : TFd Tryd.prog 36 1 1 22 := ⟨_, _, Tryd.underlying36, rfl, rfl, rfl, fun w => ⟨0, Tryd.sizeOf22 w⟩⟩
instance : TZ Tryd.prog 36 (.agg #[.int .i64 0, .slice none 0 0]) := ⟨Tryd.zeroValue36⟩
instance : TZL Tryd.prog 36 [.int .i64 0, .slice none 0 0] := ⟨_, Tryd.zeroValue36, rfl⟩
instance : TIn Tryd.prog 36 2 32 (.agg #[.int .i64 0, .slice none 0 0]) := ⟨_, rfl, rfl, rfl, rfl, rfl, by decide⟩
instance : TSz Tryd.prog 38 1 := ⟨Tryd.sizeOf38⟩
instance : TAgg Tryd.prog 38 false := ⟨Tryd.isAgg38⟩
instance : TZ Tryd.prog 38 (.nilFunc) := ⟨Tryd.zeroValue38⟩
instance : TZL Tryd.prog 38 [.nilFunc] := ⟨_, Tryd.zeroValue38, rfl⟩
instance : TIn Tryd.prog 38 1 8 (.nilFunc) := ⟨_, rfl, rfl, rfl, rfl, rfl, by decide⟩
instance : TSz Tryd.prog 39 1 := ⟨Tryd.sizeOf39⟩
instance : TAgg Tryd.prog 39 false := ⟨Tryd.isAgg39⟩
instance : TZ Tryd.prog 39 (.nilFunc) := ⟨Tryd.zeroValue39⟩
instance : TZL Tryd.prog 39 [.nilFunc] := ⟨_, Tryd.zeroValue39, rfl⟩
instance : TIn Tryd.prog 39 1 8 (.nilFunc) := ⟨_, rfl, rfl, rfl, rfl, rfl, by decide⟩
instance : TSz Tryd.prog 40 1 := ⟨Tryd.sizeOf40⟩
instance : TAgg Tryd.prog 40 false := ⟨Tryd.isAgg40⟩
instance : TZ Tryd.prog 40 (.nilFunc) := ⟨Tryd.zeroValue40⟩
instance : TZL Tryd.prog 40 [.nilFunc] := ⟨_, Tryd.zeroValue40, rfl⟩
instance : TIn Tryd.prog 40 1 8 (.nilFunc) := ⟨_, rfl, rfl, rfl, rfl, rfl, by decide⟩
instance : TSz Tryd.prog 41 1 := ⟨Tryd.sizeOf41⟩
instance : TAgg Tryd.prog 41 false := ⟨Tryd.isAgg41⟩
instance : TZ Tryd.prog 41 (.nilFunc) := ⟨Tryd.zeroValue41⟩
instance : TZL Tryd.prog 41 [.nilFunc] := ⟨_, Tryd.zeroValue41, rfl⟩
instance : TIn Tryd.prog 41 1 8 (.nilFunc) := ⟨_, rfl, rfl, rfl, rfl, rfl, by decide⟩
instance : TSz Tryd.prog 42 1 := ⟨Tryd.sizeOf42⟩
instance : TAgg Tryd.prog 42 false := ⟨Tryd.isAgg42⟩
instance : TZ Tryd.prog 42 (.nilFunc) := ⟨Tryd.zeroValue42⟩
instance : TZL Tryd.prog 42 [.nilFunc] := ⟨_, Tryd.zeroValue42, rfl⟩
instance : TIn Tryd.prog 42 1 8 (.nilFunc) := ⟨_, rfl, rfl, rfl, rfl, rfl, by decide⟩
instance : TSz Tryd.prog 43 1 := ⟨Tryd.sizeOf43⟩
instance : TAgg Tryd.prog 43 false := ⟨Tryd.isAgg43⟩
instance : TZ Tryd.prog 43 (.nilFunc) := ⟨Tryd.zeroValue43⟩
instance : TZL Tryd.prog 43 [.nilFunc] := ⟨_, Tryd.zeroValue43, rfl⟩
instance : TIn Tryd.prog 43 1 8 (.nilFunc) := ⟨_, rfl, rfl, rfl, rfl, rfl, by decide⟩
instance : TSz Tryd.prog 44 1 := ⟨Tryd.sizeOf44⟩
instance : TAgg Tryd.prog 44 false := ⟨Tryd.isAgg44⟩
instance : TZ Tryd.prog 44 (.nilFunc) := ⟨Tryd.zeroValue44⟩
instance : TZL Tryd.prog 44 [.nilFunc] := ⟨_, Tryd.zeroValue44, rfl⟩
instance : TIn Tryd.prog 44 1 8 (.nilFunc) := ⟨_, rfl, rfl, rfl, rfl, rfl, by decide⟩
instance : TSz Tryd.prog 45 1 := ⟨Tryd.sizeOf45⟩
instance : TAgg Tryd.prog 45 false := ⟨Tryd.isAgg45⟩
instance : TZ Tryd.prog 45 (.nilFunc) := ⟨Tryd.zeroValue45⟩
instance : TZL Tryd.prog 45 [.nilFunc] := ⟨_, Tryd.zeroValue45, rfl⟩
instance : TIn Tryd.prog 45 1 8 (.nilFunc) := ⟨_, rfl, rfl, rfl, rfl, rfl, by decide⟩
instance : TSz Tryd.prog 46 1 := ⟨Tryd.sizeOf46⟩
instance : TAgg Tryd.prog 46 false := ⟨Tryd.isAgg46⟩
instance : TIt Tryd.prog 46 .u64 := ⟨Tryd.underlying46⟩
instance : TZ Tryd.prog 46 (.int .u64 0) := ⟨Tryd.zeroValue46⟩
instance : TZL Tryd.prog 46 [.int .u64 0] := ⟨_, Tryd.zeroValue46, rfl⟩
instance : TIn Tryd.prog 46 1 8 (.int .u64 0) := ⟨_, rfl, rfl, rfl, rfl, rfl, by decide⟩
instance : TSz Tryd.prog 47 1 := ⟨Tryd.sizeOf47⟩
instance : TAgg Tryd.prog 47 false := ⟨Tryd.isAgg47⟩
instance : TZ Tryd.prog 47 (.nilFunc) := ⟨Tryd.zeroValue47⟩
instance : TZL Tryd.prog 47 [.nilFunc] := ⟨_, Tryd.zeroValue47, rfl⟩
instance : TIn Tryd.prog 47 1 8 (.nilFunc) := ⟨_, rfl, rfl, rfl, rfl, rfl, by decide⟩
instance : TSz Tryd.prog 48 1 := ⟨Tryd.sizeOf48⟩
instance : TAgg Tryd.prog 48 false := ⟨Tryd.isAgg48⟩
instance : TZ Tryd.prog 48 (.nilFunc) := ⟨Tryd.zeroValue48⟩
instance : TZL Tryd.prog 48 [.nilFunc] := ⟨_, Tryd.zeroValue48, rfl⟩
instance : TIn Tryd.prog 48 1 8 (.nilFunc) := ⟨_, rfl, rfl, rfl, rfl, rfl, by decide⟩
instance : TSz Tryd.prog 49 1 := ⟨Tryd.sizeOf49⟩
instance : TAgg Tryd.prog 49 false := ⟨Tryd.isAgg49⟩
instance : TZ Tryd.prog 49 (.nilFunc) := ⟨Tryd.zeroValue49⟩
instance : TZL Tryd.prog 49 [.nilFunc] := ⟨_, Tryd.zeroValue49, rfl⟩
instance : TIn Tryd.prog 49 1 8 (.nilFunc) := ⟨_, rfl, rfl, rfl, rfl, rfl, by decide⟩
instance : TSz Tryd.prog 50 1 := ⟨Tryd.sizeOf50⟩
instance : TAgg Tryd.prog 50 false := ⟨Tryd.isAgg50⟩
instance : TZ Tryd.prog 50 (.nilFunc) := ⟨Tryd.zeroValue50⟩
instance : TZL Tryd.prog 50 [.nilFunc] := ⟨_, Tryd.zeroValue50, rfl⟩
instance : TIn Tryd.prog 50 1 8 (.nilFunc) := ⟨_, rfl, rfl, rfl, rfl, rfl, by decide⟩
instance : TSz Tryd.prog 51 1 := ⟨Tryd.sizeOf51⟩
instance : TAgg Tryd.prog 51 false := ⟨Tryd.isAgg51⟩
instance : TMap Tryd.prog 51 3 3 := ⟨Tryd.underlying51⟩
instance : TZ Tryd.prog 51 (.map none) := ⟨Tryd.zeroValue51⟩
instance : TZL Tryd.prog 51 [.map none] := ⟨_, Tryd.zeroValue51, rfl⟩
instance : TIn Tryd.prog 51 1 8 (.map none) := ⟨_, rfl, rfl, rfl, rfl, rfl, by decide⟩
instance : TSz Tryd.prog 52 5 := ⟨Tryd.sizeOf52⟩
instance : TAgg Tryd.prog 52 true := ⟨Tryd.isAgg52⟩
instance : TPl Tryd.prog 52 [(0, 4), (4, 1)] := ⟨_, Tryd.underlying52, fun w => by simp [List.mapM_cons]⟩
instance : TFd Tryd.prog 52 0 0 24 := ⟨_, _, Tryd.underlying52, rfl, rfl, rfl, fun w => ⟨3, Tryd.sizeOf24 w⟩⟩
instance : TFd Tryd.prog 52 1 4 51 := ⟨_, _, Tryd.underlying52, rfl, rfl, rfl, fun w => ⟨0, Tryd.sizeOf51 w⟩⟩
instance : TZ Tryd.prog 52 (.agg #[.int .i64 0, .int .i64 0, .int .i64 0, .slice none 0 0, .map none]) := ⟨Tryd.zeroValue52⟩
instance : TZL Tryd.prog 52 [.int .i64 0, .int .i64 0, .int .i64 0, .slice none 0 0, .map none] := ⟨_, Tryd.zeroValue52, rfl⟩
instance : TIn Tryd.prog 52 5 56 (.agg #[.int .i64 0, .int .i64 0, .int .i64 0, .slice none 0 0, .map none]) := ⟨_, rfl, rfl, rfl, rfl, rfl, by decide⟩
instance : TSz Tryd.prog 53 5 := ⟨Tryd.sizeOf53⟩
instance : TAgg Tryd.prog 53 true := ⟨Tryd.isAgg53⟩
instance : TPl Tryd.prog 53 [(0, 4), (4, 1)] := ⟨_, Tryd.underlying53, fun w => by simp [List.mapM_cons]⟩
instance : TFd Tryd.prog 53 0 0 24 := ⟨_, _, Tryd.underlying53, rfl, rfl, rfl, fun w => ⟨3, Tryd.sizeOf24 w⟩⟩
instance : TFd Tryd.prog 53 1 4 51 := ⟨_, _, Tryd.underlying53, rfl, rfl, rfl, fun w => ⟨0, Tryd.sizeOf51 w⟩⟩
instance : TZ Tryd.prog 53 (.agg #[.int .i64 0, .int .i64 0, .int .i64 0, .slice none 0 0, .map none]) := ⟨Tryd.zeroValue53⟩
instance : TZL Tryd.prog 53 [.int .i64 0, .int .i64 0, .int .i64 0, .slice none 0 0, .map none] := ⟨_, Tryd.zeroValue53, rfl⟩
instance : TIn Tryd.prog 53 5 56 (.agg #[.int .i64 0, .int .i64 0, .int .i64 0, .slice none 0 0, .map none]) := ⟨_, rfl, rfl, rfl, rfl, rfl, by decide⟩
instance : TSz Tryd.prog 54 1 := ⟨Tryd.sizeOf54⟩
instance : TAgg Tryd.prog 54 false := ⟨Tryd.isAgg54⟩
instance : TZ Tryd.prog 54 (.nilFunc) := ⟨Tryd.zeroValue54⟩
instance : TZL Tryd.prog 54 [.nilFunc] := ⟨_, Tryd.zeroValue54, rfl⟩
instance : TIn Tryd.prog 54 1 8 (.nilFunc) := ⟨_, rfl, rfl, rfl, rfl, rfl, by decide⟩
instance : TSz Tryd.prog 55 1 := ⟨Tryd.sizeOf55⟩
instance : TAgg Tryd.prog 55 false := ⟨Tryd.isAgg55⟩
instance : TZ Tryd.prog 55 (.nilFunc) := ⟨Tryd.zeroValue55⟩
instance : TZL Tryd.prog 55 [.nilFunc] := ⟨_, Tryd.zeroValue55, rfl⟩
instance : TIn Tryd.prog 55 1 8 (.nilFunc) := ⟨_, rfl, rfl, rfl, rfl, rfl, by decide⟩
instance : TSz Tryd.prog 56 1 := ⟨Tryd.sizeOf56⟩
instance : TAgg Tryd.prog 56 false := ⟨Tryd.isAgg56⟩
instance : TZ Tryd.prog 56 (.nilFunc) := ⟨Tryd.zeroValue56⟩
instance : TZL Tryd.prog 56 [.nilFunc] := ⟨_, Tryd.zeroValue56, rfl⟩
instance : TIn Tryd.prog 56 1 8 (.nilFunc) := ⟨_, rfl, rfl, rfl, rfl, rfl, by decide⟩
instance : TSz Tryd.prog 57 1 := ⟨Tryd.sizeOf57⟩
instance : TAgg Tryd.prog 57 false := ⟨Tryd.isAgg57⟩
instance : TZ Tryd.prog 57 (.nilFunc) := ⟨Tryd.zeroValue57⟩
instance : TZL Tryd.prog 57 [.nilFunc] := ⟨_, Tryd.zeroValue57, rfl⟩
instance : TIn Tryd.prog 57 1 8 (.nilFunc) := ⟨_, rfl, rfl, rfl, rfl, rfl, by decide⟩
instance : TSz Tryd.prog 58 1 := ⟨Tryd.sizeOf58⟩
instance : TAgg Tryd.prog 58 false := ⟨Tryd.isAgg58⟩
instance : TMap Tryd.prog 58 9 3 := ⟨Tryd.underlying58⟩
instance : TZ Tryd.prog 58 (.map none) := ⟨Tryd.zeroValue58⟩
instance : TZL Tryd.prog 58 [.map none] := ⟨_, Tryd.zeroValue58, rfl⟩
instance : TIn Tryd.prog 58 1 8 (.map none) := ⟨_, rfl, rfl, rfl, rfl, rfl, by decide⟩
instance : TSz Tryd.prog 59 1 := ⟨Tryd.sizeOf59⟩
instance : TAgg Tryd.prog 59 false := ⟨Tryd.isAgg59⟩
instance : TZ Tryd.prog 59 (.nilFunc) := ⟨Tryd.zeroValue59⟩
instance : TZL Tryd.prog 59 [.nilFunc] := ⟨_, Tryd.zeroValue59, rfl⟩
instance : TIn Tryd.prog 59 1 8 (.nilFunc) := ⟨_, rfl, rfl, rfl, rfl, rfl, by decide⟩
instance : TSz Tryd.prog 60 1 := ⟨Tryd.sizeOf60⟩
instance : TAgg Tryd.prog 60 false := ⟨Tryd.isAgg60⟩
instance : TSl Tryd.prog 60 61 := ⟨Tryd.underlying60⟩
instance : TZ Tryd.prog 60 (.slice none 0 0) := ⟨Tryd.zeroValue60⟩
instance : TZL Tryd.prog 60 [.slice none 0 0] := ⟨_, Tryd.zeroValue60, rfl⟩
instance : TIn Tryd.prog 60 1 24 (.slice none 0 0) := ⟨_, rfl, rfl, rfl, rfl, rfl, by decide⟩
instance : TSz Tryd.prog 61 1 := ⟨Tryd.sizeOf61⟩
instance : TAgg Tryd.prog 61 false := ⟨Tryd.isAgg61⟩
instance : TSl Tryd.prog 61 64 := ⟨Tryd.underlying61⟩
instance : TZ Tryd.prog 61 (.slice none 0 0) := ⟨Tryd.zeroValue61⟩
instance : TZL Tryd.prog 61 [.slice none 0 0] := ⟨_, Tryd.zeroValue61, rfl⟩
instance : TIn Tryd.prog 61 1 24 (.slice none 0 0) := ⟨_, rfl, rfl, rfl, rfl, rfl, by decide⟩
instance : TSz Tryd.prog 62 1 := ⟨Tryd.sizeOf62⟩
instance : TAgg Tryd.prog 62 false := ⟨Tryd.isAgg62⟩
instance : TZ Tryd.prog 62 (.nilFunc) := ⟨Tryd.zeroValue62⟩
instance : TZL Tryd.prog 62 [.nilFunc] := ⟨_, Tryd.zeroValue62, rfl⟩
instance : TIn Tryd.prog 62 1 8 (.nilFunc) := ⟨_, rfl, rfl, rfl, rfl, rfl, by decide⟩
instance : TSz Tryd.prog 63 5 := ⟨Tryd.sizeOf63⟩
instance : TAgg Tryd.prog 63 true := ⟨Tryd.isAgg63⟩
instance : TPl Tryd.prog 63 [(0, 1), (1, 1), (2, 1), (3, 1), (4, 1)] := ⟨_, Tryd.underlying63, fun w => by simp [List.mapM_cons]⟩
instance : TFd Tryd.prog 63 0 0 4 := ⟨_, _, Tryd.underlying63, rfl, rfl, rfl, fun w => ⟨0, Tryd.sizeOf4 w⟩⟩
instance : TFd Tryd.prog 63 1 1 3 := ⟨_, _, Tryd.underlying63, rfl, rfl, rfl, fun w => ⟨0, Tryd.sizeOf3 w⟩⟩
instance : TFd Tryd.prog 63 2 2 3 := ⟨_, _, Tryd.underlying63, rfl, rfl, rfl, fun w => ⟨0, Tryd.sizeOf3 w⟩⟩
instance : TFd Tryd.prog 63 3 3 3 := ⟨_, _, Tryd.underlying63, rfl, rfl, rfl, fun w => ⟨0, Tryd.sizeOf3 w⟩⟩
instance : TFd Tryd.prog 63 4 4 3 := ⟨_, _, Tryd.underlying63, rfl, rfl, rfl, fun w => ⟨0, Tryd.sizeOf3 w⟩⟩
instance : TZ Tryd.prog 63 (.agg #[.bool false, .int .i64 0, .int .i64 0, .int .i64 0, .int .i64 0]) := ⟨Tryd.zeroValue63⟩
instance : TZL Tryd.prog 63 [.bool false, .int .i64 0, .int .i64 0, .int .i64 0, .int .i64 0] := ⟨_, Tryd.zeroValue63, rfl⟩
instance : TIn Tryd.prog 63 5 40 (.agg #[.bool false, .int .i64 0, .int .i64 0, .int .i64 0, .int .i64 0]) := ⟨_, rfl, rfl, rfl, rfl, rfl, by decide⟩
instance : TSz Tryd.prog 64 5 := ⟨Tryd.sizeOf64⟩
instance : TAgg Tryd.prog 64 true := ⟨Tryd.isAgg64⟩
instance : TPl Tryd.prog 64 [(0, 1), (1, 1), (2, 1), (3, 1), (4, 1)] := ⟨_, Tryd.underlying64, fun w => by simp [List.mapM_cons]⟩
instance : TFd Tryd.prog 64 0 0 4 := ⟨_, _, Tryd.underlying64, rfl, rfl, rfl, fun w => ⟨0, Tryd.sizeOf4 w⟩⟩
instance : TFd Tryd.prog 64 1 1 3 := ⟨_, _, Tryd.underlying64, rfl, rfl, rfl, fun w => ⟨0, Tryd.sizeOf3 w⟩⟩
instance : TFd Tryd.prog 64 2 2 3 := ⟨_, _, Tryd.underlying64, rfl, rfl, rfl, fun w => ⟨0, Tryd.sizeOf3 w⟩⟩
instance : TFd Tryd.prog 64 3 3 3 := ⟨_, _, Tryd.underlying64, rfl, rfl, rfl, fun w => ⟨0, Tryd.sizeOf3 w⟩⟩
instance : TFd Tryd.prog 64 4 4 3 := ⟨_, _, Tryd.underlying64, rfl, rfl, rfl, fun w => ⟨0, Tryd.sizeOf3 w⟩⟩
instance : TZ Tryd.prog 64 (.agg #[.bool false, .int .i64 0, .int .i64 0, .int .i64 0, .int .i64 0]) := ⟨Tryd.zeroValue64⟩
instance : TZL Tryd.prog 64 [.bool false, .int .i64 0, .int .i64 0, .int .i64 0, .int .i64 0] := ⟨_, Tryd.zeroValue64, rfl⟩
instance : TIn Tryd.prog 64 5 40 (.agg #[.bool false, .int .i64 0, .int .i64 0, .int .i64 0, .int .i64 0]) := ⟨_, rfl, rfl, rfl, rfl, rfl, by decide⟩
instance : TSz Tryd.prog 65 1 := ⟨Tryd.sizeOf65⟩
instance : TAgg Tryd.prog 65 false := ⟨Tryd.isAgg65⟩
instance : TZ Tryd.prog 65 (.nilFunc) := ⟨Tryd.zeroValue65⟩
instance : TZL Tryd.prog 65 [.nilFunc] := ⟨_, Tryd.zeroValue65, rfl⟩
instance : TIn Tryd.prog 65 1 8 (.nilFunc) := ⟨_, rfl, rfl, rfl, rfl, rfl, by decide⟩
instance : TSz Tryd.prog 66 1 := ⟨Tryd.sizeOf66⟩
instance : TAgg Tryd.prog 66 false := ⟨Tryd.isAgg66⟩
instance : TZ Tryd.prog 66 (.nilFunc) := ⟨Tryd.zeroValue66⟩
instance : TZL Tryd.prog 66 [.nilFunc] := ⟨_, Tryd.zeroValue66, rfl⟩
instance : TIn Tryd.prog 66 1 8 (.nilFunc) := ⟨_, rfl, rfl, rfl, rfl, rfl, by decide⟩
instance : TSz Tryd.prog 67 1 := ⟨Tryd.sizeOf67⟩
instance : TAgg Tryd.prog 67 false := ⟨Tryd.isAgg67⟩
instance : TZ Tryd.prog 67 (.nilFunc) := ⟨Tryd.zeroValue67⟩
instance : TZL Tryd.prog 67 [.nilFunc] := ⟨_, Tryd.zeroValue67, rfl⟩
instance : TIn Tryd.prog 67 1 8 (.nilFunc) := ⟨_, rfl, rfl, rfl, rfl, rfl, by decide⟩
instance : TSz Tryd.prog 68 1 := ⟨Tryd.sizeOf68⟩
instance : TAgg Tryd.prog 68 false := ⟨Tryd.isAgg68⟩
instance : TZ Tryd.prog 68 (.nilFunc) := ⟨Tryd.zeroValue68⟩
instance : TZL Tryd.prog 68 [.nilFunc] := ⟨_, Tryd.zeroValue68, rfl⟩
instance : TIn Tryd.prog 68 1 8 (.nilFunc) := ⟨_, rfl, rfl, rfl, rfl, rfl, by decide⟩
instance : TSz Tryd.prog 69 1 := ⟨Tryd.sizeOf69⟩
instance : TAgg Tryd.prog 69 false := ⟨Tryd.isAgg69⟩
instance : TZ Tryd.prog 69 (.nilFunc) := ⟨Tryd.zeroValue69⟩
instance : TZL Tryd.prog 69 [.nilFunc] := ⟨_, Tryd.zeroValue69, rfl⟩
instance : TIn Tryd.prog 69 1 8 (.nilFunc) := ⟨_, rfl, rfl, rfl, rfl, rfl, by decide⟩
instance : TSz Tryd.prog 70 1 := ⟨Tryd.sizeOf70⟩
instance : TAgg Tryd.prog 70 false := ⟨Tryd.isAgg70⟩
instance : TZ Tryd.prog 70 (.nilFunc) := ⟨Tryd.zeroValue70⟩
instance : TZL Tryd.prog 70 [.nilFunc] := ⟨_, Tryd.zeroValue70, rfl⟩
instance : TIn Tryd.prog 70 1 8 (.nilFunc) := ⟨_, rfl, rfl, rfl, rfl, rfl, by decide⟩
instance : TSz Tryd.prog 71 1 := ⟨Tryd.sizeOf71⟩
instance : TAgg Tryd.prog 71 false := ⟨Tryd.isAgg71⟩
instance : TZ Tryd.prog 71 (.nilFunc) := ⟨Tryd.zeroValue71⟩
instance : TZL Tryd.prog 71 [.nilFunc] := ⟨_, Tryd.zeroValue71, rfl⟩
instance : TIn Tryd.prog 71 1 8 (.nilFunc) := ⟨_, rfl, rfl, rfl, rfl, rfl, by decide⟩
instance : TSz Tryd.prog 72 1 := ⟨Tryd.sizeOf72⟩
instance : TAgg Tryd.prog 72 false := ⟨Tryd.isAgg72⟩
instance : TZ Tryd.prog 72 (.nilFunc) := ⟨Tryd.zeroValue72⟩
instance : TZL Tryd.prog 72 [.nilFunc] := ⟨_, Tryd.zeroValue72, rfl⟩
instance : TIn Tryd.prog 72 1 8 (.nilFunc) := ⟨_, rfl, rfl, rfl, rfl, rfl, by decide⟩
instance : TSz Tryd.prog 73 1 := ⟨Tryd.sizeOf73⟩
instance : TAgg Tryd.prog 73 false := ⟨Tryd.isAgg73⟩
instance : TZ Tryd.prog 73 (.nilFunc) := ⟨Tryd.zeroValue73⟩
instance : TZL Tryd.prog 73 [.nilFunc] := ⟨_, Tryd.zeroValue73, rfl⟩
instance : TIn Tryd.prog 73 1 8 (.nilFunc) := ⟨_, rfl, rfl, rfl, rfl, rfl, by decide⟩
instance : TSz Tryd.prog 74 1 := ⟨Tryd.sizeOf74⟩
instance : TAgg Tryd.prog 74 false := ⟨Tryd.isAgg74⟩
instance : TZ Tryd.prog 74 (.nilFunc) := ⟨Tryd.zeroValue74⟩
instance : TZL Tryd.prog 74 [.nilFunc] := ⟨_, Tryd.zeroValue74, rfl⟩
instance : TIn Tryd.prog 74 1 8 (.nilFunc) := ⟨_, rfl, rfl, rfl, rfl, rfl, by decide⟩
instance : TSz Tryd.prog 75 1 := ⟨Tryd.sizeOf75⟩
instance : TAgg Tryd.prog 75 false := ⟨Tryd.isAgg75⟩
instance : TZ Tryd.prog 75 (.nilFunc) := ⟨Tryd.zeroValue75⟩
instance : TZL Tryd.prog 75 [.nilFunc] := ⟨_, Tryd.zeroValue75, rfl⟩
instance : TIn Tryd.prog 75 1 8 (.nilFunc) := ⟨_, rfl, rfl, rfl, rfl, rfl, by decide⟩
instance : TSz Tryd.prog 76 1 := ⟨Tryd.sizeOf76⟩
instance : TAgg Tryd.prog 76 false := ⟨Tryd.isAgg76⟩
instance : TZ Tryd.prog 76 (.nilFunc) := ⟨Tryd.zeroValue76⟩
instance : TZL Tryd.prog 76 [.nilFunc] := ⟨_, Tryd.zeroValue76, rfl⟩
instance : TIn Tryd.prog 76 1 8 (.nilFunc) := ⟨_, rfl, rfl, rfl, rfl, rfl, by decide⟩
instance : TSz Tryd.prog 77 1 := ⟨Tryd.sizeOf77⟩
instance : TAgg Tryd.prog 77 false := ⟨Tryd.isAgg77⟩
instance : TZ Tryd.prog 77 (.nilFunc) := ⟨Tryd.zeroValue77⟩
instance : TZL Tryd.prog 77 [.nilFunc] := ⟨_, Tryd.zeroValue77, rfl⟩
instance : TIn Tryd.prog 77 1 8 (.nilFunc) := ⟨_, rfl, rfl, rfl, rfl, rfl, by decide⟩
instance : TSz Tryd.prog 79 1 := ⟨Tryd.sizeOf79⟩
instance : TAgg Tryd.prog 79 false := ⟨Tryd.isAgg79⟩
instance : TZ Tryd.prog 79 (.nilFunc) := ⟨Tryd.zeroValue79⟩
instance : TZL Tryd.prog 79 [.nilFunc] := ⟨_, Tryd.zeroValue79, rfl⟩
instance : TIn Tryd.prog 79 1 8 (.nilFunc) := ⟨_, rfl, rfl, rfl, rfl, rfl, by decide⟩
instance : TSz Tryd.prog 80 1 := ⟨Tryd.sizeOf80⟩
instance : TAgg Tryd.prog 80 false := ⟨Tryd.isAgg80⟩
instance : TZ Tryd.prog 80 (.nilFunc) := ⟨Tryd.zeroValue80⟩
instance : TZL Tryd.prog 80 [.nilFunc] := ⟨_, Tryd.zeroValue80, rfl⟩
instance : TIn Tryd.prog 80 1 8 (.nilFunc) := ⟨_, rfl, rfl, rfl, rfl, rfl, by decide⟩
instance : TSz Tryd.prog 82 1 := ⟨Tryd.sizeOf82⟩
instance : TAgg Tryd.prog 82 false := ⟨Tryd.isAgg82⟩
instance : TZ Tryd.prog 82 (.nilFunc) := ⟨Tryd.zeroValue82⟩
instance : TZL Tryd.prog 82 [.nilFunc] := ⟨_, Tryd.zeroValue82, rfl⟩
instance : TIn Tryd.prog 82 1 8 (.nilFunc) := ⟨_, rfl, rfl, rfl, rfl, rfl, by decide⟩
instance : TSz Tryd.prog 83 1 := ⟨Tryd.sizeOf83⟩
instance : TAgg Tryd.prog 83 false := ⟨Tryd.isAgg83⟩
instance : TZ Tryd.prog 83 (.nilFunc) := ⟨Tryd.zeroValue83⟩
instance : TZL Tryd.prog 83 [.nilFunc] := ⟨_, Tryd.zeroValue83, rfl⟩
instance : TIn Tryd.prog 83 1 8 (.nilFunc) := ⟨_, rfl, rfl, rfl, rfl, rfl, by decide⟩
instance : TSz Tryd.prog 84 1 := ⟨Tryd.sizeOf84⟩
instance : TAgg Tryd.prog 84 false := ⟨Tryd.isAgg84⟩
instance : TZ Tryd.prog 84 (.nilFunc) := ⟨Tryd.zeroValue84⟩
instance : TZL Tryd.prog 84 [.nilFunc] := ⟨_, Tryd.zeroValue84, rfl⟩
instance : TIn Tryd.prog 84 1 8 (.nilFunc) := ⟨_, rfl, rfl, rfl, rfl, rfl, by decide⟩
instance : TSz Tryd.prog 85 1 := ⟨Tryd.sizeOf85⟩
instance : TAgg Tryd.prog 85 false := ⟨Tryd.isAgg85⟩
instance : TZ Tryd.prog 85 (.nilFunc) := ⟨Tryd.zeroValue85⟩
instance : TZL Tryd.prog 85 [.nilFunc] := ⟨_, Tryd.zeroValue85, rfl⟩
instance : TIn Tryd.prog 85 1 8 (.nilFunc) := ⟨_, rfl, rfl, rfl, rfl, rfl, by decide⟩
instance : TSz Tryd.prog 86 1 := ⟨Tryd.sizeOf86⟩
instance : TAgg Tryd.prog 86 false := ⟨Tryd.isAgg86⟩
instance : TZ Tryd.prog 86 (.nilFunc) := ⟨Tryd.zeroValue86⟩
instance : TZL Tryd.prog 86 [.nilFunc] := ⟨_, Tryd.zeroValue86, rfl⟩
instance : TIn Tryd.prog 86 1 8 (.nilFunc) := ⟨_, rfl, rfl, rfl, rfl, rfl, by decide⟩
instance : TSz Tryd.prog 87 1 := ⟨Tryd.sizeOf87⟩
instance : TAgg Tryd.prog 87 false := ⟨Tryd.isAgg87⟩
instance : TZ Tryd.prog 87 (.nilFunc) := ⟨Tryd.zeroValue87⟩
instance : TZL Tryd.prog 87 [.nilFunc] := ⟨_, Tryd.zeroValue87, rfl⟩
instance : TIn Tryd.prog 87 1 8 (.nilFunc) := ⟨_, rfl, rfl, rfl, rfl, rfl, by decide⟩
instance : TSz Tryd.prog 88 1 := ⟨Tryd.sizeOf88⟩
instance : TAgg Tryd.prog 88 false := ⟨Tryd.isAgg88⟩
instance : TSl Tryd.prog 88 5 := ⟨Tryd.underlying88⟩
instance : TZ Tryd.prog 88 (.slice none 0 0) := ⟨Tryd.zeroValue88⟩
instance : TZL Tryd.prog 88 [.slice none 0 0] := ⟨_, Tryd.zeroValue88, rfl⟩
instance : TIn Tryd.prog 88 1 24 (.slice none 0 0) := ⟨_, rfl, rfl, rfl, rfl, rfl, by decide⟩
instance : TSz Tryd.prog 89 1 := ⟨Tryd.sizeOf89⟩
instance : TAgg Tryd.prog 89 false := ⟨Tryd.isAgg89⟩
instance : TZ Tryd.prog 89 (.nilFunc) := ⟨Tryd.zeroValue89⟩
instance : TZL Tryd.prog 89 [.nilFunc] := ⟨_, Tryd.zeroValue89, rfl⟩
instance : TIn Tryd.prog 89 1 8 (.nilFunc) := ⟨_, rfl, rfl, rfl, rfl, rfl, by decide⟩
instance : TSz Tryd.prog 90 1 := ⟨Tryd.sizeOf90⟩
instance : TAgg Tryd.prog 90 false := ⟨Tryd.isAgg90⟩
instance : TZ Tryd.prog 90 (.nilFunc) := ⟨Tryd.zeroValue90⟩
instance : TZL Tryd.prog 90 [.nilFunc] := ⟨_, Tryd.zeroValue90, rfl⟩
instance : TIn Tryd.prog 90 1 8 (.nilFunc) := ⟨_, rfl, rfl, rfl, rfl, rfl, by decide⟩
instance : TSz Tryd.prog 91 1 := ⟨Tryd.sizeOf91⟩
instance : TAgg Tryd.prog 91 false := ⟨Tryd.isAgg91⟩
instance : TZ Tryd.prog 91 (.nilFunc) := ⟨Tryd.zeroValue91⟩
instance : TZL Tryd.prog 91 [.nilFunc] := ⟨_, Tryd.zeroValue91, rfl⟩
instance : TIn Tryd.prog 91 1 8 (.nilFunc) := ⟨_, rfl, rfl, rfl, rfl, rfl, by decide⟩
instance : TSz Tryd.prog 92 1 := ⟨Tryd.sizeOf92⟩
instance : TAgg Tryd.prog 92 false := ⟨Tryd.isAgg92⟩
instance : TZ Tryd.prog 92 (.nilFunc) := ⟨Tryd.zeroValue92⟩
instance : TZL Tryd.prog 92 [.nilFunc] := ⟨_, Tryd.zeroValue92, rfl⟩
instance : TIn Tryd.prog 92 1 8 (.nilFunc) := ⟨_, rfl, rfl, rfl, rfl, rfl, by decide⟩
instance : TSz Tryd.prog 94 1 := ⟨Tryd.sizeOf94⟩
instance : TAgg Tryd.prog 94 false := ⟨Tryd.isAgg94⟩
instance : TZ Tryd.prog 94 (.nilFunc) := ⟨Tryd.zeroValue94⟩
instance : TZL Tryd.prog 94 [.nilFunc] := ⟨_, Tryd.zeroValue94, rfl⟩
instance : TIn Tryd.prog 94 1 8 (.nilFunc) := ⟨_, rfl, rfl, rfl, rfl, rfl, by decide⟩
instance : TSz Tryd.prog 95 1 := ⟨Tryd.sizeOf95⟩
instance : TAgg Tryd.prog 95 false := ⟨Tryd.isAgg95⟩
instance : TSl Tryd.prog 95 22 := ⟨Tryd.underlying95⟩
instance : TZ Tryd.prog 95 (.slice none 0 0) := ⟨Tryd.zeroValue95⟩
instance : TZL Tryd.prog 95 [.slice none 0 0] := ⟨_, Tryd.zeroValue95, rfl⟩
instance : TIn Tryd.prog 95 1 24 (.slice none 0 0) := ⟨_, rfl, rfl, rfl, rfl, rfl, by decide⟩
instance : TSz Tryd.prog 96 1 := ⟨Tryd.sizeOf96⟩
instance : TAgg Tryd.prog 96 false := ⟨Tryd.isAgg96⟩
instance : TZ Tryd.prog 96 (.nilFunc) := ⟨Tryd.zeroValue96⟩
instance : TZL Tryd.prog 96 [.nilFunc] := ⟨_, Tryd.zeroValue96, rfl⟩
instance : TIn Tryd.prog 96 1 8 (.nilFunc) := ⟨_, rfl, rfl, rfl, rfl, rfl, by decide⟩
instance : TSz Tryd.prog 97 1 := ⟨Tryd.sizeOf97⟩
instance : TAgg Tryd.prog 97 false := ⟨Tryd.isAgg97⟩
instance : TZ Tryd.prog 97 (.nilFunc) := ⟨Tryd.zeroValue97⟩
instance : TZL Tryd.prog 97 [.nilFunc] := ⟨_, Tryd.zeroValue97, rfl⟩
instance : TIn Tryd.prog 97 1 8 (.nilFunc) := ⟨_, rfl, rfl, rfl, rfl, rfl, by decide⟩
instance : TSz Tryd.prog 98 1 := ⟨Tryd.sizeOf98⟩
instance : TAgg Tryd.prog 98 false := ⟨Tryd.isAgg98⟩
instance : TIt Tryd.prog 98 .i64 := ⟨Tryd.underlying98⟩
instance : TZ Tryd.prog 98 (.int .i64 0) := ⟨Tryd.zeroValue98⟩
instance : TZL Tryd.prog 98 [.int .i64 0] := ⟨_, Tryd.zeroValue98, rfl⟩
instance : TIn Tryd.prog 98 1 8 (.int .i64 0) := ⟨_, rfl, rfl, rfl, rfl, rfl, by decide⟩
instance : TSz Tryd.prog 100 1 := ⟨Tryd.sizeOf100⟩
instance : TAgg Tryd.prog 100 false := ⟨Tryd.isAgg100⟩
instance : TZ Tryd.prog 100 (.nilFunc) := ⟨Tryd.zeroValue100⟩
instance : TZL Tryd.prog 100 [.nilFunc] := ⟨_, Tryd.zeroValue100, rfl⟩
instance : TIn Tryd.prog 100 1 8 (.nilFunc) := ⟨_, rfl, rfl, rfl, rfl, rfl, by decide⟩
instance : TSz Tryd.prog 101 1 := ⟨Tryd.sizeOf101⟩
instance : TAgg Tryd.prog 101 false := ⟨Tryd.isAgg101⟩
instance : TZ Tryd.prog 101 (.nilFunc) := ⟨Tryd.zeroValue101⟩
instance : TZL Tryd.prog 101 [.nilFunc] := ⟨_, Tryd.zeroValue101, rfl⟩
instance : TIn Tryd.prog 101 1 8 (.nilFunc) := ⟨_, rfl, rfl, rfl, rfl, rfl, by decide⟩
instance : TSz Tryd.prog 102 1 := ⟨Tryd.sizeOf102⟩
instance : TAgg Tryd.prog 102 false := ⟨Tryd.isAgg102⟩
instance : TZ Tryd.prog 102 (.nilFunc) := ⟨Tryd.zeroValue102⟩
instance : TZL Tryd.prog 102 [.nilFunc] := ⟨_, Tryd.zeroValue102, rfl⟩
instance : TIn Tryd.prog 102 1 8 (.nilFunc) := ⟨_, rfl, rfl, rfl, rfl, rfl, by decide⟩
instance : TSz Tryd.prog 104 1 := ⟨Tryd.sizeOf104⟩
instance : TAgg Tryd.prog 104 false := ⟨Tryd.isAgg104⟩
instance : TZ Tryd.prog 104 (.nilFunc) := ⟨Tryd.zeroValue104⟩
instance : TZL Tryd.prog 104 [.nilFunc] := ⟨_, Tryd.zeroValue104, rfl⟩
instance : TIn Tryd.prog 104 1 8 (.nilFunc) := ⟨_, rfl, rfl, rfl, rfl, rfl, by decide⟩
instance : TSz Tryd.prog 105 1 := ⟨Tryd.sizeOf105⟩
instance : TAgg Tryd.prog 105 false := ⟨Tryd.isAgg105⟩
instance : TZ Tryd.prog 105 (.nilFunc) := ⟨Tryd.zeroValue105⟩
instance : TZL Tryd.prog 105 [.nilFunc] := ⟨_, Tryd.zeroValue105, rfl⟩
instance : TIn Tryd.prog 105 1 8 (.nilFunc) := ⟨_, rfl, rfl, rfl, rfl, rfl, by decide⟩
instance : TSz Tryd.prog 106 1 := ⟨Tryd.sizeOf106⟩
instance : TAgg Tryd.prog 106 false := ⟨Tryd.isAgg106⟩
instance : TIt Tryd.prog 106 .u32 := ⟨Tryd.underlying106⟩
instance : TZ Tryd.prog 106 (.int .u32 0) := ⟨Tryd.zeroValue106⟩
instance : TZL Tryd.prog 106 [.int .u32 0] := ⟨_, Tryd.zeroValue106, rfl⟩
instance : TIn Tryd.prog 106 1 4 (.int .u32 0) := ⟨_, rfl, rfl, rfl, rfl, rfl, by decide⟩
instance : TSz Tryd.prog 107 1 := ⟨Tryd.sizeOf107⟩
instance : TAgg Tryd.prog 107 false := ⟨Tryd.isAgg107⟩
instance : TZ Tryd.prog 107 (.nilFunc) := ⟨Tryd.zeroValue107⟩
instance : TZL Tryd.prog 107 [.nilFunc] := ⟨_, Tryd.zeroValue107, rfl⟩
instance : TIn Tryd.prog 107 1 8 (.nilFunc) := ⟨_, rfl, rfl, rfl, rfl, rfl, by decide⟩
instance : TSz Tryd.prog 108 1 := ⟨Tryd.sizeOf108⟩
instance : TAgg Tryd.prog 108 false := ⟨Tryd.isAgg108⟩
instance : TIt Tryd.prog 108 .u64 := ⟨Tryd.underlying108⟩
instance : TZ Tryd.prog 108 (.int .u64 0) := ⟨Tryd.zeroValue108⟩
instance : TZL Tryd.prog 108 [.int .u64 0] := ⟨_, Tryd.zeroValue108, rfl⟩
instance : TIn Tryd.prog 108 1 8 (.int .u64 0) := ⟨_, rfl, rfl, rfl, rfl, rfl, by decide⟩
instance : TSz Tryd.prog 110 1 := ⟨Tryd.sizeOf110⟩
instance : TAgg Tryd.prog 110 false := ⟨Tryd.isAgg110⟩
instance : TZ Tryd.prog 110 (.nilFunc) := ⟨Tryd.zeroValue110⟩
instance : TZL Tryd.prog 110 [.nilFunc] := ⟨_, Tryd.zeroValue110, rfl⟩
instance : TIn Tryd.prog 110 1 8 (.nilFunc) := ⟨_, rfl, rfl, rfl, rfl, rfl, by decide⟩
instance : TSz Tryd.prog 112 1 := ⟨Tryd.sizeOf112⟩
instance : TAgg Tryd.prog 112 false := ⟨Tryd.isAgg112⟩
instance : TZ Tryd.prog 112 (.nilFunc) := ⟨Tryd.zeroValue112⟩
instance : TZL Tryd.prog 112 [.nilFunc] := ⟨_, Tryd.zeroValue112, rfl⟩
instance : TIn Tryd.prog 112 1 8 (.nilFunc) := ⟨_, rfl, rfl, rfl, rfl, rfl, by decide⟩
instance : TSz Tryd.prog 113 24 := ⟨Tryd.sizeOf113⟩
instance : TAgg Tryd.prog 113 true := ⟨Tryd.isAgg113⟩
instance : TSz Tryd.prog 114 1 := ⟨Tryd.sizeOf114⟩
instance : TAgg Tryd.prog 114 false := ⟨Tryd.isAgg114⟩
instance : TZ Tryd.prog 114 (.nilFunc) := ⟨Tryd.zeroValue114⟩
instance : TZL Tryd.prog 114 [.nilFunc] := ⟨_, Tryd.zeroValue114, rfl⟩
instance : TIn Tryd.prog 114 1 8 (.nilFunc) := ⟨_, rfl, rfl, rfl, rfl, rfl, by decide⟩
instance : TSz Tryd.prog 116 1 := ⟨Tryd.sizeOf116⟩
instance : TAgg Tryd.prog 116 false := ⟨Tryd.isAgg116⟩
instance : TZ Tryd.prog 116 (.nilFunc) := ⟨Tryd.zeroValue116⟩
instance : TZL Tryd.prog 116 [.nilFunc] := ⟨_, Tryd.zeroValue116, rfl⟩
instance : TIn Tryd.prog 116 1 8 (.nilFunc) := ⟨_, rfl, rfl, rfl, rfl, rfl, by decide⟩
instance : TSz Tryd.prog 117 1 := ⟨Tryd.sizeOf117⟩
instance : TAgg Tryd.prog 117 false := ⟨Tryd.isAgg117⟩
instance : TIt Tryd.prog 117 .u64 := ⟨Tryd.underlying117⟩
instance : TZ Tryd.prog 117 (.int .u64 0) := ⟨Tryd.zeroValue117⟩
instance : TZL Tryd.prog 117 [.int .u64 0] := ⟨_, Tryd.zeroValue117, rfl⟩
instance : TIn Tryd.prog 117 1 8 (.int .u64 0) := ⟨_, rfl, rfl, rfl, rfl, rfl, by decide⟩
instance : TSz Tryd.prog 118 1 := ⟨Tryd.sizeOf118⟩
instance : TAgg Tryd.prog 118 false := ⟨Tryd.isAgg118⟩
instance : TZ Tryd.prog 118 (.nilFunc) := ⟨Tryd.zeroValue118⟩
instance : TZL Tryd.prog 118 [.nilFunc] := ⟨_, Tryd.zeroValue118, rfl⟩
instance : TIn Tryd.prog 118 1 8 (.nilFunc) := ⟨_, rfl, rfl, rfl, rfl, rfl, by decide⟩
instance : TSz Tryd.prog 119 1 := ⟨Tryd.sizeOf119⟩
instance : TAgg Tryd.prog 119 false := ⟨Tryd.isAgg119⟩
instance : TZ Tryd.prog 119 (.nilFunc) := ⟨Tryd.zeroValue119⟩
instance : TZL Tryd.prog 119 [.nilFunc] := ⟨_, Tryd.zeroValue119, rfl⟩
instance : TIn Tryd.prog 119 1 8 (.nilFunc) := ⟨_, rfl, rfl, rfl, rfl, rfl, by decide⟩
instance : TSz Tryd.prog 120 1 := ⟨Tryd.sizeOf120⟩
instance : TAgg Tryd.prog 120 false := ⟨Tryd.isAgg120⟩
instance : TZ Tryd.prog 120 (.nilFunc) := ⟨Tryd.zeroValue120⟩
instance : TZL Tryd.prog 120 [.nilFunc] := ⟨_, Tryd.zeroValue120, rfl⟩
instance : TIn Tryd.prog 120 1 8 (.nilFunc) := ⟨_, rfl, rfl, rfl, rfl, rfl, by decide⟩
instance : TSz Tryd.prog 121 1 := ⟨Tryd.sizeOf121⟩
instance : TAgg Tryd.prog 121 false := ⟨Tryd.isAgg121⟩
instance : TPt Tryd.prog 121 := ⟨_, Tryd.underlying121⟩
instance : TZ Tryd.prog 121 (.pointer none) := ⟨Tryd.zeroValue121⟩
instance : TZL Tryd.prog 121 [.pointer none] := ⟨_, Tryd.zeroValue121, rfl⟩
instance : TIn Tryd.prog 121 1 8 (.pointer none) := ⟨_, rfl, rfl, rfl, rfl, rfl, by decide⟩
instance : TSz Tryd.prog 122 1 := ⟨Tryd.sizeOf122⟩
instance : TAgg Tryd.prog 122 false := ⟨Tryd.isAgg122⟩
instance : TZ Tryd.prog 122 (.nilFunc) := ⟨Tryd.zeroValue122⟩
instance : TZL Tryd.prog 122 [.nilFunc] := ⟨_, Tryd.zeroValue122, rfl⟩
instance : TIn Tryd.prog 122 1 8 (.nilFunc) := ⟨_, rfl, rfl, rfl, rfl, rfl, by decide⟩
instance : TSz Tryd.prog 123 1 := ⟨Tryd.sizeOf123⟩
instance : TAgg Tryd.prog 123 false := ⟨Tryd.isAgg123⟩
instance : TZ Tryd.prog 123 (.nilFunc) := ⟨Tryd.zeroValue123⟩
instance : TZL Tryd.prog 123 [.nilFunc] := ⟨_, Tryd.zeroValue123, rfl⟩
instance : TIn Tryd.prog 123 1 8 (.nilFunc) := ⟨_, rfl, rfl, rfl, rfl, rfl, by decide⟩
instance : TSz Tryd.prog 124 1 := ⟨Tryd.sizeOf124⟩
instance : TAgg Tryd.prog 124 false := ⟨Tryd.isAgg124⟩
instance : TZ Tryd.prog 124 (.nilFunc) := ⟨Tryd.zeroValue124⟩
instance : TZL Tryd.prog 124 [.nilFunc] := ⟨_, Tryd.zeroValue124, rfl⟩
instance : TIn Tryd.prog 124 1 8 (.nilFunc) := ⟨_, rfl, rfl, rfl, rfl, rfl, by decide⟩
instance : TSz Tryd.prog 125 20 := ⟨Tryd.sizeOf125⟩
instance : TAgg Tryd.prog 125 true := ⟨Tryd.isAgg125⟩
instance : TSz Tryd.prog 126 65 := ⟨Tryd.sizeOf126⟩
instance : TAgg Tryd.prog 126 true := ⟨Tryd.isAgg126⟩
instance : TSz Tryd.prog 127 1 := ⟨Tryd.sizeOf127⟩
instance : TAgg Tryd.prog 127 false := ⟨Tryd.isAgg127⟩
instance : TPt Tryd.prog 127 := ⟨_, Tryd.underlying127⟩
instance : TZ Tryd.prog 127 (.pointer none) := ⟨Tryd.zeroValue127⟩
instance : TZL Tryd.prog 127 [.pointer none] := ⟨_, Tryd.zeroValue127, rfl⟩
instance : TIn Tryd.prog 127 1 8 (.pointer none) := ⟨_, rfl, rfl, rfl, rfl, rfl, by decide⟩
instance : TSz Tryd.prog 129 1 := ⟨Tryd.sizeOf129⟩
instance : TAgg Tryd.prog 129 false := ⟨Tryd.isAgg129⟩
instance : TZ Tryd.prog 129 (.nilFunc) := ⟨Tryd.zeroValue129⟩
instance : TZL Tryd.prog 129 [.nilFunc] := ⟨_, Tryd.zeroValue129, rfl⟩
instance : TIn Tryd.prog 129 1 8 (.nilFunc) := ⟨_, rfl, rfl, rfl, rfl, rfl, by decide⟩
instance : TSz Tryd.prog 130 32 := ⟨Tryd.sizeOf130⟩
instance : TAgg Tryd.prog 130 true := ⟨Tryd.isAgg130⟩
instance : TSz Tryd.prog 131 64 := ⟨Tryd.sizeOf131⟩
instance : TAgg Tryd.prog 131 true := ⟨Tryd.isAgg131⟩
instance : TSz Tryd.prog 132 1 := ⟨Tryd.sizeOf132⟩
instance : TAgg Tryd.prog 132 false := ⟨Tryd.isAgg132⟩
instance : TZ Tryd.prog 132 (.nilFunc) := ⟨Tryd.zeroValue132⟩
instance : TZL Tryd.prog 132 [.nilFunc] := ⟨_, Tryd.zeroValue132, rfl⟩
instance : TIn Tryd.prog 132 1 8 (.nilFunc) := ⟨_, rfl, rfl, rfl, rfl, rfl, by decide⟩
instance : TSz Tryd.prog 133 4 := ⟨Tryd.sizeOf133⟩
instance : TAgg Tryd.prog 133 true := ⟨Tryd.isAgg133⟩
instance : TPl Tryd.prog 133 [(0, 1), (1, 1), (2, 1), (3, 1)] := ⟨_, Tryd.underlying133, fun w => by simp [List.mapM_cons]⟩
instance : TFd Tryd.prog 133 0 0 17 := ⟨_, _, Tryd.underlying133, rfl, rfl, rfl, fun w => ⟨0, Tryd.sizeOf17 w⟩⟩
instance : TFd Tryd.prog 133 1 1 17 := ⟨_, _, Tryd.underlying133, rfl, rfl, rfl, fun w => ⟨0, Tryd.sizeOf17 w⟩⟩
instance : TFd Tryd.prog 133 2 2 17 := ⟨_, _, Tryd.underlying133, rfl, rfl, rfl, fun w => ⟨0, Tryd.sizeOf17 w⟩⟩
instance : TFd Tryd.prog 133 3 3 9 := ⟨_, _, Tryd.underlying133, rfl, rfl, rfl, fun w => ⟨0, Tryd.sizeOf9 w⟩⟩
instance : TZ Tryd.prog 133 (.agg #[.pointer none, .pointer none, .pointer none, .string ⟨#[]⟩]) := ⟨Tryd.zeroValue133⟩
instance : TZL Tryd.prog 133 [.pointer none, .pointer none, .pointer none, .string ⟨#[]⟩] := ⟨_, Tryd.zeroValue133, rfl⟩
instance : TIn Tryd.prog 133 4 40 (.agg #[.pointer none, .pointer none, .pointer none, .string ⟨#[]⟩]) := ⟨_, rfl, rfl, rfl, rfl, rfl, by decide⟩
instance : TSz Tryd.prog 134 4 := ⟨Tryd.sizeOf134⟩
instance : TAgg Tryd.prog 134 true := ⟨Tryd.isAgg134⟩
instance : TPl Tryd.prog 134 [(0, 1), (1, 1), (2, 1), (3, 1)] := ⟨_, Tryd.underlying134, fun w => by simp [List.mapM_cons]⟩
instance : TFd Tryd.prog 134 0 0 17 := ⟨_, _, Tryd.underlying134, rfl, rfl, rfl, fun w => ⟨0, Tryd.sizeOf17 w⟩⟩
instance : TFd Tryd.prog 134 1 1 17 := ⟨_, _, Tryd.underlying134, rfl, rfl, rfl, fun w => ⟨0, Tryd.sizeOf17 w⟩⟩
instance : TFd Tryd.prog 134 2 2 17 := ⟨_, _, Tryd.underlying134, rfl, rfl, rfl, fun w => ⟨0, Tryd.sizeOf17 w⟩⟩
instance : TFd Tryd.prog 134 3 3 9 := ⟨_, _, Tryd.underlying134, rfl, rfl, rfl, fun w => ⟨0, Tryd.sizeOf9 w⟩⟩
instance : TZ Tryd.prog 134 (.agg #[.pointer none, .pointer none, .pointer none, .string ⟨#[]⟩]) := ⟨Tryd.zeroValue134⟩
instance : TZL Tryd.prog 134 [.pointer none, .pointer none, .pointer none, .string ⟨#[]⟩] := ⟨_, Tryd.zeroValue134, rfl⟩
instance : TIn Tryd.prog 134 4 40 (.agg #[.pointer none, .pointer none, .pointer none, .string ⟨#[]⟩]) := ⟨_, rfl, rfl, rfl, rfl, rfl, by decide⟩
instance : TSz Tryd.prog 135 0 := ⟨Tryd.sizeOf135⟩
instance : TAgg Tryd.prog 135 true := ⟨Tryd.isAgg135⟩
instance : TSz Tryd.prog 136 0 := ⟨Tryd.sizeOf136⟩
instance : TAgg Tryd.prog 136 true := ⟨Tryd.isAgg136⟩
instance : TPl Tryd.prog 136 [(0, 0)] := ⟨_, Tryd.underlying136, fun w => by simp [List.mapM_cons]⟩
instance : TSz Tryd.prog 137 0 := ⟨Tryd.sizeOf137⟩
instance : TAgg Tryd.prog 137 true := ⟨Tryd.isAgg137⟩
instance : TPl Tryd.prog 137 [(0, 0)] := ⟨_, Tryd.underlying137, fun w => by simp [List.mapM_cons]⟩
instance : TSz Tryd.prog 138 1 := ⟨Tryd.sizeOf138⟩
instance : TAgg Tryd.prog 138 false := ⟨Tryd.isAgg138⟩
instance : TZ Tryd.prog 138 (.nilFunc) := ⟨Tryd.zeroValue138⟩
instance : TZL Tryd.prog 138 [.nilFunc] := ⟨_, Tryd.zeroValue138, rfl⟩
instance : TIn Tryd.prog 138 1 8 (.nilFunc) := ⟨_, rfl, rfl, rfl, rfl, rfl, by decide⟩
instance : TSz Tryd.prog 139 1 := ⟨Tryd.sizeOf139⟩
instance : TAgg Tryd.prog 139 false := ⟨Tryd.isAgg139⟩
instance : TIt Tryd.prog 139 .u8 := ⟨Tryd.underlying139⟩
instance : TZ Tryd.prog 139 (.int .u8 0) := ⟨Tryd.zeroValue139⟩
instance : TZL Tryd.prog 139 [.int .u8 0] := ⟨_, Tryd.zeroValue139, rfl⟩
instance : TIn Tryd.prog 139 1 1 (.int .u8 0) := ⟨_, rfl, rfl, rfl, rfl, rfl, by decide⟩
instance : TSz Tryd.prog 140 1 := ⟨Tryd.sizeOf140⟩
instance : TAgg Tryd.prog 140 false := ⟨Tryd.isAgg140⟩
instance : TIt Tryd.prog 140 .u8 := ⟨Tryd.underlying140⟩
instance : TZ Tryd.prog 140 (.int .u8 0) := ⟨Tryd.zeroValue140⟩
instance : TZL Tryd.prog 140 [.int .u8 0] := ⟨_, Tryd.zeroValue140, rfl⟩
instance : TIn Tryd.prog 140 1 1 (.int .u8 0) := ⟨_, rfl, rfl, rfl, rfl, rfl, by decide⟩
instance : TSz Tryd.prog 141 1 := ⟨Tryd.sizeOf141⟩
instance : TAgg Tryd.prog 141 false := ⟨Tryd.isAgg141⟩
instance : TZ Tryd.prog 141 (.nilFunc) := ⟨Tryd.zeroValue141⟩
instance : TZL Tryd.prog 141 [.nilFunc] := ⟨_, Tryd.zeroValue141, rfl⟩
instance : TIn Tryd.prog 141 1 8 (.nilFunc) := ⟨_, rfl, rfl, rfl, rfl, rfl, by decide⟩
instance : TSz Tryd.prog 142 1 := ⟨Tryd.sizeOf142⟩
instance : TAgg Tryd.prog 142 false := ⟨Tryd.isAgg142⟩
instance : TPt Tryd.prog 142 := ⟨_, Tryd.underlying142⟩
instance : TZ Tryd.prog 142 (.pointer none) := ⟨Tryd.zeroValue142⟩
instance : TZL Tryd.prog 142 [.pointer none] := ⟨_, Tryd.zeroValue142, rfl⟩
instance : TIn Tryd.prog 142 1 8 (.pointer none) := ⟨_, rfl, rfl, rfl, rfl, rfl, by decide⟩
instance : TSz Tryd.prog 143 1 := ⟨Tryd.sizeOf143⟩
instance : TAgg Tryd.prog 143 false := ⟨Tryd.isAgg143⟩
instance : TIt Tryd.prog 143 .i32 := ⟨Tryd.underlying143⟩
instance : TZ Tryd.prog 143 (.int .i32 0) := ⟨Tryd.zeroValue143⟩
instance : TZL Tryd.prog 143 [.int .i32 0] := ⟨_, Tryd.zeroValue143, rfl⟩
instance : TIn Tryd.prog 143 1 4 (.int .i32 0) := ⟨_, rfl, rfl, rfl, rfl, rfl, by decide⟩
instance : TSz Tryd.prog 144 1 := ⟨Tryd.sizeOf144⟩
instance : TAgg Tryd.prog 144 false := ⟨Tryd.isAgg144⟩
instance : TIt Tryd.prog 144 .i32 := ⟨Tryd.underlying144⟩
instance : TZ Tryd.prog 144 (.int .i32 0) := ⟨Tryd.zeroValue144⟩
instance : TZL Tryd.prog 144 [.int .i32 0] := ⟨_, Tryd.zeroValue144, rfl⟩
instance : TIn Tryd.prog 144 1 4 (.int .i32 0) := ⟨_, rfl, rfl, rfl, rfl, rfl, by decide⟩
instance : TSz Tryd.prog 145 11 := ⟨Tryd.sizeOf145⟩
instance : TAgg Tryd.prog 145 true := ⟨Tryd.isAgg145⟩
instance : TPl Tryd.prog 145 [(0, 1), (1, 1), (2, 1), (3, 1), (4, 1), (5, 1), (6, 1), (7, 1), (8, 1), (9, 1), (10, 1)] := ⟨_, Tryd.underlying145, fun w => by simp [List.mapM_cons]⟩
instance : TFd Tryd.prog 145 0 0 12 := ⟨_, _, Tryd.underlying145, rfl, rfl, rfl, fun w => ⟨0, Tryd.sizeOf12 w⟩⟩
instance : TFd Tryd.prog 145 1 1 12 := ⟨_, _, Tryd.underlying145, rfl, rfl, rfl, fun w => ⟨0, Tryd.sizeOf12 w⟩⟩
instance : TFd Tryd.prog 145 2 2 106 := ⟨_, _, Tryd.underlying145, rfl, rfl, rfl, fun w => ⟨0, Tryd.sizeOf106 w⟩⟩
instance : TFd Tryd.prog 145 3 3 139 := ⟨_, _, Tryd.underlying145, rfl, rfl, rfl, fun w => ⟨0, Tryd.sizeOf139 w⟩⟩
instance : TFd Tryd.prog 145 4 4 5 := ⟨_, _, Tryd.underlying145, rfl, rfl, rfl, fun w => ⟨0, Tryd.sizeOf5 w⟩⟩
instance : TFd Tryd.prog 145 5 5 5 := ⟨_, _, Tryd.underlying145, rfl, rfl, rfl, fun w => ⟨0, Tryd.sizeOf5 w⟩⟩
instance : TFd Tryd.prog 145 6 6 140 := ⟨_, _, Tryd.underlying145, rfl, rfl, rfl, fun w => ⟨0, Tryd.sizeOf140 w⟩⟩
instance : TFd Tryd.prog 145 7 7 141 := ⟨_, _, Tryd.underlying145, rfl, rfl, rfl, fun w => ⟨0, Tryd.sizeOf141 w⟩⟩
instance : TFd Tryd.prog 145 8 8 142 := ⟨_, _, Tryd.underlying145, rfl, rfl, rfl, fun w => ⟨0, Tryd.sizeOf142 w⟩⟩
instance : TFd Tryd.prog 145 9 9 143 := ⟨_, _, Tryd.underlying145, rfl, rfl, rfl, fun w => ⟨0, Tryd.sizeOf143 w⟩⟩
instance : TFd Tryd.prog 145 10 10 144 := ⟨_, _, Tryd.underlying145, rfl, rfl, rfl, fun w => ⟨0, Tryd.sizeOf144 w⟩⟩
instance : TZ Tryd.prog 145 (.agg #[.int .u64 0, .int .u64 0, .int .u32 0, .int .u8 0, .int .u8 0, .int .u8 0, .int .u8 0, .nilFunc, .pointer none, .int .i32 0, .int .i32 0]) := ⟨Tryd.zeroValue145⟩
instance : TZL Tryd.prog 145 [.int .u64 0, .int .u64 0, .int .u32 0, .int .u8 0, .int .u8 0, .int .u8 0, .int .u8 0, .nilFunc, .pointer none, .int .i32 0, .int .i32 0] := ⟨_, Tryd.zeroValue145, rfl⟩
instance : TIn Tryd.prog 145 11 48 (.agg #[.int .u64 0, .int .u64 0, .int .u32 0, .int .u8 0, .int .u8 0, .int .u8 0, .int .u8 0, .nilFunc, .pointer none, .int .i32 0, .int .i32 0]) := ⟨_, rfl, rfl, rfl, rfl, rfl, by decide⟩
instance : TSz Tryd.prog 146 11 := ⟨Tryd.sizeOf146⟩
instance : TAgg Tryd.prog 146 true := ⟨Tryd.isAgg146⟩
instance : TPl Tryd.prog 146 [(0, 1), (1, 1), (2, 1), (3, 1), (4, 1), (5, 1), (6, 1), (7, 1), (8, 1), (9, 1), (10, 1)] := ⟨_, Tryd.underlying146, fun w => by simp [List.mapM_cons]⟩
instance : TFd Tryd.prog 146 0 0 12 := ⟨_, _, Tryd.underlying146, rfl, rfl, rfl, fun w => ⟨0, Tryd.sizeOf12 w⟩⟩
instance : TFd Tryd.prog 146 1 1 12 := ⟨_, _, Tryd.underlying146, rfl, rfl, rfl, fun w => ⟨0, Tryd.sizeOf12 w⟩⟩
instance : TFd Tryd.prog 146 2 2 106 := ⟨_, _, Tryd.underlying146, rfl, rfl, rfl, fun w => ⟨0, Tryd.sizeOf106 w⟩⟩
instance : TFd Tryd.prog 146 3 3 139 := ⟨_, _, Tryd.underlying146, rfl, rfl, rfl, fun w => ⟨0, Tryd.sizeOf139 w⟩⟩
instance : TFd Tryd.prog 146 4 4 5 := ⟨_, _, Tryd.underlying146, rfl, rfl, rfl, fun w => ⟨0, Tryd.sizeOf5 w⟩⟩
instance : TFd Tryd.prog 146 5 5 5 := ⟨_, _, Tryd.underlying146, rfl, rfl, rfl, fun w => ⟨0, Tryd.sizeOf5 w⟩⟩
instance : TFd Tryd.prog 146 6 6 140 := ⟨_, _, Tryd.underlying146, rfl, rfl, rfl, fun w => ⟨0, Tryd.sizeOf140 w⟩⟩
instance : TFd Tryd.prog 146 7 7 141 := ⟨_, _, Tryd.underlying146, rfl, rfl, rfl, fun w => ⟨0, Tryd.sizeOf141 w⟩⟩
instance : TFd Tryd.prog 146 8 8 142 := ⟨_, _, Tryd.underlying146, rfl, rfl, rfl, fun w => ⟨0, Tryd.sizeOf142 w⟩⟩
instance : TFd Tryd.prog 146 9 9 143 := ⟨_, _, Tryd.underlying146, rfl, rfl, rfl, fun w => ⟨0, Tryd.sizeOf143 w⟩⟩
instance : TFd Tryd.prog 146 10 10 144 := ⟨_, _, Tryd.underlying146, rfl, rfl, rfl, fun w => ⟨0, Tryd.sizeOf144 w⟩⟩
instance : TZ Tryd.prog 146 (.agg #[.int .u64 0, .int .u64 0, .int .u32 0, .int .u8 0, .int .u8 0, .int .u8 0, .int .u8 0, .nilFunc, .pointer none, .int .i32 0, .int .i32 0]) := ⟨Tryd.zeroValue146⟩
instance : TZL Tryd.prog 146 [.int .u64 0, .int .u64 0, .int .u32 0, .int .u8 0, .int .u8 0, .int .u8 0, .int .u8 0, .nilFunc, .pointer none, .int .i32 0, .int .i32 0] := ⟨_, Tryd.zeroValue146, rfl⟩
instance : TIn Tryd.prog 146 11 48 (.agg #[.int .u64 0, .int .u64 0, .int .u32 0, .int .u8 0, .int .u8 0, .int .u8 0, .int .u8 0, .nilFunc, .pointer none, .int .i32 0, .int .i32 0]) := ⟨_, rfl, rfl, rfl, rfl, rfl, by decide⟩
instance : TSz Tryd.prog 147 1 := ⟨Tryd.sizeOf147⟩
instance : TAgg Tryd.prog 147 false := ⟨Tryd.isAgg147⟩
instance : TFn Tryd.prog 3 := ⟨Tryd.call3⟩
instance : TBody Tryd.prog 3 Tryd.f3 (Tryd.f3.body.getD .skip) 60 := ⟨Tryd.func3, rfl, Tryd.ntmps3⟩
instance : TFn Tryd.prog 4 := ⟨Tryd.call4⟩
instance : TBody Tryd.prog 4 Tryd.f4 (Tryd.f4.body.getD .skip) 108 := ⟨Tryd.func4, rfl, Tryd.ntmps4⟩
instance : TFn Tryd.prog 5 := ⟨Tryd.call5⟩
instance : TBody Tryd.prog 5 Tryd.f5 (Tryd.f5.body.getD .skip) 113 := ⟨Tryd.func5, rfl, Tryd.ntmps5⟩
instance : TFn Tryd.prog 6 := ⟨Tryd.call6⟩
instance : TBody Tryd.prog 6 Tryd.f6 (Tryd.f6.body.getD .skip) 141 := ⟨Tryd.func6, rfl, Tryd.ntmps6⟩
instance : TFn Tryd.prog 7 := ⟨Tryd.call7⟩
instance : TBody Tryd.prog 7 Tryd.f7 (Tryd.f7.body.getD .skip) 48 := ⟨Tryd.func7, rfl, Tryd.ntmps7⟩
instance : TFn Tryd.prog 8 := ⟨Tryd.call8⟩
instance : TBody Tryd.prog 8 Tryd.f8 (Tryd.f8.body.getD .skip) 67 := ⟨Tryd.func8, rfl, Tryd.ntmps8⟩
instance : TFn Tryd.prog 9 := ⟨Tryd.call9⟩
instance : TBody Tryd.prog 9 Tryd.f9 (Tryd.f9.body.getD .skip) 54 := ⟨Tryd.func9, rfl, Tryd.ntmps9⟩
instance : TFn Tryd.prog 10 := ⟨Tryd.call10⟩
instance : TBody Tryd.prog 10 Tryd.f10 (Tryd.f10.body.getD .skip) 14 := ⟨Tryd.func10, rfl, Tryd.ntmps10⟩
instance : TFn Tryd.prog 11 := ⟨Tryd.call11⟩
instance : TBody Tryd.prog 11 Tryd.f11 (Tryd.f11.body.getD .skip) 214 := ⟨Tryd.func11, rfl, Tryd.ntmps11⟩
instance : TFn Tryd.prog 12 := ⟨Tryd.call12⟩
instance : TBody Tryd.prog 12 Tryd.f12 (Tryd.f12.body.getD .skip) 12 := ⟨Tryd.func12, rfl, Tryd.ntmps12⟩
instance : TFn Tryd.prog 13 := ⟨Tryd.call13⟩
instance : TBody Tryd.prog 13 Tryd.f13 (Tryd.f13.body.getD .skip) 26 := ⟨Tryd.func13, rfl, Tryd.ntmps13⟩
instance : TFn Tryd.prog 14 := ⟨Tryd.call14⟩
instance : TBody Tryd.prog 14 Tryd.f14 (Tryd.f14.body.getD .skip) 17 := ⟨Tryd.func14, rfl, Tryd.ntmps14⟩
instance : TFn Tryd.prog 15 := ⟨Tryd.call15⟩
instance : TBody Tryd.prog 15 Tryd.f15 (Tryd.f15.body.getD .skip) 59 := ⟨Tryd.func15, rfl, Tryd.ntmps15⟩
instance : TFn Tryd.prog 16 := ⟨Tryd.call16⟩
instance : TBody Tryd.prog 16 Tryd.f16 (Tryd.f16.body.getD .skip) 82 := ⟨Tryd.func16, rfl, Tryd.ntmps16⟩
instance : TFn Tryd.prog 17 := ⟨Tryd.call17⟩
instance : TBody Tryd.prog 17 Tryd.f17 (Tryd.f17.body.getD .skip) 38 := ⟨Tryd.func17, rfl, Tryd.ntmps17⟩
instance : TFn Tryd.prog 18 := ⟨Tryd.call18⟩
instance : TBody Tryd.prog 18 Tryd.f18 (Tryd.f18.body.getD .skip) 94 := ⟨Tryd.func18, rfl, Tryd.ntmps18⟩
instance : TFn Tryd.prog 19 := ⟨Tryd.call19⟩
instance : TBody Tryd.prog 19 Tryd.f19 (Tryd.f19.body.getD .skip) 75 := ⟨Tryd.func19, rfl, Tryd.ntmps19⟩
instance : TFn Tryd.prog 20 := ⟨Tryd.call20⟩
instance : TBody Tryd.prog 20 Tryd.f20 (Tryd.f20.body.getD .skip) 26 := ⟨Tryd.func20, rfl, Tryd.ntmps20⟩
instance : TFn Tryd.prog 21 := ⟨Tryd.call21⟩
instance : TBody Tryd.prog 21 Tryd.f21 (Tryd.f21.body.getD .skip) 8 := ⟨Tryd.func21, rfl, Tryd.ntmps21⟩
instance : TFn Tryd.prog 22 := ⟨Tryd.call22⟩
instance : TBody Tryd.prog 22 Tryd.f22 (Tryd.f22.body.getD .skip) 22 := ⟨Tryd.func22, rfl, Tryd.ntmps22⟩
instance : TFn Tryd.prog 23 := ⟨Tryd.call23⟩
instance : TBody Tryd.prog 23 Tryd.f23 (Tryd.f23.body.getD .skip) 16 := ⟨Tryd.func23, rfl, Tryd.ntmps23⟩
instance : TFn Tryd.prog 24 := ⟨Tryd.call24⟩
instance : TBody Tryd.prog 24 Tryd.f24 (Tryd.f24.body.getD .skip) 37 := ⟨Tryd.func24, rfl, Tryd.ntmps24⟩
instance : TFn Tryd.prog 25 := ⟨Tryd.call25⟩
instance : TBody Tryd.prog 25 Tryd.f25 (Tryd.f25.body.getD .skip) 13 := ⟨Tryd.func25, rfl, Tryd.ntmps25⟩
instance : TFn Tryd.prog 26 := ⟨Tryd.call26⟩
instance : TBody Tryd.prog 26 Tryd.f26 (Tryd.f26.body.getD .skip) 17 := ⟨Tryd.func26, rfl, Tryd.ntmps26⟩
instance : TFn Tryd.prog 27 := ⟨Tryd.call27⟩
instance : TBody Tryd.prog 27 Tryd.f27 (Tryd.f27.body.getD .skip) 12 := ⟨Tryd.func27, rfl, Tryd.ntmps27⟩
instance : TFn Tryd.prog 28 := ⟨Tryd.call28⟩
instance : TBody Tryd.prog 28 Tryd.f28 (Tryd.f28.body.getD .skip) 42 := ⟨Tryd.func28, rfl, Tryd.ntmps28⟩
instance : TFn Tryd.prog 29 := ⟨Tryd.call29⟩
instance : TBody Tryd.prog 29 Tryd.f29 (Tryd.f29.body.getD .skip) 60 := ⟨Tryd.func29, rfl, Tryd.ntmps29⟩
instance : TFn Tryd.prog 30 := ⟨Tryd.call30⟩
instance : TBody Tryd.prog 30 Tryd.f30 (Tryd.f30.body.getD .skip) 22 := ⟨Tryd.func30, rfl, Tryd.ntmps30⟩
instance : TFn Tryd.prog 31 := ⟨Tryd.call31⟩
instance : TBody Tryd.prog 31 Tryd.f31 (Tryd.f31.body.getD .skip) 38 := ⟨Tryd.func31, rfl, Tryd.ntmps31⟩
instance : TFn Tryd.prog 32 := ⟨Tryd.call32⟩
instance : TBody Tryd.prog 32 Tryd.f32 (Tryd.f32.body.getD .skip) 17 := ⟨Tryd.func32, rfl, Tryd.ntmps32⟩
instance : TFn Tryd.prog 33 := ⟨Tryd.call33⟩
instance : TBody Tryd.prog 33 Tryd.f33 (Tryd.f33.body.getD .skip) 13 := ⟨Tryd.func33, rfl, Tryd.ntmps33⟩
instance : TFn Tryd.prog 34 := ⟨Tryd.call34⟩
instance : TBody Tryd.prog 34 Tryd.f34 (Tryd.f34.body.getD .skip) 31 := ⟨Tryd.func34, rfl, Tryd.ntmps34⟩
instance : TFn Tryd.prog 35 := ⟨Tryd.call35⟩
instance : TBody Tryd.prog 35 Tryd.f35 (Tryd.f35.body.getD .skip) 17 := ⟨Tryd.func35, rfl, Tryd.ntmps35⟩
instance : TFn Tryd.prog 36 := ⟨Tryd.call36⟩
instance : TBody Tryd.prog 36 Tryd.f36 (Tryd.f36.body.getD .skip) 22 := ⟨Tryd.func36, rfl, Tryd.ntmps36⟩
instance : TFn Tryd.prog 37 := ⟨Tryd.call37⟩
instance : TBody Tryd.prog 37 Tryd.f37 (Tryd.f37.body.getD .skip) 36 := ⟨Tryd.func37, rfl, Tryd.ntmps37⟩
instance : TFn Tryd.prog 38 := ⟨Tryd.call38⟩
instance : TBody Tryd.prog 38 Tryd.f38 (Tryd.f38.body.getD .skip) 24 := ⟨Tryd.func38, rfl, Tryd.ntmps38⟩
instance : TFn Tryd.prog 39 := ⟨Tryd.call39⟩
instance : TBody Tryd.prog 39 Tryd.f39 (Tryd.f39.body.getD .skip) 23 := ⟨Tryd.func39, rfl, Tryd.ntmps39⟩
instance : TFn Tryd.prog 40 := ⟨Tryd.call40⟩
instance : TBody Tryd.prog 40 Tryd.f40 (Tryd.f40.body.getD .skip) 9 := ⟨Tryd.func40, rfl, Tryd.ntmps40⟩
instance : TFn Tryd.prog 41 := ⟨Tryd.call41⟩
instance : TBody Tryd.prog 41 Tryd.f41 (Tryd.f41.body.getD .skip) 18 := ⟨Tryd.func41, rfl, Tryd.ntmps41⟩
instance : TFn Tryd.prog 42 := ⟨Tryd.call42⟩
instance : TBody Tryd.prog 42 Tryd.f42 (Tryd.f42.body.getD .skip) 40 := ⟨Tryd.func42, rfl, Tryd.ntmps42⟩
instance : TFn Tryd.prog 43 := ⟨Tryd.call43⟩
instance : TBody Tryd.prog 43 Tryd.f43 (Tryd.f43.body.getD .skip) 38 := ⟨Tryd.func43, rfl, Tryd.ntmps43⟩
instance : TFn Tryd.prog 44 := ⟨Tryd.call44⟩
instance : TBody Tryd.prog 44 Tryd.f44 (Tryd.f44.body.getD .skip) 25 := ⟨Tryd.func44, rfl, Tryd.ntmps44⟩
instance : TFn Tryd.prog 45 := ⟨Tryd.call45⟩
instance : TBody Tryd.prog 45 Tryd.f45 (Tryd.f45.body.getD .skip) 12 := ⟨Tryd.func45, rfl, Tryd.ntmps45⟩
instance : TFn Tryd.prog 46 := ⟨Tryd.call46⟩
instance : TBody Tryd.prog 46 Tryd.f46 (Tryd.f46.body.getD .skip) 27 := ⟨Tryd.func46, rfl, Tryd.ntmps46⟩
instance : TFn Tryd.prog 47 := ⟨Tryd.call47⟩
instance : TBody Tryd.prog 47 Tryd.f47 (Tryd.f47.body.getD .skip) 5 := ⟨Tryd.func47, rfl, Tryd.ntmps47⟩
instance : TFn Tryd.prog 48 := ⟨Tryd.call48⟩
instance : TBody Tryd.prog 48 Tryd.f48 (Tryd.f48.body.getD .skip) 51 := ⟨Tryd.func48, rfl, Tryd.ntmps48⟩
instance : TFn Tryd.prog 49 := ⟨Tryd.call49⟩
instance : TBody Tryd.prog 49 Tryd.f49 (Tryd.f49.body.getD .skip) 11 := ⟨Tryd.func49, rfl, Tryd.ntmps49⟩
instance : TFn Tryd.prog 50 := ⟨Tryd.call50⟩
instance : TBody Tryd.prog 50 Tryd.f50 (Tryd.f50.body.getD .skip) 61 := ⟨Tryd.func50, rfl, Tryd.ntmps50⟩
instance : TFn Tryd.prog 51 := ⟨Tryd.call51⟩
instance : TBody Tryd.prog 51 Tryd.f51 (Tryd.f51.body.getD .skip) 18 := ⟨Tryd.func51, rfl, Tryd.ntmps51⟩
instance : TFn Tryd.prog 52 := ⟨Tryd.call52⟩
instance : TBody Tryd.prog 52 Tryd.f52 (Tryd.f52.body.getD .skip) 20 := ⟨Tryd.func52, rfl, Tryd.ntmps52⟩
instance : TFn Tryd.prog 53 := ⟨Tryd.call53⟩
instance : TBody Tryd.prog 53 Tryd.f53 (Tryd.f53.body.getD .skip) 48 := ⟨Tryd.func53, rfl, Tryd.ntmps53⟩
instance : TFn Tryd.prog 54 := ⟨Tryd.call54⟩
instance : TBody Tryd.prog 54 Tryd.f54 (Tryd.f54.body.getD .skip) 36 := ⟨Tryd.func54, rfl, Tryd.ntmps54⟩
instance : TFn Tryd.prog 55 := ⟨Tryd.call55⟩
instance : TBody Tryd.prog 55 Tryd.f55 (Tryd.f55.body.getD .skip) 59 := ⟨Tryd.func55, rfl, Tryd.ntmps55⟩
instance : TFn Tryd.prog 56 := ⟨Tryd.call56⟩
instance : TBody Tryd.prog 56 Tryd.f56 (Tryd.f56.body.getD .skip) 26 := ⟨Tryd.func56, rfl, Tryd.ntmps56⟩
instance : TFn Tryd.prog 57 := ⟨Tryd.call57⟩
instance : TBody Tryd.prog 57 Tryd.f57 (Tryd.f57.body.getD .skip) 25 := ⟨Tryd.func57, rfl, Tryd.ntmps57⟩
instance : TFn Tryd.prog 58 := ⟨Tryd.call58⟩
instance : TBody Tryd.prog 58 Tryd.f58 (Tryd.f58.body.getD .skip) 9 := ⟨Tryd.func58, rfl, Tryd.ntmps58⟩
instance : TFn Tryd.prog 60 := ⟨Tryd.call60⟩
instance : TBody Tryd.prog 60 Tryd.f60 (Tryd.f60.body.getD .skip) 134 := ⟨Tryd.func60, rfl, Tryd.ntmps60⟩
instance : TFn Tryd.prog 61 := ⟨Tryd.call61⟩
instance : TBody Tryd.prog 61 Tryd.f61 (Tryd.f61.body.getD .skip) 8 := ⟨Tryd.func61, rfl, Tryd.ntmps61⟩
instance : TFn Tryd.prog 62 := ⟨Tryd.call62⟩
instance : TBody Tryd.prog 62 Tryd.f62 (Tryd.f62.body.getD .skip) 6 := ⟨Tryd.func62, rfl, Tryd.ntmps62⟩
instance : TFn Tryd.prog 63 := ⟨Tryd.call63⟩
instance : TBody Tryd.prog 63 Tryd.f63 (Tryd.f63.body.getD .skip) 30 := ⟨Tryd.func63, rfl, Tryd.ntmps63⟩
instance : TFn Tryd.prog 64 := ⟨Tryd.call64⟩
instance : TBody Tryd.prog 64 Tryd.f64 (Tryd.f64.body.getD .skip) 27 := ⟨Tryd.func64, rfl, Tryd.ntmps64⟩
instance : TFn Tryd.prog 65 := ⟨Tryd.call65⟩
instance : TBody Tryd.prog 65 Tryd.f65 (Tryd.f65.body.getD .skip) 19 := ⟨Tryd.func65, rfl, Tryd.ntmps65⟩
instance : TFn Tryd.prog 67 := ⟨Tryd.call67⟩
instance : TBody Tryd.prog 67 Tryd.f67 (Tryd.f67.body.getD .skip) 49 := ⟨Tryd.func67, rfl, Tryd.ntmps67⟩
instance : TFn Tryd.prog 68 := ⟨Tryd.call68⟩
instance : TBody Tryd.prog 68 Tryd.f68 (Tryd.f68.body.getD .skip) 56 := ⟨Tryd.func68, rfl, Tryd.ntmps68⟩
instance : TFn Tryd.prog 69 := ⟨Tryd.call69⟩
instance : TBody Tryd.prog 69 Tryd.f69 (Tryd.f69.body.getD .skip) 65 := ⟨Tryd.func69, rfl, Tryd.ntmps69⟩
instance : TFn Tryd.prog 70 := ⟨Tryd.call70⟩
instance : TBody Tryd.prog 70 Tryd.f70 (Tryd.f70.body.getD .skip) 57 := ⟨Tryd.func70, rfl, Tryd.ntmps70⟩
instance : TFn Tryd.prog 71 := ⟨Tryd.call71⟩
instance : TBody Tryd.prog 71 Tryd.f71 (Tryd.f71.body.getD .skip) 32 := ⟨Tryd.func71, rfl, Tryd.ntmps71⟩
instance : TFn Tryd.prog 72 := ⟨Tryd.call72⟩
instance : TBody Tryd.prog 72 Tryd.f72 (Tryd.f72.body.getD .skip) 133 := ⟨Tryd.func72, rfl, Tryd.ntmps72⟩
instance : TFn Tryd.prog 73 := ⟨Tryd.call73⟩
instance : TBody Tryd.prog 73 Tryd.f73 (Tryd.f73.body.getD .skip) 17 := ⟨Tryd.func73, rfl, Tryd.ntmps73⟩
instance : TFn Tryd.prog 74 := ⟨Tryd.call74⟩
instance : TBody Tryd.prog 74 Tryd.f74 (Tryd.f74.body.getD .skip) 84 := ⟨Tryd.func74, rfl, Tryd.ntmps74⟩
instance : TFn Tryd.prog 75 := ⟨Tryd.call75⟩
instance : TBody Tryd.prog 75 Tryd.f75 (Tryd.f75.body.getD .skip) 168 := ⟨Tryd.func75, rfl, Tryd.ntmps75⟩
instance : TFn Tryd.prog 76 := ⟨Tryd.call76⟩
instance : TBody Tryd.prog 76 Tryd.f76 (Tryd.f76.body.getD .skip) 19 := ⟨Tryd.func76, rfl, Tryd.ntmps76⟩
instance : TFn Tryd.prog 77 := ⟨Tryd.call77⟩
instance : TBody Tryd.prog 77 Tryd.f77 (Tryd.f77.body.getD .skip) 25 := ⟨Tryd.func77, rfl, Tryd.ntmps77⟩
instance : TFn Tryd.prog 78 := ⟨Tryd.call78⟩
instance : TBody Tryd.prog 78 Tryd.f78 (Tryd.f78.body.getD .skip) 17 := ⟨Tryd.func78, rfl, Tryd.ntmps78⟩
instance : TFn Tryd.prog 79 := ⟨Tryd.call79⟩
instance : TBody Tryd.prog 79 Tryd.f79 (Tryd.f79.body.getD .skip) 51 := ⟨Tryd.func79, rfl, Tryd.ntmps79⟩
instance : TFn Tryd.prog 84 := ⟨Tryd.call84⟩
instance : TBody Tryd.prog 84 Tryd.f84 (Tryd.f84.body.getD .skip) 76 := ⟨Tryd.func84, rfl, Tryd.ntmps84⟩
instance : TFn Tryd.prog 85 := ⟨Tryd.call85⟩
instance : TBody Tryd.prog 85 Tryd.f85 (Tryd.f85.body.getD .skip) 7 := ⟨Tryd.func85, rfl, Tryd.ntmps85⟩
instance : TFn Tryd.prog 86 := ⟨Tryd.call86⟩
instance : TBody Tryd.prog 86 Tryd.f86 (Tryd.f86.body.getD .skip) 33 := ⟨Tryd.func86, rfl, Tryd.ntmps86⟩
instance : TFn Tryd.prog 87 := ⟨Tryd.call87⟩
instance : TBody Tryd.prog 87 Tryd.f87 (Tryd.f87.body.getD .skip) 15 := ⟨Tryd.func87, rfl, Tryd.ntmps87⟩
instance : TFn Tryd.prog 88 := ⟨Tryd.call88⟩
instance : TBody Tryd.prog 88 Tryd.f88 (Tryd.f88.body.getD .skip) 36 := ⟨Tryd.func88, rfl, Tryd.ntmps88⟩
instance : TFn Tryd.prog 92 := ⟨Tryd.call92⟩
instance : TBody Tryd.prog 92 Tryd.f92 (Tryd.f92.body.getD .skip) 8 := ⟨Tryd.func92, rfl, Tryd.ntmps92⟩
instance : TFn Tryd.prog 93 := ⟨Tryd.call93⟩
instance : TBody Tryd.prog 93 Tryd.f93 (Tryd.f93.body.getD .skip) 28 := ⟨Tryd.func93, rfl, Tryd.ntmps93⟩
instance : TFn Tryd.prog 94 := ⟨Tryd.call94⟩
instance : TBody Tryd.prog 94 Tryd.f94 (Tryd.f94.body.getD .skip) 14 := ⟨Tryd.func94, rfl, Tryd.ntmps94⟩
instance : TFn Tryd.prog 95 := ⟨Tryd.call95⟩
instance : TBody Tryd.prog 95 Tryd.f95 (Tryd.f95.body.getD .skip) 14 := ⟨Tryd.func95, rfl, Tryd.ntmps95⟩
instance : TMix Tryd.prog := ⟨rfl⟩
end Go.Proofs.YtadahmihkbpglaaDoor
