/- Written by program (gen_inst.py) for this seat: what the walk asks of its types and functions. -/
import Derived.Test.YtnfmjkjhiolfdaaKB
import Derived.Test.YtnfmjkjhiolfdaaProg
set_option maxRecDepth 100000
namespace Go.Proofs.Ytnfmjkjhiolfdaa
open Go Go.Sx Go.Proofs
instance : TSz Try.prog 1 1 := ⟨Try.sizeOf1⟩
instance : TAgg Try.prog 1 false := ⟨Try.isAgg1⟩
instance : TZ Try.prog 1 (.nilFunc) := ⟨Try.zeroValue1⟩
instance : TZL Try.prog 1 [.nilFunc] := ⟨_, Try.zeroValue1, rfl⟩
instance : TIn Try.prog 1 1 8 (.nilFunc) := ⟨_, rfl, rfl, rfl, rfl, rfl, by decide⟩
instance : TSz Try.prog 2 1 := ⟨Try.sizeOf2⟩
instance : TAgg Try.prog 2 false := ⟨Try.isAgg2⟩
instance : TIt Try.prog 2 .i64 := ⟨Try.underlying2⟩
instance : TZ Try.prog 2 (.int .i64 0) := ⟨Try.zeroValue2⟩
instance : TZL Try.prog 2 [.int .i64 0] := ⟨_, Try.zeroValue2, rfl⟩
instance : TIn Try.prog 2 1 8 (.int .i64 0) := ⟨_, rfl, rfl, rfl, rfl, rfl, by decide⟩
instance : TSz Try.prog 3 1 := ⟨Try.sizeOf3⟩
instance : TAgg Try.prog 3 false := ⟨Try.isAgg3⟩
instance : TIt Try.prog 3 .i64 := ⟨Try.underlying3⟩
instance : TZ Try.prog 3 (.int .i64 0) := ⟨Try.zeroValue3⟩
instance : TZL Try.prog 3 [.int .i64 0] := ⟨_, Try.zeroValue3, rfl⟩
instance : TIn Try.prog 3 1 8 (.int .i64 0) := ⟨_, rfl, rfl, rfl, rfl, rfl, by decide⟩
instance : TSz Try.prog 4 1 := ⟨Try.sizeOf4⟩
instance : TAgg Try.prog 4 false := ⟨Try.isAgg4⟩
instance : TBo Try.prog 4 := ⟨Try.underlying4⟩
instance : TZ Try.prog 4 (.bool false) := ⟨Try.zeroValue4⟩
instance : TZL Try.prog 4 [.bool false] := ⟨_, Try.zeroValue4, rfl⟩
instance : TIn Try.prog 4 1 1 (.bool false) := ⟨_, rfl, rfl, rfl, rfl, rfl, by decide⟩
instance : TSz Try.prog 5 1 := ⟨Try.sizeOf5⟩
instance : TAgg Try.prog 5 false := ⟨Try.isAgg5⟩
instance : TIt Try.prog 5 .u8 := ⟨Try.underlying5⟩
instance : TZ Try.prog 5 (.int .u8 0) := ⟨Try.zeroValue5⟩
instance : TZL Try.prog 5 [.int .u8 0] := ⟨_, Try.zeroValue5, rfl⟩
instance : TIn Try.prog 5 1 1 (.int .u8 0) := ⟨_, rfl, rfl, rfl, rfl, rfl, by decide⟩
instance : TSz Try.prog 6 1 := ⟨Try.sizeOf6⟩
instance : TAgg Try.prog 6 false := ⟨Try.isAgg6⟩
instance : TIt Try.prog 6 .u8 := ⟨Try.underlying6⟩
instance : TZ Try.prog 6 (.int .u8 0) := ⟨Try.zeroValue6⟩
instance : TZL Try.prog 6 [.int .u8 0] := ⟨_, Try.zeroValue6, rfl⟩
instance : TIn Try.prog 6 1 1 (.int .u8 0) := ⟨_, rfl, rfl, rfl, rfl, rfl, by decide⟩
instance : TSz Try.prog 7 4 := ⟨Try.sizeOf7⟩
instance : TAgg Try.prog 7 true := ⟨Try.isAgg7⟩
instance : TPl Try.prog 7 [(0, 1), (1, 1), (2, 1), (3, 1)] := ⟨_, Try.underlying7, fun w => by simp [List.mapM_cons]⟩
instance : TFd Try.prog 7 0 0 2 := ⟨_, _, Try.underlying7, rfl, rfl, rfl, fun w => ⟨0, Try.sizeOf2 w⟩⟩
instance : TFd Try.prog 7 1 1 3 := ⟨_, _, Try.underlying7, rfl, rfl, rfl, fun w => ⟨0, Try.sizeOf3 w⟩⟩
instance : TFd Try.prog 7 2 2 4 := ⟨_, _, Try.underlying7, rfl, rfl, rfl, fun w => ⟨0, Try.sizeOf4 w⟩⟩
instance : TFd Try.prog 7 3 3 6 := ⟨_, _, Try.underlying7, rfl, rfl, rfl, fun w => ⟨0, Try.sizeOf6 w⟩⟩
instance : TZ Try.prog 7 (.agg #[.int .i64 0, .int .i64 0, .bool false, .int .u8 0]) := ⟨Try.zeroValue7⟩
instance : TZL Try.prog 7 [.int .i64 0, .int .i64 0, .bool false, .int .u8 0] := ⟨_, Try.zeroValue7, rfl⟩
instance : TIn Try.prog 7 4 24 (.agg #[.int .i64 0, .int .i64 0, .bool false, .int .u8 0]) := ⟨_, rfl, rfl, rfl, rfl, rfl, by decide⟩
instance : TSz Try.prog 8 4 := ⟨Try.sizeOf8⟩
instance : TAgg Try.prog 8 true := ⟨Try.isAgg8⟩
instance : TPl Try.prog 8 [(0, 1), (1, 1), (2, 1), (3, 1)] := ⟨_, Try.underlying8, fun w => by simp [List.mapM_cons]⟩
instance : TFd Try.prog 8 0 0 2 := ⟨_, _, Try.underlying8, rfl, rfl, rfl, fun w => ⟨0, Try.sizeOf2 w⟩⟩
instance : TFd Try.prog 8 1 1 3 := ⟨_, _, Try.underlying8, rfl, rfl, rfl, fun w => ⟨0, Try.sizeOf3 w⟩⟩
instance : TFd Try.prog 8 2 2 4 := ⟨_, _, Try.underlying8, rfl, rfl, rfl, fun w => ⟨0, Try.sizeOf4 w⟩⟩
instance : TFd Try.prog 8 3 3 6 := ⟨_, _, Try.underlying8, rfl, rfl, rfl, fun w => ⟨0, Try.sizeOf6 w⟩⟩
instance : TZ Try.prog 8 (.agg #[.int .i64 0, .int .i64 0, .bool false, .int .u8 0]) := ⟨Try.zeroValue8⟩
instance : TZL Try.prog 8 [.int .i64 0, .int .i64 0, .bool false, .int .u8 0] := ⟨_, Try.zeroValue8, rfl⟩
instance : TIn Try.prog 8 4 24 (.agg #[.int .i64 0, .int .i64 0, .bool false, .int .u8 0]) := ⟨_, rfl, rfl, rfl, rfl, rfl, by decide⟩
instance : TSz Try.prog 9 1 := ⟨Try.sizeOf9⟩
instance : TAgg Try.prog 9 false := ⟨Try.isAgg9⟩
instance : TSt Try.prog 9 := ⟨Try.underlying9⟩
instance : TZ Try.prog 9 (.string ⟨#[]⟩) := ⟨Try.zeroValue9⟩
instance : TZL Try.prog 9 [.string ⟨#[]⟩] := ⟨_, Try.zeroValue9, rfl⟩
instance : TIn Try.prog 9 1 16 (.string ⟨#[]⟩) := ⟨_, rfl, rfl, rfl, rfl, rfl, by decide⟩
instance : TSz Try.prog 10 1 := ⟨Try.sizeOf10⟩
instance : TAgg Try.prog 10 false := ⟨Try.isAgg10⟩
instance : TSt Try.prog 10 := ⟨Try.underlying10⟩
instance : TZ Try.prog 10 (.string ⟨#[]⟩) := ⟨Try.zeroValue10⟩
instance : TZL Try.prog 10 [.string ⟨#[]⟩] := ⟨_, Try.zeroValue10, rfl⟩
instance : TIn Try.prog 10 1 16 (.string ⟨#[]⟩) := ⟨_, rfl, rfl, rfl, rfl, rfl, by decide⟩
instance : TSz Try.prog 11 1 := ⟨Try.sizeOf11⟩
instance : TAgg Try.prog 11 false := ⟨Try.isAgg11⟩
instance : TSt Try.prog 11 := ⟨Try.underlying11⟩
instance : TZ Try.prog 11 (.string ⟨#[]⟩) := ⟨Try.zeroValue11⟩
instance : TZL Try.prog 11 [.string ⟨#[]⟩] := ⟨_, Try.zeroValue11, rfl⟩
instance : TIn Try.prog 11 1 16 (.string ⟨#[]⟩) := ⟨_, rfl, rfl, rfl, rfl, rfl, by decide⟩
instance : TSz Try.prog 12 1 := ⟨Try.sizeOf12⟩
instance : TAgg Try.prog 12 false := ⟨Try.isAgg12⟩
instance : TIt Try.prog 12 .u64 := ⟨Try.underlying12⟩
instance : TZ Try.prog 12 (.int .u64 0) := ⟨Try.zeroValue12⟩
instance : TZL Try.prog 12 [.int .u64 0] := ⟨_, Try.zeroValue12, rfl⟩
instance : TIn Try.prog 12 1 8 (.int .u64 0) := ⟨_, rfl, rfl, rfl, rfl, rfl, by decide⟩
instance : TSz Try.prog 13 2 := ⟨Try.sizeOf13⟩
instance : TAgg Try.prog 13 true := ⟨Try.isAgg13⟩
instance : TPl Try.prog 13 [(0, 1), (1, 1)] := ⟨_, Try.underlying13, fun w => by simp [List.mapM_cons]⟩
instance : TFd Try.prog 13 0 0 9 := ⟨_, _, Try.underlying13, rfl, rfl, rfl, fun w => ⟨0, Try.sizeOf9 w⟩⟩
instance : TFd Try.prog 13 1 1 12 := ⟨_, _, Try.underlying13, rfl, rfl, rfl, fun w => ⟨0, Try.sizeOf12 w⟩⟩
instance : TZ Try.prog 13 (.agg #[.string ⟨#[]⟩, .int .u64 0]) := ⟨Try.zeroValue13⟩
instance : TZL Try.prog 13 [.string ⟨#[]⟩, .int .u64 0] := ⟨_, Try.zeroValue13, rfl⟩
instance : TIn Try.prog 13 2 24 (.agg #[.string ⟨#[]⟩, .int .u64 0]) := ⟨_, rfl, rfl, rfl, rfl, rfl, by decide⟩
instance : TSz Try.prog 14 2 := ⟨Try.sizeOf14⟩
instance : TAgg Try.prog 14 true := ⟨Try.isAgg14⟩
instance : TPl Try.prog 14 [(0, 1), (1, 1)] := ⟨_, Try.underlying14, fun w => by simp [List.mapM_cons]⟩
instance : TFd Try.prog 14 0 0 9 := ⟨_, _, Try.underlying14, rfl, rfl, rfl, fun w => ⟨0, Try.sizeOf9 w⟩⟩
instance : TFd Try.prog 14 1 1 12 := ⟨_, _, Try.underlying14, rfl, rfl, rfl, fun w => ⟨0, Try.sizeOf12 w⟩⟩
instance : TZ Try.prog 14 (.agg #[.string ⟨#[]⟩, .int .u64 0]) := ⟨Try.zeroValue14⟩
instance : TZL Try.prog 14 [.string ⟨#[]⟩, .int .u64 0] := ⟨_, Try.zeroValue14, rfl⟩
instance : TIn Try.prog 14 2 24 (.agg #[.string ⟨#[]⟩, .int .u64 0]) := ⟨_, rfl, rfl, rfl, rfl, rfl, by decide⟩
instance : TSz Try.prog 15 1 := ⟨Try.sizeOf15⟩
instance : TAgg Try.prog 15 false := ⟨Try.isAgg15⟩
instance : TPt Try.prog 15 := ⟨_, Try.underlying15⟩
instance : TZ Try.prog 15 (.pointer none) := ⟨Try.zeroValue15⟩
instance : TZL Try.prog 15 [.pointer none] := ⟨_, Try.zeroValue15, rfl⟩
instance : TIn Try.prog 15 1 8 (.pointer none) := ⟨_, rfl, rfl, rfl, rfl, rfl, by decide⟩
instance : TSz Try.prog 16 1 := ⟨Try.sizeOf16⟩
instance : TAgg Try.prog 16 false := ⟨Try.isAgg16⟩
instance : TPt Try.prog 16 := ⟨_, Try.underlying16⟩
instance : TZ Try.prog 16 (.pointer none) := ⟨Try.zeroValue16⟩
instance : TZL Try.prog 16 [.pointer none] := ⟨_, Try.zeroValue16, rfl⟩
instance : TIn Try.prog 16 1 8 (.pointer none) := ⟨_, rfl, rfl, rfl, rfl, rfl, by decide⟩
instance : TSz Try.prog 17 1 := ⟨Try.sizeOf17⟩
instance : TAgg Try.prog 17 false := ⟨Try.isAgg17⟩
instance : TPt Try.prog 17 := ⟨_, Try.underlying17⟩
instance : TZ Try.prog 17 (.pointer none) := ⟨Try.zeroValue17⟩
instance : TZL Try.prog 17 [.pointer none] := ⟨_, Try.zeroValue17, rfl⟩
instance : TIn Try.prog 17 1 8 (.pointer none) := ⟨_, rfl, rfl, rfl, rfl, rfl, by decide⟩
instance : TSz Try.prog 18 1 := ⟨Try.sizeOf18⟩
instance : TAgg Try.prog 18 true := ⟨Try.isAgg18⟩
instance : TPl Try.prog 18 [(0, 1)] := ⟨_, Try.underlying18, fun w => by simp [List.mapM_cons]⟩
instance : TFd Try.prog 18 0 0 17 := ⟨_, _, Try.underlying18, rfl, rfl, rfl, fun w => ⟨0, Try.sizeOf17 w⟩⟩
instance : TZ Try.prog 18 (.agg #[.pointer none]) := ⟨Try.zeroValue18⟩
instance : TZL Try.prog 18 [.pointer none] := ⟨_, Try.zeroValue18, rfl⟩
instance : TIn Try.prog 18 1 8 (.agg #[.pointer none]) := ⟨_, rfl, rfl, rfl, rfl, rfl, by decide⟩
instance : TSz Try.prog 19 1 := ⟨Try.sizeOf19⟩
instance : TAgg Try.prog 19 true := ⟨Try.isAgg19⟩
instance : TPl Try.prog 19 [(0, 1)] := ⟨_, Try.underlying19, fun w => by simp [List.mapM_cons]⟩
instance : TFd Try.prog 19 0 0 17 := ⟨_, _, Try.underlying19, rfl, rfl, rfl, fun w => ⟨0, Try.sizeOf17 w⟩⟩
instance : TZ Try.prog 19 (.agg #[.pointer none]) := ⟨Try.zeroValue19⟩
instance : TZL Try.prog 19 [.pointer none] := ⟨_, Try.zeroValue19, rfl⟩
instance : TIn Try.prog 19 1 8 (.agg #[.pointer none]) := ⟨_, rfl, rfl, rfl, rfl, rfl, by decide⟩
instance : TSz Try.prog 20 1 := ⟨Try.sizeOf20⟩
instance : TAgg Try.prog 20 false := ⟨Try.isAgg20⟩
instance : TZ Try.prog 20 (.nilIface) := ⟨Try.zeroValue20⟩
instance : TZL Try.prog 20 [.nilIface] := ⟨_, Try.zeroValue20, rfl⟩
instance : TIn Try.prog 20 1 16 (.nilIface) := ⟨_, rfl, rfl, rfl, rfl, rfl, by decide⟩
instance : TSz Try.prog 21 1 := ⟨Try.sizeOf21⟩
instance : TAgg Try.prog 21 false := ⟨Try.isAgg21⟩
instance : TIt Try.prog 21 .i32 := ⟨Try.underlying21⟩
instance : TZ Try.prog 21 (.int .i32 0) := ⟨Try.zeroValue21⟩
instance : TZL Try.prog 21 [.int .i32 0] := ⟨_, Try.zeroValue21, rfl⟩
instance : TIn Try.prog 21 1 4 (.int .i32 0) := ⟨_, rfl, rfl, rfl, rfl, rfl, by decide⟩
instance : TSz Try.prog 22 1 := ⟨Try.sizeOf22⟩
instance : TAgg Try.prog 22 false := ⟨Try.isAgg22⟩
instance : TSl Try.prog 22 3 := ⟨Try.underlying22⟩
instance : TZ Try.prog 22 (.slice none 0 0) := ⟨Try.zeroValue22⟩
instance : TZL Try.prog 22 [.slice none 0 0] := ⟨_, Try.zeroValue22, rfl⟩
instance : TIn Try.prog 22 1 24 (.slice none 0 0) := ⟨_, rfl, rfl, rfl, rfl, rfl, by decide⟩
instance : TSz Try.prog 23 4 := ⟨Try.sizeOf23⟩
instance : TAgg Try.prog 23 true := ⟨Try.isAgg23⟩
instance : TPl Try.prog 23 [(0, 1), (1, 1), (2, 1), (3, 1)] := ⟨_, Try.underlying23, fun w => by simp [List.mapM_cons]⟩
instance : TFd Try.prog 23 0 0 3 := ⟨_, _, Try.underlying23, rfl, rfl, rfl, fun w => ⟨0, Try.sizeOf3 w⟩⟩
instance : TFd Try.prog 23 1 1 3 := ⟨_, _, Try.underlying23, rfl, rfl, rfl, fun w => ⟨0, Try.sizeOf3 w⟩⟩
instance : TFd Try.prog 23 2 2 3 := ⟨_, _, Try.underlying23, rfl, rfl, rfl, fun w => ⟨0, Try.sizeOf3 w⟩⟩
instance : TFd Try.prog 23 3 3 22 := ⟨_, _, Try.underlying23, rfl, rfl, rfl, fun w => ⟨0, Try.sizeOf22 w⟩⟩
instance : TZ Try.prog 23 (.agg #[.int .i64 0, .int .i64 0, .int .i64 0, .slice none 0 0]) := ⟨Try.zeroValue23⟩
instance : TZL Try.prog 23 [.int .i64 0, .int .i64 0, .int .i64 0, .slice none 0 0] := ⟨_, Try.zeroValue23, rfl⟩
instance : TIn Try.prog 23 4 48 (.agg #[.int .i64 0, .int .i64 0, .int .i64 0, .slice none 0 0]) := ⟨_, rfl, rfl, rfl, rfl, rfl, by decide⟩
instance : TSz Try.prog 24 4 := ⟨Try.sizeOf24⟩
instance : TAgg Try.prog 24 true := ⟨Try.isAgg24⟩
instance : TPl Try.prog 24 [(0, 1), (1, 1), (2, 1), (3, 1)] := ⟨_, Try.underlying24, fun w => by simp [List.mapM_cons]⟩
instance : TFd Try.prog 24 0 0 3 := ⟨_, _, Try.underlying24, rfl, rfl, rfl, fun w => ⟨0, Try.sizeOf3 w⟩⟩
instance : TFd Try.prog 24 1 1 3 := ⟨_, _, Try.underlying24, rfl, rfl, rfl, fun w => ⟨0, Try.sizeOf3 w⟩⟩
instance : TFd Try.prog 24 2 2 3 := ⟨_, _, Try.underlying24, rfl, rfl, rfl, fun w => ⟨0, Try.sizeOf3 w⟩⟩
instance : TFd Try.prog 24 3 3 22 := ⟨_, _, Try.underlying24, rfl, rfl, rfl, fun w => ⟨0, Try.sizeOf22 w⟩⟩
instance : TZ Try.prog 24 (.agg #[.int .i64 0, .int .i64 0, .int .i64 0, .slice none 0 0]) := ⟨Try.zeroValue24⟩
instance : TZL Try.prog 24 [.int .i64 0, .int .i64 0, .int .i64 0, .slice none 0 0] := ⟨_, Try.zeroValue24, rfl⟩
instance : TIn Try.prog 24 4 48 (.agg #[.int .i64 0, .int .i64 0, .int .i64 0, .slice none 0 0]) := ⟨_, rfl, rfl, rfl, rfl, rfl, by decide⟩
instance : TSz Try.prog 25 1 := ⟨Try.sizeOf25⟩
instance : TAgg Try.prog 25 false := ⟨Try.isAgg25⟩
instance : TSl Try.prog 25 32 := ⟨Try.underlying25⟩
instance : TZ Try.prog 25 (.slice none 0 0) := ⟨Try.zeroValue25⟩
instance : TZL Try.prog 25 [.slice none 0 0] := ⟨_, Try.zeroValue25, rfl⟩
instance : TIn Try.prog 25 1 24 (.slice none 0 0) := ⟨_, rfl, rfl, rfl, rfl, rfl, by decide⟩
instance : TSz Try.prog 26 1 := ⟨Try.sizeOf26⟩
instance : TAgg Try.prog 26 false := ⟨Try.isAgg26⟩
instance : TIt Try.prog 26 .i64 := ⟨Try.underlying26⟩
instance : TZ Try.prog 26 (.int .i64 0) := ⟨Try.zeroValue26⟩
instance : TZL Try.prog 26 [.int .i64 0] := ⟨_, Try.zeroValue26, rfl⟩
instance : TIn Try.prog 26 1 8 (.int .i64 0) := ⟨_, rfl, rfl, rfl, rfl, rfl, by decide⟩
instance : TSz Try.prog 27 2 := ⟨Try.sizeOf27⟩
instance : TAgg Try.prog 27 true := ⟨Try.isAgg27⟩
instance : TPl Try.prog 27 [(0, 1), (1, 1)] := ⟨_, Try.underlying27, fun w => by simp [List.mapM_cons]⟩
instance : TFd Try.prog 27 0 0 3 := ⟨_, _, Try.underlying27, rfl, rfl, rfl, fun w => ⟨0, Try.sizeOf3 w⟩⟩
instance : TFd Try.prog 27 1 1 22 := ⟨_, _, Try.underlying27, rfl, rfl, rfl, fun w => ⟨0, Try.sizeOf22 w⟩⟩
instance : TZ Try.prog 27 (.agg #[.int .i64 0, .slice none 0 0]) := ⟨Try.zeroValue27⟩
instance : TZL Try.prog 27 [.int .i64 0, .slice none 0 0] := ⟨_, Try.zeroValue27, rfl⟩
instance : TIn Try.prog 27 2 32 (.agg #[.int .i64 0, .slice none 0 0]) := ⟨_, rfl, rfl, rfl, rfl, rfl, by decide⟩
instance : TSz Try.prog 28 2 := ⟨Try.sizeOf28⟩
instance : TAgg Try.prog 28 true := ⟨Try.isAgg28⟩
instance : TPl Try.prog 28 [(0, 1), (1, 1)] := ⟨_, Try.underlying28, fun w => by simp [List.mapM_cons]⟩
instance : TFd Try.prog 28 0 0 3 := ⟨_, _, Try.underlying28, rfl, rfl, rfl, fun w => ⟨0, Try.sizeOf3 w⟩⟩
instance : TFd Try.prog 28 1 1 22 := ⟨_, _, Try.underlying28, rfl, rfl, rfl, fun w => ⟨0, Try.sizeOf22 w⟩⟩
instance : TZ Try.prog 28 (.agg #[.int .i64 0, .slice none 0 0]) := ⟨Try.zeroValue28⟩
instance : TZL Try.prog 28 [.int .i64 0, .slice none 0 0] := ⟨_, Try.zeroValue28, rfl⟩
instance : TIn Try.prog 28 2 32 (.agg #[.int .i64 0, .slice none 0 0]) := ⟨_, rfl, rfl, rfl, rfl, rfl, by decide⟩
instance : TSz Try.prog 29 4 := ⟨Try.sizeOf29⟩
instance : TAgg Try.prog 29 true := ⟨Try.isAgg29⟩
instance : TPl Try.prog 29 [(0, 1), (1, 1), (2, 2)] := ⟨_, Try.underlying29, fun w => by simp [List.mapM_cons]⟩
instance : TFd Try.prog 29 0 0 26 := ⟨_, _, Try.underlying29, rfl, rfl, rfl, fun w => ⟨0, Try.sizeOf26 w⟩⟩
instance : TFd Try.prog 29 1 1 3 := ⟨_, _, Try.underlying29, rfl, rfl, rfl, fun w => ⟨0, Try.sizeOf3 w⟩⟩
instance : TFd Try.prog 29 2 2 28 := ⟨_, _, Try.underlying29, rfl, rfl, rfl, fun w => ⟨1, Try.sizeOf28 w⟩⟩
instance : TZ Try.prog 29 (.agg #[.int .i64 0, .int .i64 0, .int .i64 0, .slice none 0 0]) := ⟨Try.zeroValue29⟩
instance : TZL Try.prog 29 [.int .i64 0, .int .i64 0, .int .i64 0, .slice none 0 0] := ⟨_, Try.zeroValue29, rfl⟩
instance : TIn Try.prog 29 4 48 (.agg #[.int .i64 0, .int .i64 0, .int .i64 0, .slice none 0 0]) := ⟨_, rfl, rfl, rfl, rfl, rfl, by decide⟩
instance : TSz Try.prog 30 4 := ⟨Try.sizeOf30⟩
instance : TAgg Try.prog 30 true := ⟨Try.isAgg30⟩
instance : TPl Try.prog 30 [(0, 1), (1, 1), (2, 2)] := ⟨_, Try.underlying30, fun w => by simp [List.mapM_cons]⟩
instance : TFd Try.prog 30 0 0 26 := ⟨_, _, Try.underlying30, rfl, rfl, rfl, fun w => ⟨0, Try.sizeOf26 w⟩⟩
instance : TFd Try.prog 30 1 1 3 := ⟨_, _, Try.underlying30, rfl, rfl, rfl, fun w => ⟨0, Try.sizeOf3 w⟩⟩
instance : TFd Try.prog 30 2 2 28 := ⟨_, _, Try.underlying30, rfl, rfl, rfl, fun w => ⟨1, Try.sizeOf28 w⟩⟩
instance : TZ Try.prog 30 (.agg #[.int .i64 0, .int .i64 0, .int .i64 0, .slice none 0 0]) := ⟨Try.zeroValue30⟩
instance : TZL Try.prog 30 [.int .i64 0, .int .i64 0, .int .i64 0, .slice none 0 0] := ⟨_, Try.zeroValue30, rfl⟩
instance : TIn Try.prog 30 4 48 (.agg #[.int .i64 0, .int .i64 0, .int .i64 0, .slice none 0 0]) := ⟨_, rfl, rfl, rfl, rfl, rfl, by decide⟩
instance : TSz Try.prog 31 6 := ⟨Try.sizeOf31⟩
instance : TAgg Try.prog 31 true := ⟨Try.isAgg31⟩
instance : TPl Try.prog 31 [(0, 1), (1, 1), (2, 4)] := ⟨_, Try.underlying31, fun w => by simp [List.mapM_cons]⟩
instance : TFd Try.prog 31 0 0 3 := ⟨_, _, Try.underlying31, rfl, rfl, rfl, fun w => ⟨0, Try.sizeOf3 w⟩⟩
instance : TFd Try.prog 31 1 1 3 := ⟨_, _, Try.underlying31, rfl, rfl, rfl, fun w => ⟨0, Try.sizeOf3 w⟩⟩
instance : TFd Try.prog 31 2 2 30 := ⟨_, _, Try.underlying31, rfl, rfl, rfl, fun w => ⟨3, Try.sizeOf30 w⟩⟩
instance : TZ Try.prog 31 (.agg #[.int .i64 0, .int .i64 0, .int .i64 0, .int .i64 0, .int .i64 0, .slice none 0 0]) := ⟨Try.zeroValue31⟩
instance : TZL Try.prog 31 [.int .i64 0, .int .i64 0, .int .i64 0, .int .i64 0, .int .i64 0, .slice none 0 0] := ⟨_, Try.zeroValue31, rfl⟩
instance : TIn Try.prog 31 6 64 (.agg #[.int .i64 0, .int .i64 0, .int .i64 0, .int .i64 0, .int .i64 0, .slice none 0 0]) := ⟨_, rfl, rfl, rfl, rfl, rfl, by decide⟩
instance : TSz Try.prog 32 6 := ⟨Try.sizeOf32⟩
instance : TAgg Try.prog 32 true := ⟨Try.isAgg32⟩
instance : TPl Try.prog 32 [(0, 1), (1, 1), (2, 4)] := ⟨_, Try.underlying32, fun w => by simp [List.mapM_cons]⟩
instance : TFd Try.prog 32 0 0 3 := ⟨_, _, Try.underlying32, rfl, rfl, rfl, fun w => ⟨0, Try.sizeOf3 w⟩⟩
instance : TFd Try.prog 32 1 1 3 := ⟨_, _, Try.underlying32, rfl, rfl, rfl, fun w => ⟨0, Try.sizeOf3 w⟩⟩
instance : TFd Try.prog 32 2 2 30 := ⟨_, _, Try.underlying32, rfl, rfl, rfl, fun w => ⟨3, Try.sizeOf30 w⟩⟩
instance : TZ Try.prog 32 (.agg #[.int .i64 0, .int .i64 0, .int .i64 0, .int .i64 0, .int .i64 0, .slice none 0 0]) := ⟨Try.zeroValue32⟩
instance : TZL Try.prog 32 [.int .i64 0, .int .i64 0, .int .i64 0, .int .i64 0, .int .i64 0, .slice none 0 0] := ⟨_, Try.zeroValue32, rfl⟩
instance : TIn Try.prog 32 6 64 (.agg #[.int .i64 0, .int .i64 0, .int .i64 0, .int .i64 0, .int .i64 0, .slice none 0 0]) := ⟨_, rfl, rfl, rfl, rfl, rfl, by decide⟩
instance : TSz Try.prog 33 1 := ⟨Try.sizeOf33⟩
instance : TAgg Try.prog 33 false := ⟨Try.isAgg33⟩
instance : TZ Try.prog 33 (.nilFunc) := ⟨Try.zeroValue33⟩
instance : TZL Try.prog 33 [.nilFunc] := ⟨_, Try.zeroValue33, rfl⟩
instance : TIn Try.prog 33 1 8 (.nilFunc) := ⟨_, rfl, rfl, rfl, rfl, rfl, by decide⟩
instance : TSz Try.prog 34 1 := ⟨Try.sizeOf34⟩
instance : TAgg Try.prog 34 false := ⟨Try.isAgg34⟩
instance : TPt Try.prog 34 := ⟨_, Try.underlying34⟩
instance : TZ Try.prog 34 (.pointer none) := ⟨Try.zeroValue34⟩
instance : TZL Try.prog 34 [.pointer none] := ⟨_, Try.zeroValue34, rfl⟩
instance : TIn Try.prog 34 1 8 (.pointer none) := ⟨_, rfl, rfl, rfl, rfl, rfl, by decide⟩
instance : TSz Try.prog 35 1 := ⟨Try.sizeOf35⟩
instance : TAgg Try.prog 35 false := ⟨Try.isAgg35⟩
instance : TIt Try.prog 35 .i64 := ⟨Try.underlying35⟩
instance : TZ Try.prog 35 (.int .i64 0) := ⟨Try.zeroValue35⟩
instance : TZL Try.prog 35 [.int .i64 0] := ⟨_, Try.zeroValue35, rfl⟩
instance : TIn Try.prog 35 1 8 (.int .i64 0) := ⟨_, rfl, rfl, rfl, rfl, rfl, by decide⟩
instance : TSz Try.prog 37 1 := ⟨Try.sizeOf37⟩
instance : TAgg Try.prog 37 false := ⟨Try.isAgg37⟩
instance : TZ Try.prog 37 (.nilFunc) := ⟨Try.zeroValue37⟩
instance : TZL Try.prog 37 [.nilFunc] := ⟨_, Try.zeroValue37, rfl⟩
instance : TIn Try.prog 37 1 8 (.nilFunc) := ⟨_, rfl, rfl, rfl, rfl, rfl, by decide⟩
instance : TSz Try.prog 38 1 := ⟨Try.sizeOf38⟩
instance : TAgg Try.prog 38 false := ⟨Try.isAgg38⟩
instance : TZ Try.prog 38 (.nilFunc) := ⟨Try.zeroValue38⟩
instance : TZL Try.prog 38 [.nilFunc] := ⟨_, Try.zeroValue38, rfl⟩
instance : TIn Try.prog 38 1 8 (.nilFunc) := ⟨_, rfl, rfl, rfl, rfl, rfl, by decide⟩
instance : TSz Try.prog 39 1 := ⟨Try.sizeOf39⟩
instance : TAgg Try.prog 39 false := ⟨Try.isAgg39⟩
instance : TPt Try.prog 39 := ⟨_, Try.underlying39⟩
instance : TZ Try.prog 39 (.pointer none) := ⟨Try.zeroValue39⟩
instance : TZL Try.prog 39 [.pointer none] := ⟨_, Try.zeroValue39, rfl⟩
instance : TIn Try.prog 39 1 8 (.pointer none) := ⟨_, rfl, rfl, rfl, rfl, rfl, by decide⟩
instance : TSz Try.prog 40 1 := ⟨Try.sizeOf40⟩
instance : TAgg Try.prog 40 false := ⟨Try.isAgg40⟩
instance : TZ Try.prog 40 (.nilFunc) := ⟨Try.zeroValue40⟩
instance : TZL Try.prog 40 [.nilFunc] := ⟨_, Try.zeroValue40, rfl⟩
instance : TIn Try.prog 40 1 8 (.nilFunc) := ⟨_, rfl, rfl, rfl, rfl, rfl, by decide⟩
instance : TSz Try.prog 41 1 := ⟨Try.sizeOf41⟩
instance : TAgg Try.prog 41 false := ⟨Try.isAgg41⟩
instance : TSl Try.prog 41 28 := ⟨Try.underlying41⟩
instance : TZ Try.prog 41 (.slice none 0 0) := ⟨Try.zeroValue41⟩
instance : TZL Try.prog 41 [.slice none 0 0] := ⟨_, Try.zeroValue41, rfl⟩
instance : TIn Try.prog 41 1 24 (.slice none 0 0) := ⟨_, rfl, rfl, rfl, rfl, rfl, by decide⟩
instance : TSz Try.prog 42 2 := ⟨Try.sizeOf42⟩
instance : TAgg Try.prog 42 true := ⟨Try.isAgg42⟩
instance : TPl Try.prog 42 [(0, 1), (1, 1)] := ⟨_, Try.underlying42, fun w => by simp [List.mapM_cons]⟩
instance : TFd Try.prog 42 0 0 22 := ⟨_, _, Try.underlying42, rfl, rfl, rfl, fun w => ⟨0, Try.sizeOf22 w⟩⟩
instance : TFd Try.prog 42 1 1 41 := ⟨_, _, Try.underlying42, rfl, rfl, rfl, fun w => ⟨0, Try.sizeOf41 w⟩⟩
instance : TZ Try.prog 42 (.agg #[.slice none 0 0, .slice none 0 0]) := ⟨Try.zeroValue42⟩
instance : TZL Try.prog 42 [.slice none 0 0, .slice none 0 0] := ⟨_, Try.zeroValue42, rfl⟩
instance : TIn Try.prog 42 2 48 (.agg #[.slice none 0 0, .slice none 0 0]) := ⟨_, rfl, rfl, rfl, rfl, rfl, by decide⟩
instance : TSz Try.prog 43 2 := ⟨Try.sizeOf43⟩
instance : TAgg Try.prog 43 true := ⟨Try.isAgg43⟩
instance : TPl Try.prog 43 [(0, 1), (1, 1)] := ⟨_, Try.underlying43, fun w => by simp [List.mapM_cons]⟩
instance : TFd Try.prog 43 0 0 22 := ⟨_, _, Try.underlying43, rfl, rfl, rfl, fun w => ⟨0, Try.sizeOf22 w⟩⟩
instance : TFd Try.prog 43 1 1 41 := ⟨_, _, Try.underlying43, rfl, rfl, rfl, fun w => ⟨0, Try.sizeOf41 w⟩⟩
instance : TZ Try.prog 43 (.agg #[.slice none 0 0, .slice none 0 0]) := ⟨Try.zeroValue43⟩
instance : TZL Try.prog 43 [.slice none 0 0, .slice none 0 0] := ⟨_, Try.zeroValue43, rfl⟩
instance : TIn Try.prog 43 2 48 (.agg #[.slice none 0 0, .slice none 0 0]) := ⟨_, rfl, rfl, rfl, rfl, rfl, by decide⟩
instance : TSz Try.prog 44 1 := ⟨Try.sizeOf44⟩
instance : TAgg Try.prog 44 false := ⟨Try.isAgg44⟩
instance : TZ Try.prog 44 (.nilFunc) := ⟨Try.zeroValue44⟩
instance : TZL Try.prog 44 [.nilFunc] := ⟨_, Try.zeroValue44, rfl⟩
instance : TIn Try.prog 44 1 8 (.nilFunc) := ⟨_, rfl, rfl, rfl, rfl, rfl, by decide⟩
instance : TSz Try.prog 45 1 := ⟨Try.sizeOf45⟩
instance : TAgg Try.prog 45 false := ⟨Try.isAgg45⟩
instance : TZ Try.prog 45 (.nilFunc) := ⟨Try.zeroValue45⟩
instance : TZL Try.prog 45 [.nilFunc] := ⟨_, Try.zeroValue45, rfl⟩
instance : TIn Try.prog 45 1 8 (.nilFunc) := ⟨_, rfl, rfl, rfl, rfl, rfl, by decide⟩
instance : TSz Try.prog 46 4 := ⟨Try.sizeOf46⟩
instance : TAgg Try.prog 46 true := ⟨Try.isAgg46⟩
instance : TPl Try.prog 46 [(0, 1), (1, 1), (2, 2)] := ⟨_, Try.underlying46, fun w => by simp [List.mapM_cons]⟩
instance : TFd Try.prog 46 0 0 35 := ⟨_, _, Try.underlying46, rfl, rfl, rfl, fun w => ⟨0, Try.sizeOf35 w⟩⟩
instance : TFd Try.prog 46 1 1 3 := ⟨_, _, Try.underlying46, rfl, rfl, rfl, fun w => ⟨0, Try.sizeOf3 w⟩⟩
instance : TFd Try.prog 46 2 2 28 := ⟨_, _, Try.underlying46, rfl, rfl, rfl, fun w => ⟨1, Try.sizeOf28 w⟩⟩
instance : TZ Try.prog 46 (.agg #[.int .i64 0, .int .i64 0, .int .i64 0, .slice none 0 0]) := ⟨Try.zeroValue46⟩
instance : TZL Try.prog 46 [.int .i64 0, .int .i64 0, .int .i64 0, .slice none 0 0] := ⟨_, Try.zeroValue46, rfl⟩
instance : TIn Try.prog 46 4 48 (.agg #[.int .i64 0, .int .i64 0, .int .i64 0, .slice none 0 0]) := ⟨_, rfl, rfl, rfl, rfl, rfl, by decide⟩
instance : TSz Try.prog 47 4 := ⟨Try.sizeOf47⟩
instance : TAgg Try.prog 47 true := ⟨Try.isAgg47⟩
instance : TPl Try.prog 47 [(0, 1), (1, 1), (2, 2)] := ⟨_, Try.underlying47, fun w => by simp [List.mapM_cons]⟩
instance : TFd Try.prog 47 0 0 35 := ⟨_, _, Try.underlying47, rfl, rfl, rfl, fun w => ⟨0, Try.sizeOf35 w⟩⟩
instance : TFd Try.prog 47 1 1 3 := ⟨_, _, Try.underlying47, rfl, rfl, rfl, fun w => ⟨0, Try.sizeOf3 w⟩⟩
instance : TFd Try.prog 47 2 2 28 := ⟨_, _, Try.underlying47, rfl, rfl, rfl, fun w => ⟨1, Try.sizeOf28 w⟩⟩
instance : TZ Try.prog 47 (.agg #[.int .i64 0, .int .i64 0, .int .i64 0, .slice none 0 0]) := ⟨Try.zeroValue47⟩
instance : TZL Try.prog 47 [.int .i64 0, .int .i64 0, .int .i64 0, .slice none 0 0] := ⟨_, Try.zeroValue47, rfl⟩
instance : TIn Try.prog 47 4 48 (.agg #[.int .i64 0, .int .i64 0, .int .i64 0, .slice none 0 0]) := ⟨_, rfl, rfl, rfl, rfl, rfl, by decide⟩
instance : TSz Try.prog 48 1 := ⟨Try.sizeOf48⟩
instance : TAgg Try.prog 48 false := ⟨Try.isAgg48⟩
instance : TZ Try.prog 48 (.nilFunc) := ⟨Try.zeroValue48⟩
instance : TZL Try.prog 48 [.nilFunc] := ⟨_, Try.zeroValue48, rfl⟩
instance : TIn Try.prog 48 1 8 (.nilFunc) := ⟨_, rfl, rfl, rfl, rfl, rfl, by decide⟩
instance : TSz Try.prog 50 1 := ⟨Try.sizeOf50⟩
instance : TAgg Try.prog 50 false := ⟨Try.isAgg50⟩
instance : TZ Try.prog 50 (.nilFunc) := ⟨Try.zeroValue50⟩
instance : TZL Try.prog 50 [.nilFunc] := ⟨_, Try.zeroValue50, rfl⟩
instance : TIn Try.prog 50 1 8 (.nilFunc) := ⟨_, rfl, rfl, rfl, rfl, rfl, by decide⟩
instance : TSz Try.prog 51 1 := ⟨Try.sizeOf51⟩
instance : TAgg Try.prog 51 false := ⟨Try.isAgg51⟩
instance : TZ Try.prog 51 (.nilFunc) := ⟨Try.zeroValue51⟩
instance : TZL Try.prog 51 [.nilFunc] := ⟨_, Try.zeroValue51, rfl⟩
instance : TIn Try.prog 51 1 8 (.nilFunc) := ⟨_, rfl, rfl, rfl, rfl, rfl, by decide⟩
instance : TSz Try.prog 52 1 := ⟨Try.sizeOf52⟩
instance : TAgg Try.prog 52 false := ⟨Try.isAgg52⟩
instance : TZ Try.prog 52 (.nilFunc) := ⟨Try.zeroValue52⟩
instance : TZL Try.prog 52 [.nilFunc] := ⟨_, Try.zeroValue52, rfl⟩
instance : TIn Try.prog 52 1 8 (.nilFunc) := ⟨_, rfl, rfl, rfl, rfl, rfl, by decide⟩
instance : TSz Try.prog 53 1 := ⟨Try.sizeOf53⟩
instance : TAgg Try.prog 53 false := ⟨Try.isAgg53⟩
instance : TZ Try.prog 53 (.nilFunc) := ⟨Try.zeroValue53⟩
instance : TZL Try.prog 53 [.nilFunc] := ⟨_, Try.zeroValue53, rfl⟩
instance : TIn Try.prog 53 1 8 (.nilFunc) := ⟨_, rfl, rfl, rfl, rfl, rfl, by decide⟩
instance : TSz Try.prog 54 1 := ⟨Try.sizeOf54⟩
instance : TAgg Try.prog 54 false := ⟨Try.isAgg54⟩
instance : TZ Try.prog 54 (.nilFunc) := ⟨Try.zeroValue54⟩
instance : TZL Try.prog 54 [.nilFunc] := ⟨_, Try.zeroValue54, rfl⟩
instance : TIn Try.prog 54 1 8 (.nilFunc) := ⟨_, rfl, rfl, rfl, rfl, rfl, by decide⟩
instance : TSz Try.prog 55 1 := ⟨Try.sizeOf55⟩
instance : TAgg Try.prog 55 false := ⟨Try.isAgg55⟩
instance : TZ Try.prog 55 (.nilFunc) := ⟨Try.zeroValue55⟩
instance : TZL Try.prog 55 [.nilFunc] := ⟨_, Try.zeroValue55, rfl⟩
instance : TIn Try.prog 55 1 8 (.nilFunc) := ⟨_, rfl, rfl, rfl, rfl, rfl, by decide⟩
instance : TSz Try.prog 56 1 := ⟨Try.sizeOf56⟩
instance : TAgg Try.prog 56 false := ⟨Try.isAgg56⟩
instance : TZ Try.prog 56 (.nilFunc) := ⟨Try.zeroValue56⟩
instance : TZL Try.prog 56 [.nilFunc] := ⟨_, Try.zeroValue56, rfl⟩
instance : TIn Try.prog 56 1 8 (.nilFunc) := ⟨_, rfl, rfl, rfl, rfl, rfl, by decide⟩
instance : TSz Try.prog 57 1 := ⟨Try.sizeOf57⟩
instance : TAgg Try.prog 57 false := ⟨Try.isAgg57⟩
instance : TZ Try.prog 57 (.nilFunc) := ⟨Try.zeroValue57⟩
instance : TZL Try.prog 57 [.nilFunc] := ⟨_, Try.zeroValue57, rfl⟩
instance : TIn Try.prog 57 1 8 (.nilFunc) := ⟨_, rfl, rfl, rfl, rfl, rfl, by decide⟩
instance : TSz Try.prog 58 1 := ⟨Try.sizeOf58⟩
instance : TAgg Try.prog 58 false := ⟨Try.isAgg58⟩
instance : TZ Try.prog 58 (.nilFunc) := ⟨Try.zeroValue58⟩
instance : TZL Try.prog 58 [.nilFunc] := ⟨_, Try.zeroValue58, rfl⟩
instance : TIn Try.prog 58 1 8 (.nilFunc) := ⟨_, rfl, rfl, rfl, rfl, rfl, by decide⟩
instance : TSz Try.prog 59 16 := ⟨Try.sizeOf59⟩
instance : TAgg Try.prog 59 true := ⟨Try.isAgg59⟩
instance : TZ Try.prog 59 (.agg #[.int .i64 0, .int .i64 0, .int .i64 0, .int .i64 0, .int .i64 0, .int .i64 0, .int .i64 0, .int .i64 0, .int .i64 0, .int .i64 0, .int .i64 0, .int .i64 0, .int .i64 0, .int .i64 0, .int .i64 0, .int .i64 0]) := ⟨Try.zeroValue59⟩
instance : TZL Try.prog 59 [.int .i64 0, .int .i64 0, .int .i64 0, .int .i64 0, .int .i64 0, .int .i64 0, .int .i64 0, .int .i64 0, .int .i64 0, .int .i64 0, .int .i64 0, .int .i64 0, .int .i64 0, .int .i64 0, .int .i64 0, .int .i64 0] := ⟨_, Try.zeroValue59, rfl⟩
instance : TIn Try.prog 59 16 128 (.agg #[.int .i64 0, .int .i64 0, .int .i64 0, .int .i64 0, .int .i64 0, .int .i64 0, .int .i64 0, .int .i64 0, .int .i64 0, .int .i64 0, .int .i64 0, .int .i64 0, .int .i64 0, .int .i64 0, .int .i64 0, .int .i64 0]) := ⟨_, rfl, rfl, rfl, rfl, rfl, by decide⟩
instance : TSz Try.prog 60 32 := ⟨Try.sizeOf60⟩
instance : TAgg Try.prog 60 true := ⟨Try.isAgg60⟩
instance : TZ Try.prog 60 (.agg #[.int .i64 0, .slice none 0 0, .int .i64 0, .slice none 0 0, .int .i64 0, .slice none 0 0, .int .i64 0, .slice none 0 0, .int .i64 0, .slice none 0 0, .int .i64 0, .slice none 0 0, .int .i64 0, .slice none 0 0, .int .i64 0, .slice none 0 0, .int .i64 0, .slice none 0 0, .int .i64 0, .slice none 0 0, .int .i64 0, .slice none 0 0, .int .i64 0, .slice none 0 0, .int .i64 0, .slice none 0 0, .int .i64 0, .slice none 0 0, .int .i64 0, .slice none 0 0, .int .i64 0, .slice none 0 0]) := ⟨Try.zeroValue60⟩
instance : TZL Try.prog 60 [.int .i64 0, .slice none 0 0, .int .i64 0, .slice none 0 0, .int .i64 0, .slice none 0 0, .int .i64 0, .slice none 0 0, .int .i64 0, .slice none 0 0, .int .i64 0, .slice none 0 0, .int .i64 0, .slice none 0 0, .int .i64 0, .slice none 0 0, .int .i64 0, .slice none 0 0, .int .i64 0, .slice none 0 0, .int .i64 0, .slice none 0 0, .int .i64 0, .slice none 0 0, .int .i64 0, .slice none 0 0, .int .i64 0, .slice none 0 0, .int .i64 0, .slice none 0 0, .int .i64 0, .slice none 0 0] := ⟨_, Try.zeroValue60, rfl⟩
instance : TIn Try.prog 60 32 512 (.agg #[.int .i64 0, .slice none 0 0, .int .i64 0, .slice none 0 0, .int .i64 0, .slice none 0 0, .int .i64 0, .slice none 0 0, .int .i64 0, .slice none 0 0, .int .i64 0, .slice none 0 0, .int .i64 0, .slice none 0 0, .int .i64 0, .slice none 0 0, .int .i64 0, .slice none 0 0, .int .i64 0, .slice none 0 0, .int .i64 0, .slice none 0 0, .int .i64 0, .slice none 0 0, .int .i64 0, .slice none 0 0, .int .i64 0, .slice none 0 0, .int .i64 0, .slice none 0 0, .int .i64 0, .slice none 0 0]) := ⟨_, rfl, rfl, rfl, rfl, rfl, by decide⟩
instance : TSz Try.prog 61 1 := ⟨Try.sizeOf61⟩
instance : TAgg Try.prog 61 false := ⟨Try.isAgg61⟩
instance : TMap Try.prog 61 3 3 := ⟨Try.underlying61⟩
instance : TZ Try.prog 61 (.map none) := ⟨Try.zeroValue61⟩
instance : TZL Try.prog 61 [.map none] := ⟨_, Try.zeroValue61, rfl⟩
instance : TIn Try.prog 61 1 8 (.map none) := ⟨_, rfl, rfl, rfl, rfl, rfl, by decide⟩
instance : TSz Try.prog 62 5 := ⟨Try.sizeOf62⟩
instance : TAgg Try.prog 62 true := ⟨Try.isAgg62⟩
instance : TPl Try.prog 62 [(0, 4), (4, 1)] := ⟨_, Try.underlying62, fun w => by simp [List.mapM_cons]⟩
instance : TFd Try.prog 62 0 0 24 := ⟨_, _, Try.underlying62, rfl, rfl, rfl, fun w => ⟨3, Try.sizeOf24 w⟩⟩
instance : TFd Try.prog 62 1 4 61 := ⟨_, _, Try.underlying62, rfl, rfl, rfl, fun w => ⟨0, Try.sizeOf61 w⟩⟩
instance : TZ Try.prog 62 (.agg #[.int .i64 0, .int .i64 0, .int .i64 0, .slice none 0 0, .map none]) := ⟨Try.zeroValue62⟩
instance : TZL Try.prog 62 [.int .i64 0, .int .i64 0, .int .i64 0, .slice none 0 0, .map none] := ⟨_, Try.zeroValue62, rfl⟩
instance : TIn Try.prog 62 5 56 (.agg #[.int .i64 0, .int .i64 0, .int .i64 0, .slice none 0 0, .map none]) := ⟨_, rfl, rfl, rfl, rfl, rfl, by decide⟩
instance : TSz Try.prog 63 5 := ⟨Try.sizeOf63⟩
instance : TAgg Try.prog 63 true := ⟨Try.isAgg63⟩
instance : TPl Try.prog 63 [(0, 4), (4, 1)] := ⟨_, Try.underlying63, fun w => by simp [List.mapM_cons]⟩
instance : TFd Try.prog 63 0 0 24 := ⟨_, _, Try.underlying63, rfl, rfl, rfl, fun w => ⟨3, Try.sizeOf24 w⟩⟩
instance : TFd Try.prog 63 1 4 61 := ⟨_, _, Try.underlying63, rfl, rfl, rfl, fun w => ⟨0, Try.sizeOf61 w⟩⟩
instance : TZ Try.prog 63 (.agg #[.int .i64 0, .int .i64 0, .int .i64 0, .slice none 0 0, .map none]) := ⟨Try.zeroValue63⟩
instance : TZL Try.prog 63 [.int .i64 0, .int .i64 0, .int .i64 0, .slice none 0 0, .map none] := ⟨_, Try.zeroValue63, rfl⟩
instance : TIn Try.prog 63 5 56 (.agg #[.int .i64 0, .int .i64 0, .int .i64 0, .slice none 0 0, .map none]) := ⟨_, rfl, rfl, rfl, rfl, rfl, by decide⟩
instance : TSz Try.prog 64 1 := ⟨Try.sizeOf64⟩
instance : TAgg Try.prog 64 false := ⟨Try.isAgg64⟩
instance : TZ Try.prog 64 (.nilFunc) := ⟨Try.zeroValue64⟩
instance : TZL Try.prog 64 [.nilFunc] := ⟨_, Try.zeroValue64, rfl⟩
instance : TIn Try.prog 64 1 8 (.nilFunc) := ⟨_, rfl, rfl, rfl, rfl, rfl, by decide⟩
instance : TSz Try.prog 65 1 := ⟨Try.sizeOf65⟩
instance : TAgg Try.prog 65 false := ⟨Try.isAgg65⟩
instance : TZ Try.prog 65 (.nilFunc) := ⟨Try.zeroValue65⟩
instance : TZL Try.prog 65 [.nilFunc] := ⟨_, Try.zeroValue65, rfl⟩
instance : TIn Try.prog 65 1 8 (.nilFunc) := ⟨_, rfl, rfl, rfl, rfl, rfl, by decide⟩
instance : TSz Try.prog 66 1 := ⟨Try.sizeOf66⟩
instance : TAgg Try.prog 66 false := ⟨Try.isAgg66⟩
instance : TZ Try.prog 66 (.nilFunc) := ⟨Try.zeroValue66⟩
instance : TZL Try.prog 66 [.nilFunc] := ⟨_, Try.zeroValue66, rfl⟩
instance : TIn Try.prog 66 1 8 (.nilFunc) := ⟨_, rfl, rfl, rfl, rfl, rfl, by decide⟩
instance : TSz Try.prog 67 49 := ⟨Try.sizeOf67⟩
instance : TAgg Try.prog 67 true := ⟨Try.isAgg67⟩
instance : TPl Try.prog 67 [(0, 1), (1, 16), (17, 32)] := ⟨_, Try.underlying67, fun w => by simp [List.mapM_cons]⟩
instance : TFd Try.prog 67 0 0 34 := ⟨_, _, Try.underlying67, rfl, rfl, rfl, fun w => ⟨0, Try.sizeOf34 w⟩⟩
instance : TFd Try.prog 67 1 1 59 := ⟨_, _, Try.underlying67, rfl, rfl, rfl, fun w => ⟨15, Try.sizeOf59 w⟩⟩
instance : TFd Try.prog 67 2 17 60 := ⟨_, _, Try.underlying67, rfl, rfl, rfl, fun w => ⟨31, Try.sizeOf60 w⟩⟩
instance : TZ Try.prog 67 (.agg #[.pointer none, .int .i64 0, .int .i64 0, .int .i64 0, .int .i64 0, .int .i64 0, .int .i64 0, .int .i64 0, .int .i64 0, .int .i64 0, .int .i64 0, .int .i64 0, .int .i64 0, .int .i64 0, .int .i64 0, .int .i64 0, .int .i64 0, .int .i64 0, .slice none 0 0, .int .i64 0, .slice none 0 0, .int .i64 0, .slice none 0 0, .int .i64 0, .slice none 0 0, .int .i64 0, .slice none 0 0, .int .i64 0, .slice none 0 0, .int .i64 0, .slice none 0 0, .int .i64 0, .slice none 0 0, .int .i64 0, .slice none 0 0, .int .i64 0, .slice none 0 0, .int .i64 0, .slice none 0 0, .int .i64 0, .slice none 0 0, .int .i64 0, .slice none 0 0, .int .i64 0, .slice none 0 0, .int .i64 0, .slice none 0 0, .int .i64 0, .slice none 0 0]) := ⟨Try.zeroValue67⟩
instance : TZL Try.prog 67 [.pointer none, .int .i64 0, .int .i64 0, .int .i64 0, .int .i64 0, .int .i64 0, .int .i64 0, .int .i64 0, .int .i64 0, .int .i64 0, .int .i64 0, .int .i64 0, .int .i64 0, .int .i64 0, .int .i64 0, .int .i64 0, .int .i64 0, .int .i64 0, .slice none 0 0, .int .i64 0, .slice none 0 0, .int .i64 0, .slice none 0 0, .int .i64 0, .slice none 0 0, .int .i64 0, .slice none 0 0, .int .i64 0, .slice none 0 0, .int .i64 0, .slice none 0 0, .int .i64 0, .slice none 0 0, .int .i64 0, .slice none 0 0, .int .i64 0, .slice none 0 0, .int .i64 0, .slice none 0 0, .int .i64 0, .slice none 0 0, .int .i64 0, .slice none 0 0, .int .i64 0, .slice none 0 0, .int .i64 0, .slice none 0 0, .int .i64 0, .slice none 0 0] := ⟨_, Try.zeroValue67, rfl⟩
instance : TIn Try.prog 67 49 648 (.agg #[.pointer none, .int .i64 0, .int .i64 0, .int .i64 0, .int .i64 0, .int .i64 0, .int .i64 0, .int .i64 0, .int .i64 0, .int .i64 0, .int .i64 0, .int .i64 0, .int .i64 0, .int .i64 0, .int .i64 0, .int .i64 0, .int .i64 0, .int .i64 0, .slice none 0 0, .int .i64 0, .slice none 0 0, .int .i64 0, .slice none 0 0, .int .i64 0, .slice none 0 0, .int .i64 0, .slice none 0 0, .int .i64 0, .slice none 0 0, .int .i64 0, .slice none 0 0, .int .i64 0, .slice none 0 0, .int .i64 0, .slice none 0 0, .int .i64 0, .slice none 0 0, .int .i64 0, .slice none 0 0, .int .i64 0, .slice none 0 0, .int .i64 0, .slice none 0 0, .int .i64 0, .slice none 0 0, .int .i64 0, .slice none 0 0, .int .i64 0, .slice none 0 0]) := ⟨_, rfl, rfl, rfl, rfl, rfl, by decide⟩
instance : TSz Try.prog 68 49 := ⟨Try.sizeOf68⟩
instance : TAgg Try.prog 68 true := ⟨Try.isAgg68⟩
instance : TPl Try.prog 68 [(0, 1), (1, 16), (17, 32)] := ⟨_, Try.underlying68, fun w => by simp [List.mapM_cons]⟩
instance : TFd Try.prog 68 0 0 34 := ⟨_, _, Try.underlying68, rfl, rfl, rfl, fun w => ⟨0, Try.sizeOf34 w⟩⟩
instance : TFd Try.prog 68 1 1 59 := ⟨_, _, Try.underlying68, rfl, rfl, rfl, fun w => ⟨15, Try.sizeOf59 w⟩⟩
instance : TFd Try.prog 68 2 17 60 := ⟨_, _, Try.underlying68, rfl, rfl, rfl, fun w => ⟨31, Try.sizeOf60 w⟩⟩
instance : TZ Try.prog 68 (.agg #[.pointer none, .int .i64 0, .int .i64 0, .int .i64 0, .int .i64 0, .int .i64 0, .int .i64 0, .int .i64 0, .int .i64 0, .int .i64 0, .int .i64 0, .int .i64 0, .int .i64 0, .int .i64 0, .int .i64 0, .int .i64 0, .int .i64 0, .int .i64 0, .slice none 0 0, .int .i64 0, .slice none 0 0, .int .i64 0, .slice none 0 0, .int .i64 0, .slice none 0 0, .int .i64 0, .slice none 0 0, .int .i64 0, .slice none 0 0, .int .i64 0, .slice none 0 0, .int .i64 0, .slice none 0 0, .int .i64 0, .slice none 0 0, .int .i64 0, .slice none 0 0, .int .i64 0, .slice none 0 0, .int .i64 0, .slice none 0 0, .int .i64 0, .slice none 0 0, .int .i64 0, .slice none 0 0, .int .i64 0, .slice none 0 0, .int .i64 0, .slice none 0 0]) := ⟨Try.zeroValue68⟩
instance : TZL Try.prog 68 [.pointer none, .int .i64 0, .int .i64 0, .int .i64 0, .int .i64 0, .int .i64 0, .int .i64 0, .int .i64 0, .int .i64 0, .int .i64 0, .int .i64 0, .int .i64 0, .int .i64 0, .int .i64 0, .int .i64 0, .int .i64 0, .int .i64 0, .int .i64 0, .slice none 0 0, .int .i64 0, .slice none 0 0, .int .i64 0, .slice none 0 0, .int .i64 0, .slice none 0 0, .int .i64 0, .slice none 0 0, .int .i64 0, .slice none 0 0, .int .i64 0, .slice none 0 0, .int .i64 0, .slice none 0 0, .int .i64 0, .slice none 0 0, .int .i64 0, .slice none 0 0, .int .i64 0, .slice none 0 0, .int .i64 0, .slice none 0 0, .int .i64 0, .slice none 0 0, .int .i64 0, .slice none 0 0, .int .i64 0, .slice none 0 0, .int .i64 0, .slice none 0 0] := ⟨_, Try.zeroValue68, rfl⟩
instance : TIn Try.prog 68 49 648 (.agg #[.pointer none, .int .i64 0, .int .i64 0, .int .i64 0, .int .i64 0, .int .i64 0, .int .i64 0, .int .i64 0, .int .i64 0, .int .i64 0, .int .i64 0, .int .i64 0, .int .i64 0, .int .i64 0, .int .i64 0, .int .i64 0, .int .i64 0, .int .i64 0, .slice none 0 0, .int .i64 0, .slice none 0 0, .int .i64 0, .slice none 0 0, .int .i64 0, .slice none 0 0, .int .i64 0, .slice none 0 0, .int .i64 0, .slice none 0 0, .int .i64 0, .slice none 0 0, .int .i64 0, .slice none 0 0, .int .i64 0, .slice none 0 0, .int .i64 0, .slice none 0 0, .int .i64 0, .slice none 0 0, .int .i64 0, .slice none 0 0, .int .i64 0, .slice none 0 0, .int .i64 0, .slice none 0 0, .int .i64 0, .slice none 0 0, .int .i64 0, .slice none 0 0]) := ⟨_, rfl, rfl, rfl, rfl, rfl, by decide⟩
instance : TSz Try.prog 69 1 := ⟨Try.sizeOf69⟩
instance : TAgg Try.prog 69 false := ⟨Try.isAgg69⟩
instance : TZ Try.prog 69 (.nilFunc) := ⟨Try.zeroValue69⟩
instance : TZL Try.prog 69 [.nilFunc] := ⟨_, Try.zeroValue69, rfl⟩
instance : TIn Try.prog 69 1 8 (.nilFunc) := ⟨_, rfl, rfl, rfl, rfl, rfl, by decide⟩
instance : TSz Try.prog 70 1 := ⟨Try.sizeOf70⟩
instance : TAgg Try.prog 70 false := ⟨Try.isAgg70⟩
instance : TZ Try.prog 70 (.nilFunc) := ⟨Try.zeroValue70⟩
instance : TZL Try.prog 70 [.nilFunc] := ⟨_, Try.zeroValue70, rfl⟩
instance : TIn Try.prog 70 1 8 (.nilFunc) := ⟨_, rfl, rfl, rfl, rfl, rfl, by decide⟩
instance : TSz Try.prog 71 1 := ⟨Try.sizeOf71⟩
instance : TAgg Try.prog 71 false := ⟨Try.isAgg71⟩
instance : TZ Try.prog 71 (.nilFunc) := ⟨Try.zeroValue71⟩
instance : TZL Try.prog 71 [.nilFunc] := ⟨_, Try.zeroValue71, rfl⟩
instance : TIn Try.prog 71 1 8 (.nilFunc) := ⟨_, rfl, rfl, rfl, rfl, rfl, by decide⟩
instance : TSz Try.prog 72 1 := ⟨Try.sizeOf72⟩
instance : TAgg Try.prog 72 false := ⟨Try.isAgg72⟩
instance : TZ Try.prog 72 (.nilFunc) := ⟨Try.zeroValue72⟩
instance : TZL Try.prog 72 [.nilFunc] := ⟨_, Try.zeroValue72, rfl⟩
instance : TIn Try.prog 72 1 8 (.nilFunc) := ⟨_, rfl, rfl, rfl, rfl, rfl, by decide⟩
instance : TSz Try.prog 73 1 := ⟨Try.sizeOf73⟩
instance : TAgg Try.prog 73 false := ⟨Try.isAgg73⟩
instance : TZ Try.prog 73 (.nilFunc) := ⟨Try.zeroValue73⟩
instance : TZL Try.prog 73 [.nilFunc] := ⟨_, Try.zeroValue73, rfl⟩
instance : TIn Try.prog 73 1 8 (.nilFunc) := ⟨_, rfl, rfl, rfl, rfl, rfl, by decide⟩
instance : TSz Try.prog 74 1 := ⟨Try.sizeOf74⟩
instance : TAgg Try.prog 74 false := ⟨Try.isAgg74⟩
instance : TZ Try.prog 74 (.nilFunc) := ⟨Try.zeroValue74⟩
instance : TZL Try.prog 74 [.nilFunc] := ⟨_, Try.zeroValue74, rfl⟩
instance : TIn Try.prog 74 1 8 (.nilFunc) := ⟨_, rfl, rfl, rfl, rfl, rfl, by decide⟩
instance : TSz Try.prog 75 1 := ⟨Try.sizeOf75⟩
instance : TAgg Try.prog 75 false := ⟨Try.isAgg75⟩
instance : TZ Try.prog 75 (.nilFunc) := ⟨Try.zeroValue75⟩
instance : TZL Try.prog 75 [.nilFunc] := ⟨_, Try.zeroValue75, rfl⟩
instance : TIn Try.prog 75 1 8 (.nilFunc) := ⟨_, rfl, rfl, rfl, rfl, rfl, by decide⟩
instance : TSz Try.prog 76 1 := ⟨Try.sizeOf76⟩
instance : TAgg Try.prog 76 false := ⟨Try.isAgg76⟩
instance : TZ Try.prog 76 (.nilFunc) := ⟨Try.zeroValue76⟩
instance : TZL Try.prog 76 [.nilFunc] := ⟨_, Try.zeroValue76, rfl⟩
instance : TIn Try.prog 76 1 8 (.nilFunc) := ⟨_, rfl, rfl, rfl, rfl, rfl, by decide⟩
instance : TSz Try.prog 77 1 := ⟨Try.sizeOf77⟩
instance : TAgg Try.prog 77 false := ⟨Try.isAgg77⟩
instance : TZ Try.prog 77 (.nilFunc) := ⟨Try.zeroValue77⟩
instance : TZL Try.prog 77 [.nilFunc] := ⟨_, Try.zeroValue77, rfl⟩
instance : TIn Try.prog 77 1 8 (.nilFunc) := ⟨_, rfl, rfl, rfl, rfl, rfl, by decide⟩
instance : TSz Try.prog 78 1 := ⟨Try.sizeOf78⟩
instance : TAgg Try.prog 78 false := ⟨Try.isAgg78⟩
instance : TZ Try.prog 78 (.nilFunc) := ⟨Try.zeroValue78⟩
instance : TZL Try.prog 78 [.nilFunc] := ⟨_, Try.zeroValue78, rfl⟩
instance : TIn Try.prog 78 1 8 (.nilFunc) := ⟨_, rfl, rfl, rfl, rfl, rfl, by decide⟩
instance : TSz Try.prog 80 1 := ⟨Try.sizeOf80⟩
instance : TAgg Try.prog 80 false := ⟨Try.isAgg80⟩
instance : TZ Try.prog 80 (.nilFunc) := ⟨Try.zeroValue80⟩
instance : TZL Try.prog 80 [.nilFunc] := ⟨_, Try.zeroValue80, rfl⟩
instance : TIn Try.prog 80 1 8 (.nilFunc) := ⟨_, rfl, rfl, rfl, rfl, rfl, by decide⟩
instance : TSz Try.prog 81 1 := ⟨Try.sizeOf81⟩
instance : TAgg Try.prog 81 false := ⟨Try.isAgg81⟩
instance : TZ Try.prog 81 (.nilFunc) := ⟨Try.zeroValue81⟩
instance : TZL Try.prog 81 [.nilFunc] := ⟨_, Try.zeroValue81, rfl⟩
instance : TIn Try.prog 81 1 8 (.nilFunc) := ⟨_, rfl, rfl, rfl, rfl, rfl, by decide⟩
instance : TSz Try.prog 83 1 := ⟨Try.sizeOf83⟩
instance : TAgg Try.prog 83 false := ⟨Try.isAgg83⟩
instance : TZ Try.prog 83 (.nilFunc) := ⟨Try.zeroValue83⟩
instance : TZL Try.prog 83 [.nilFunc] := ⟨_, Try.zeroValue83, rfl⟩
instance : TIn Try.prog 83 1 8 (.nilFunc) := ⟨_, rfl, rfl, rfl, rfl, rfl, by decide⟩
instance : TSz Try.prog 84 1 := ⟨Try.sizeOf84⟩
instance : TAgg Try.prog 84 false := ⟨Try.isAgg84⟩
instance : TZ Try.prog 84 (.nilFunc) := ⟨Try.zeroValue84⟩
instance : TZL Try.prog 84 [.nilFunc] := ⟨_, Try.zeroValue84, rfl⟩
instance : TIn Try.prog 84 1 8 (.nilFunc) := ⟨_, rfl, rfl, rfl, rfl, rfl, by decide⟩
instance : TSz Try.prog 85 1 := ⟨Try.sizeOf85⟩
instance : TAgg Try.prog 85 false := ⟨Try.isAgg85⟩
instance : TZ Try.prog 85 (.nilFunc) := ⟨Try.zeroValue85⟩
instance : TZL Try.prog 85 [.nilFunc] := ⟨_, Try.zeroValue85, rfl⟩
instance : TIn Try.prog 85 1 8 (.nilFunc) := ⟨_, rfl, rfl, rfl, rfl, rfl, by decide⟩
instance : TSz Try.prog 86 1 := ⟨Try.sizeOf86⟩
instance : TAgg Try.prog 86 false := ⟨Try.isAgg86⟩
instance : TZ Try.prog 86 (.nilFunc) := ⟨Try.zeroValue86⟩
instance : TZL Try.prog 86 [.nilFunc] := ⟨_, Try.zeroValue86, rfl⟩
instance : TIn Try.prog 86 1 8 (.nilFunc) := ⟨_, rfl, rfl, rfl, rfl, rfl, by decide⟩
instance : TSz Try.prog 87 1 := ⟨Try.sizeOf87⟩
instance : TAgg Try.prog 87 false := ⟨Try.isAgg87⟩
instance : TZ Try.prog 87 (.nilFunc) := ⟨Try.zeroValue87⟩
instance : TZL Try.prog 87 [.nilFunc] := ⟨_, Try.zeroValue87, rfl⟩
instance : TIn Try.prog 87 1 8 (.nilFunc) := ⟨_, rfl, rfl, rfl, rfl, rfl, by decide⟩
instance : TSz Try.prog 88 1 := ⟨Try.sizeOf88⟩
instance : TAgg Try.prog 88 false := ⟨Try.isAgg88⟩
instance : TSl Try.prog 88 22 := ⟨Try.underlying88⟩
instance : TZ Try.prog 88 (.slice none 0 0) := ⟨Try.zeroValue88⟩
instance : TZL Try.prog 88 [.slice none 0 0] := ⟨_, Try.zeroValue88, rfl⟩
instance : TIn Try.prog 88 1 24 (.slice none 0 0) := ⟨_, rfl, rfl, rfl, rfl, rfl, by decide⟩
instance : TSz Try.prog 89 1 := ⟨Try.sizeOf89⟩
instance : TAgg Try.prog 89 false := ⟨Try.isAgg89⟩
instance : TZ Try.prog 89 (.nilFunc) := ⟨Try.zeroValue89⟩
instance : TZL Try.prog 89 [.nilFunc] := ⟨_, Try.zeroValue89, rfl⟩
instance : TIn Try.prog 89 1 8 (.nilFunc) := ⟨_, rfl, rfl, rfl, rfl, rfl, by decide⟩
instance : TSz Try.prog 90 1 := ⟨Try.sizeOf90⟩
instance : TAgg Try.prog 90 false := ⟨Try.isAgg90⟩
instance : TSl Try.prog 90 9 := ⟨Try.underlying90⟩
instance : TZ Try.prog 90 (.slice none 0 0) := ⟨Try.zeroValue90⟩
instance : TZL Try.prog 90 [.slice none 0 0] := ⟨_, Try.zeroValue90, rfl⟩
instance : TIn Try.prog 90 1 24 (.slice none 0 0) := ⟨_, rfl, rfl, rfl, rfl, rfl, by decide⟩
instance : TSz Try.prog 91 1 := ⟨Try.sizeOf91⟩
instance : TAgg Try.prog 91 false := ⟨Try.isAgg91⟩
instance : TZ Try.prog 91 (.nilFunc) := ⟨Try.zeroValue91⟩
instance : TZL Try.prog 91 [.nilFunc] := ⟨_, Try.zeroValue91, rfl⟩
instance : TIn Try.prog 91 1 8 (.nilFunc) := ⟨_, rfl, rfl, rfl, rfl, rfl, by decide⟩
instance : TSz Try.prog 92 1 := ⟨Try.sizeOf92⟩
instance : TAgg Try.prog 92 false := ⟨Try.isAgg92⟩
instance : TZ Try.prog 92 (.nilFunc) := ⟨Try.zeroValue92⟩
instance : TZL Try.prog 92 [.nilFunc] := ⟨_, Try.zeroValue92, rfl⟩
instance : TIn Try.prog 92 1 8 (.nilFunc) := ⟨_, rfl, rfl, rfl, rfl, rfl, by decide⟩
instance : TSz Try.prog 93 1 := ⟨Try.sizeOf93⟩
instance : TAgg Try.prog 93 false := ⟨Try.isAgg93⟩
instance : TZ Try.prog 93 (.nilFunc) := ⟨Try.zeroValue93⟩
instance : TZL Try.prog 93 [.nilFunc] := ⟨_, Try.zeroValue93, rfl⟩
instance : TIn Try.prog 93 1 8 (.nilFunc) := ⟨_, rfl, rfl, rfl, rfl, rfl, by decide⟩
instance : TSz Try.prog 94 1 := ⟨Try.sizeOf94⟩
instance : TAgg Try.prog 94 false := ⟨Try.isAgg94⟩
instance : TZ Try.prog 94 (.nilFunc) := ⟨Try.zeroValue94⟩
instance : TZL Try.prog 94 [.nilFunc] := ⟨_, Try.zeroValue94, rfl⟩
instance : TIn Try.prog 94 1 8 (.nilFunc) := ⟨_, rfl, rfl, rfl, rfl, rfl, by decide⟩
instance : TSz Try.prog 95 1 := ⟨Try.sizeOf95⟩
instance : TAgg Try.prog 95 false := ⟨Try.isAgg95⟩
instance : TZ Try.prog 95 (.nilFunc) := ⟨Try.zeroValue95⟩
instance : TZL Try.prog 95 [.nilFunc] := ⟨_, Try.zeroValue95, rfl⟩
instance : TIn Try.prog 95 1 8 (.nilFunc) := ⟨_, rfl, rfl, rfl, rfl, rfl, by decide⟩
instance : TSz Try.prog 96 1 := ⟨Try.sizeOf96⟩
instance : TAgg Try.prog 96 false := ⟨Try.isAgg96⟩
instance : TZ Try.prog 96 (.nilFunc) := ⟨Try.zeroValue96⟩
instance : TZL Try.prog 96 [.nilFunc] := ⟨_, Try.zeroValue96, rfl⟩
instance : TIn Try.prog 96 1 8 (.nilFunc) := ⟨_, rfl, rfl, rfl, rfl, rfl, by decide⟩
instance : TSz Try.prog 97 1 := ⟨Try.sizeOf97⟩
instance : TAgg Try.prog 97 false := ⟨Try.isAgg97⟩
instance : TZ Try.prog 97 (.nilFunc) := ⟨Try.zeroValue97⟩
instance : TZL Try.prog 97 [.nilFunc] := ⟨_, Try.zeroValue97, rfl⟩
instance : TIn Try.prog 97 1 8 (.nilFunc) := ⟨_, rfl, rfl, rfl, rfl, rfl, by decide⟩
instance : TSz Try.prog 98 1 := ⟨Try.sizeOf98⟩
instance : TAgg Try.prog 98 false := ⟨Try.isAgg98⟩
instance : TIt Try.prog 98 .u64 := ⟨Try.underlying98⟩
instance : TZ Try.prog 98 (.int .u64 0) := ⟨Try.zeroValue98⟩
instance : TZL Try.prog 98 [.int .u64 0] := ⟨_, Try.zeroValue98, rfl⟩
instance : TIn Try.prog 98 1 8 (.int .u64 0) := ⟨_, rfl, rfl, rfl, rfl, rfl, by decide⟩
instance : TSz Try.prog 99 1 := ⟨Try.sizeOf99⟩
instance : TAgg Try.prog 99 false := ⟨Try.isAgg99⟩
instance : TZ Try.prog 99 (.nilFunc) := ⟨Try.zeroValue99⟩
instance : TZL Try.prog 99 [.nilFunc] := ⟨_, Try.zeroValue99, rfl⟩
instance : TIn Try.prog 99 1 8 (.nilFunc) := ⟨_, rfl, rfl, rfl, rfl, rfl, by decide⟩
instance : TSz Try.prog 100 1 := ⟨Try.sizeOf100⟩
instance : TAgg Try.prog 100 false := ⟨Try.isAgg100⟩
instance : TZ Try.prog 100 (.nilFunc) := ⟨Try.zeroValue100⟩
instance : TZL Try.prog 100 [.nilFunc] := ⟨_, Try.zeroValue100, rfl⟩
instance : TIn Try.prog 100 1 8 (.nilFunc) := ⟨_, rfl, rfl, rfl, rfl, rfl, by decide⟩
instance : TSz Try.prog 101 1 := ⟨Try.sizeOf101⟩
instance : TAgg Try.prog 101 false := ⟨Try.isAgg101⟩
instance : TIt Try.prog 101 .i64 := ⟨Try.underlying101⟩
instance : TZ Try.prog 101 (.int .i64 0) := ⟨Try.zeroValue101⟩
instance : TZL Try.prog 101 [.int .i64 0] := ⟨_, Try.zeroValue101, rfl⟩
instance : TIn Try.prog 101 1 8 (.int .i64 0) := ⟨_, rfl, rfl, rfl, rfl, rfl, by decide⟩
instance : TSz Try.prog 103 1 := ⟨Try.sizeOf103⟩
instance : TAgg Try.prog 103 false := ⟨Try.isAgg103⟩
instance : TZ Try.prog 103 (.nilFunc) := ⟨Try.zeroValue103⟩
instance : TZL Try.prog 103 [.nilFunc] := ⟨_, Try.zeroValue103, rfl⟩
instance : TIn Try.prog 103 1 8 (.nilFunc) := ⟨_, rfl, rfl, rfl, rfl, rfl, by decide⟩
instance : TSz Try.prog 104 1 := ⟨Try.sizeOf104⟩
instance : TAgg Try.prog 104 false := ⟨Try.isAgg104⟩
instance : TZ Try.prog 104 (.nilFunc) := ⟨Try.zeroValue104⟩
instance : TZL Try.prog 104 [.nilFunc] := ⟨_, Try.zeroValue104, rfl⟩
instance : TIn Try.prog 104 1 8 (.nilFunc) := ⟨_, rfl, rfl, rfl, rfl, rfl, by decide⟩
instance : TSz Try.prog 105 1 := ⟨Try.sizeOf105⟩
instance : TAgg Try.prog 105 false := ⟨Try.isAgg105⟩
instance : TZ Try.prog 105 (.nilFunc) := ⟨Try.zeroValue105⟩
instance : TZL Try.prog 105 [.nilFunc] := ⟨_, Try.zeroValue105, rfl⟩
instance : TIn Try.prog 105 1 8 (.nilFunc) := ⟨_, rfl, rfl, rfl, rfl, rfl, by decide⟩
instance : TSz Try.prog 106 1 := ⟨Try.sizeOf106⟩
instance : TAgg Try.prog 106 false := ⟨Try.isAgg106⟩
instance : TZ Try.prog 106 (.nilFunc) := ⟨Try.zeroValue106⟩
instance : TZL Try.prog 106 [.nilFunc] := ⟨_, Try.zeroValue106, rfl⟩
instance : TIn Try.prog 106 1 8 (.nilFunc) := ⟨_, rfl, rfl, rfl, rfl, rfl, by decide⟩
instance : TSz Try.prog 107 1 := ⟨Try.sizeOf107⟩
instance : TAgg Try.prog 107 false := ⟨Try.isAgg107⟩
instance : TZ Try.prog 107 (.nilFunc) := ⟨Try.zeroValue107⟩
instance : TZL Try.prog 107 [.nilFunc] := ⟨_, Try.zeroValue107, rfl⟩
instance : TIn Try.prog 107 1 8 (.nilFunc) := ⟨_, rfl, rfl, rfl, rfl, rfl, by decide⟩
instance : TSz Try.prog 108 1 := ⟨Try.sizeOf108⟩
instance : TAgg Try.prog 108 false := ⟨Try.isAgg108⟩
instance : TIt Try.prog 108 .u32 := ⟨Try.underlying108⟩
instance : TZ Try.prog 108 (.int .u32 0) := ⟨Try.zeroValue108⟩
instance : TZL Try.prog 108 [.int .u32 0] := ⟨_, Try.zeroValue108, rfl⟩
instance : TIn Try.prog 108 1 4 (.int .u32 0) := ⟨_, rfl, rfl, rfl, rfl, rfl, by decide⟩
instance : TSz Try.prog 109 1 := ⟨Try.sizeOf109⟩
instance : TAgg Try.prog 109 false := ⟨Try.isAgg109⟩
instance : TZ Try.prog 109 (.nilFunc) := ⟨Try.zeroValue109⟩
instance : TZL Try.prog 109 [.nilFunc] := ⟨_, Try.zeroValue109, rfl⟩
instance : TIn Try.prog 109 1 8 (.nilFunc) := ⟨_, rfl, rfl, rfl, rfl, rfl, by decide⟩
instance : TSz Try.prog 110 1 := ⟨Try.sizeOf110⟩
instance : TAgg Try.prog 110 false := ⟨Try.isAgg110⟩
instance : TIt Try.prog 110 .u64 := ⟨Try.underlying110⟩
instance : TZ Try.prog 110 (.int .u64 0) := ⟨Try.zeroValue110⟩
instance : TZL Try.prog 110 [.int .u64 0] := ⟨_, Try.zeroValue110, rfl⟩
instance : TIn Try.prog 110 1 8 (.int .u64 0) := ⟨_, rfl, rfl, rfl, rfl, rfl, by decide⟩
instance : TSz Try.prog 111 1 := ⟨Try.sizeOf111⟩
instance : TAgg Try.prog 111 false := ⟨Try.isAgg111⟩
instance : TSl Try.prog 111 5 := ⟨Try.underlying111⟩
instance : TZ Try.prog 111 (.slice none 0 0) := ⟨Try.zeroValue111⟩
instance : TZL Try.prog 111 [.slice none 0 0] := ⟨_, Try.zeroValue111, rfl⟩
instance : TIn Try.prog 111 1 24 (.slice none 0 0) := ⟨_, rfl, rfl, rfl, rfl, rfl, by decide⟩
instance : TSz Try.prog 112 1 := ⟨Try.sizeOf112⟩
instance : TAgg Try.prog 112 false := ⟨Try.isAgg112⟩
instance : TIt Try.prog 112 .u64 := ⟨Try.underlying112⟩
instance : TZ Try.prog 112 (.int .u64 0) := ⟨Try.zeroValue112⟩
instance : TZL Try.prog 112 [.int .u64 0] := ⟨_, Try.zeroValue112, rfl⟩
instance : TIn Try.prog 112 1 8 (.int .u64 0) := ⟨_, rfl, rfl, rfl, rfl, rfl, by decide⟩
instance : TSz Try.prog 113 1 := ⟨Try.sizeOf113⟩
instance : TAgg Try.prog 113 false := ⟨Try.isAgg113⟩
instance : TZ Try.prog 113 (.nilFunc) := ⟨Try.zeroValue113⟩
instance : TZL Try.prog 113 [.nilFunc] := ⟨_, Try.zeroValue113, rfl⟩
instance : TIn Try.prog 113 1 8 (.nilFunc) := ⟨_, rfl, rfl, rfl, rfl, rfl, by decide⟩
instance : TSz Try.prog 114 1 := ⟨Try.sizeOf114⟩
instance : TAgg Try.prog 114 false := ⟨Try.isAgg114⟩
instance : TZ Try.prog 114 (.nilFunc) := ⟨Try.zeroValue114⟩
instance : TZL Try.prog 114 [.nilFunc] := ⟨_, Try.zeroValue114, rfl⟩
instance : TIn Try.prog 114 1 8 (.nilFunc) := ⟨_, rfl, rfl, rfl, rfl, rfl, by decide⟩
instance : TSz Try.prog 115 1 := ⟨Try.sizeOf115⟩
instance : TAgg Try.prog 115 false := ⟨Try.isAgg115⟩
instance : TZ Try.prog 115 (.nilFunc) := ⟨Try.zeroValue115⟩
instance : TZL Try.prog 115 [.nilFunc] := ⟨_, Try.zeroValue115, rfl⟩
instance : TIn Try.prog 115 1 8 (.nilFunc) := ⟨_, rfl, rfl, rfl, rfl, rfl, by decide⟩
instance : TSz Try.prog 116 1 := ⟨Try.sizeOf116⟩
instance : TAgg Try.prog 116 false := ⟨Try.isAgg116⟩
instance : TPt Try.prog 116 := ⟨_, Try.underlying116⟩
instance : TZ Try.prog 116 (.pointer none) := ⟨Try.zeroValue116⟩
instance : TZL Try.prog 116 [.pointer none] := ⟨_, Try.zeroValue116, rfl⟩
instance : TIn Try.prog 116 1 8 (.pointer none) := ⟨_, rfl, rfl, rfl, rfl, rfl, by decide⟩
instance : TSz Try.prog 117 1 := ⟨Try.sizeOf117⟩
instance : TAgg Try.prog 117 false := ⟨Try.isAgg117⟩
instance : TZ Try.prog 117 (.nilFunc) := ⟨Try.zeroValue117⟩
instance : TZL Try.prog 117 [.nilFunc] := ⟨_, Try.zeroValue117, rfl⟩
instance : TIn Try.prog 117 1 8 (.nilFunc) := ⟨_, rfl, rfl, rfl, rfl, rfl, by decide⟩
instance : TSz Try.prog 118 1 := ⟨Try.sizeOf118⟩
instance : TAgg Try.prog 118 false := ⟨Try.isAgg118⟩
instance : TPt Try.prog 118 := ⟨_, Try.underlying118⟩
instance : TZ Try.prog 118 (.pointer none) := ⟨Try.zeroValue118⟩
instance : TZL Try.prog 118 [.pointer none] := ⟨_, Try.zeroValue118, rfl⟩
instance : TIn Try.prog 118 1 8 (.pointer none) := ⟨_, rfl, rfl, rfl, rfl, rfl, by decide⟩
instance : TSz Try.prog 120 1 := ⟨Try.sizeOf120⟩
instance : TAgg Try.prog 120 false := ⟨Try.isAgg120⟩
instance : TZ Try.prog 120 (.nilFunc) := ⟨Try.zeroValue120⟩
instance : TZL Try.prog 120 [.nilFunc] := ⟨_, Try.zeroValue120, rfl⟩
instance : TIn Try.prog 120 1 8 (.nilFunc) := ⟨_, rfl, rfl, rfl, rfl, rfl, by decide⟩
instance : TSz Try.prog 121 1 := ⟨Try.sizeOf121⟩
instance : TAgg Try.prog 121 false := ⟨Try.isAgg121⟩
instance : TZ Try.prog 121 (.nilFunc) := ⟨Try.zeroValue121⟩
instance : TZL Try.prog 121 [.nilFunc] := ⟨_, Try.zeroValue121, rfl⟩
instance : TIn Try.prog 121 1 8 (.nilFunc) := ⟨_, rfl, rfl, rfl, rfl, rfl, by decide⟩
instance : TSz Try.prog 122 4 := ⟨Try.sizeOf122⟩
instance : TAgg Try.prog 122 true := ⟨Try.isAgg122⟩
instance : TPl Try.prog 122 [(0, 1), (1, 1), (2, 1), (3, 1)] := ⟨_, Try.underlying122, fun w => by simp [List.mapM_cons]⟩
instance : TFd Try.prog 122 0 0 17 := ⟨_, _, Try.underlying122, rfl, rfl, rfl, fun w => ⟨0, Try.sizeOf17 w⟩⟩
instance : TFd Try.prog 122 1 1 17 := ⟨_, _, Try.underlying122, rfl, rfl, rfl, fun w => ⟨0, Try.sizeOf17 w⟩⟩
instance : TFd Try.prog 122 2 2 17 := ⟨_, _, Try.underlying122, rfl, rfl, rfl, fun w => ⟨0, Try.sizeOf17 w⟩⟩
instance : TFd Try.prog 122 3 3 9 := ⟨_, _, Try.underlying122, rfl, rfl, rfl, fun w => ⟨0, Try.sizeOf9 w⟩⟩
instance : TZ Try.prog 122 (.agg #[.pointer none, .pointer none, .pointer none, .string ⟨#[]⟩]) := ⟨Try.zeroValue122⟩
instance : TZL Try.prog 122 [.pointer none, .pointer none, .pointer none, .string ⟨#[]⟩] := ⟨_, Try.zeroValue122, rfl⟩
instance : TIn Try.prog 122 4 40 (.agg #[.pointer none, .pointer none, .pointer none, .string ⟨#[]⟩]) := ⟨_, rfl, rfl, rfl, rfl, rfl, by decide⟩
instance : TSz Try.prog 123 4 := ⟨Try.sizeOf123⟩
instance : TAgg Try.prog 123 true := ⟨Try.isAgg123⟩
instance : TPl Try.prog 123 [(0, 1), (1, 1), (2, 1), (3, 1)] := ⟨_, Try.underlying123, fun w => by simp [List.mapM_cons]⟩
instance : TFd Try.prog 123 0 0 17 := ⟨_, _, Try.underlying123, rfl, rfl, rfl, fun w => ⟨0, Try.sizeOf17 w⟩⟩
instance : TFd Try.prog 123 1 1 17 := ⟨_, _, Try.underlying123, rfl, rfl, rfl, fun w => ⟨0, Try.sizeOf17 w⟩⟩
instance : TFd Try.prog 123 2 2 17 := ⟨_, _, Try.underlying123, rfl, rfl, rfl, fun w => ⟨0, Try.sizeOf17 w⟩⟩
instance : TFd Try.prog 123 3 3 9 := ⟨_, _, Try.underlying123, rfl, rfl, rfl, fun w => ⟨0, Try.sizeOf9 w⟩⟩
instance : TZ Try.prog 123 (.agg #[.pointer none, .pointer none, .pointer none, .string ⟨#[]⟩]) := ⟨Try.zeroValue123⟩
instance : TZL Try.prog 123 [.pointer none, .pointer none, .pointer none, .string ⟨#[]⟩] := ⟨_, Try.zeroValue123, rfl⟩
instance : TIn Try.prog 123 4 40 (.agg #[.pointer none, .pointer none, .pointer none, .string ⟨#[]⟩]) := ⟨_, rfl, rfl, rfl, rfl, rfl, by decide⟩
instance : TSz Try.prog 124 0 := ⟨Try.sizeOf124⟩
instance : TAgg Try.prog 124 true := ⟨Try.isAgg124⟩
instance : TSz Try.prog 125 0 := ⟨Try.sizeOf125⟩
instance : TAgg Try.prog 125 true := ⟨Try.isAgg125⟩
instance : TPl Try.prog 125 [(0, 0)] := ⟨_, Try.underlying125, fun w => by simp [List.mapM_cons]⟩
instance : TSz Try.prog 126 0 := ⟨Try.sizeOf126⟩
instance : TAgg Try.prog 126 true := ⟨Try.isAgg126⟩
instance : TPl Try.prog 126 [(0, 0)] := ⟨_, Try.underlying126, fun w => by simp [List.mapM_cons]⟩
instance : TSz Try.prog 127 1 := ⟨Try.sizeOf127⟩
instance : TAgg Try.prog 127 false := ⟨Try.isAgg127⟩
instance : TZ Try.prog 127 (.nilFunc) := ⟨Try.zeroValue127⟩
instance : TZL Try.prog 127 [.nilFunc] := ⟨_, Try.zeroValue127, rfl⟩
instance : TIn Try.prog 127 1 8 (.nilFunc) := ⟨_, rfl, rfl, rfl, rfl, rfl, by decide⟩
instance : TSz Try.prog 128 1 := ⟨Try.sizeOf128⟩
instance : TAgg Try.prog 128 false := ⟨Try.isAgg128⟩
instance : TIt Try.prog 128 .u8 := ⟨Try.underlying128⟩
instance : TZ Try.prog 128 (.int .u8 0) := ⟨Try.zeroValue128⟩
instance : TZL Try.prog 128 [.int .u8 0] := ⟨_, Try.zeroValue128, rfl⟩
instance : TIn Try.prog 128 1 1 (.int .u8 0) := ⟨_, rfl, rfl, rfl, rfl, rfl, by decide⟩
instance : TSz Try.prog 129 1 := ⟨Try.sizeOf129⟩
instance : TAgg Try.prog 129 false := ⟨Try.isAgg129⟩
instance : TIt Try.prog 129 .u8 := ⟨Try.underlying129⟩
instance : TZ Try.prog 129 (.int .u8 0) := ⟨Try.zeroValue129⟩
instance : TZL Try.prog 129 [.int .u8 0] := ⟨_, Try.zeroValue129, rfl⟩
instance : TIn Try.prog 129 1 1 (.int .u8 0) := ⟨_, rfl, rfl, rfl, rfl, rfl, by decide⟩
instance : TSz Try.prog 130 1 := ⟨Try.sizeOf130⟩
instance : TAgg Try.prog 130 false := ⟨Try.isAgg130⟩
instance : TZ Try.prog 130 (.nilFunc) := ⟨Try.zeroValue130⟩
instance : TZL Try.prog 130 [.nilFunc] := ⟨_, Try.zeroValue130, rfl⟩
instance : TIn Try.prog 130 1 8 (.nilFunc) := ⟨_, rfl, rfl, rfl, rfl, rfl, by decide⟩
instance : TSz Try.prog 131 1 := ⟨Try.sizeOf131⟩
instance : TAgg Try.prog 131 false := ⟨Try.isAgg131⟩
instance : TPt Try.prog 131 := ⟨_, Try.underlying131⟩
instance : TZ Try.prog 131 (.pointer none) := ⟨Try.zeroValue131⟩
instance : TZL Try.prog 131 [.pointer none] := ⟨_, Try.zeroValue131, rfl⟩
instance : TIn Try.prog 131 1 8 (.pointer none) := ⟨_, rfl, rfl, rfl, rfl, rfl, by decide⟩
instance : TSz Try.prog 132 1 := ⟨Try.sizeOf132⟩
instance : TAgg Try.prog 132 false := ⟨Try.isAgg132⟩
instance : TIt Try.prog 132 .i32 := ⟨Try.underlying132⟩
instance : TZ Try.prog 132 (.int .i32 0) := ⟨Try.zeroValue132⟩
instance : TZL Try.prog 132 [.int .i32 0] := ⟨_, Try.zeroValue132, rfl⟩
instance : TIn Try.prog 132 1 4 (.int .i32 0) := ⟨_, rfl, rfl, rfl, rfl, rfl, by decide⟩
instance : TSz Try.prog 133 1 := ⟨Try.sizeOf133⟩
instance : TAgg Try.prog 133 false := ⟨Try.isAgg133⟩
instance : TIt Try.prog 133 .i32 := ⟨Try.underlying133⟩
instance : TZ Try.prog 133 (.int .i32 0) := ⟨Try.zeroValue133⟩
instance : TZL Try.prog 133 [.int .i32 0] := ⟨_, Try.zeroValue133, rfl⟩
instance : TIn Try.prog 133 1 4 (.int .i32 0) := ⟨_, rfl, rfl, rfl, rfl, rfl, by decide⟩
instance : TSz Try.prog 134 11 := ⟨Try.sizeOf134⟩
instance : TAgg Try.prog 134 true := ⟨Try.isAgg134⟩
instance : TPl Try.prog 134 [(0, 1), (1, 1), (2, 1), (3, 1), (4, 1), (5, 1), (6, 1), (7, 1), (8, 1), (9, 1), (10, 1)] := ⟨_, Try.underlying134, fun w => by simp [List.mapM_cons]⟩
instance : TFd Try.prog 134 0 0 12 := ⟨_, _, Try.underlying134, rfl, rfl, rfl, fun w => ⟨0, Try.sizeOf12 w⟩⟩
instance : TFd Try.prog 134 1 1 12 := ⟨_, _, Try.underlying134, rfl, rfl, rfl, fun w => ⟨0, Try.sizeOf12 w⟩⟩
instance : TFd Try.prog 134 2 2 108 := ⟨_, _, Try.underlying134, rfl, rfl, rfl, fun w => ⟨0, Try.sizeOf108 w⟩⟩
instance : TFd Try.prog 134 3 3 128 := ⟨_, _, Try.underlying134, rfl, rfl, rfl, fun w => ⟨0, Try.sizeOf128 w⟩⟩
instance : TFd Try.prog 134 4 4 5 := ⟨_, _, Try.underlying134, rfl, rfl, rfl, fun w => ⟨0, Try.sizeOf5 w⟩⟩
instance : TFd Try.prog 134 5 5 5 := ⟨_, _, Try.underlying134, rfl, rfl, rfl, fun w => ⟨0, Try.sizeOf5 w⟩⟩
instance : TFd Try.prog 134 6 6 129 := ⟨_, _, Try.underlying134, rfl, rfl, rfl, fun w => ⟨0, Try.sizeOf129 w⟩⟩
instance : TFd Try.prog 134 7 7 130 := ⟨_, _, Try.underlying134, rfl, rfl, rfl, fun w => ⟨0, Try.sizeOf130 w⟩⟩
instance : TFd Try.prog 134 8 8 131 := ⟨_, _, Try.underlying134, rfl, rfl, rfl, fun w => ⟨0, Try.sizeOf131 w⟩⟩
instance : TFd Try.prog 134 9 9 132 := ⟨_, _, Try.underlying134, rfl, rfl, rfl, fun w => ⟨0, Try.sizeOf132 w⟩⟩
instance : TFd Try.prog 134 10 10 133 := ⟨_, _, Try.underlying134, rfl, rfl, rfl, fun w => ⟨0, Try.sizeOf133 w⟩⟩
instance : TZ Try.prog 134 (.agg #[.int .u64 0, .int .u64 0, .int .u32 0, .int .u8 0, .int .u8 0, .int .u8 0, .int .u8 0, .nilFunc, .pointer none, .int .i32 0, .int .i32 0]) := ⟨Try.zeroValue134⟩
instance : TZL Try.prog 134 [.int .u64 0, .int .u64 0, .int .u32 0, .int .u8 0, .int .u8 0, .int .u8 0, .int .u8 0, .nilFunc, .pointer none, .int .i32 0, .int .i32 0] := ⟨_, Try.zeroValue134, rfl⟩
instance : TIn Try.prog 134 11 48 (.agg #[.int .u64 0, .int .u64 0, .int .u32 0, .int .u8 0, .int .u8 0, .int .u8 0, .int .u8 0, .nilFunc, .pointer none, .int .i32 0, .int .i32 0]) := ⟨_, rfl, rfl, rfl, rfl, rfl, by decide⟩
instance : TSz Try.prog 135 11 := ⟨Try.sizeOf135⟩
instance : TAgg Try.prog 135 true := ⟨Try.isAgg135⟩
instance : TPl Try.prog 135 [(0, 1), (1, 1), (2, 1), (3, 1), (4, 1), (5, 1), (6, 1), (7, 1), (8, 1), (9, 1), (10, 1)] := ⟨_, Try.underlying135, fun w => by simp [List.mapM_cons]⟩
instance : TFd Try.prog 135 0 0 12 := ⟨_, _, Try.underlying135, rfl, rfl, rfl, fun w => ⟨0, Try.sizeOf12 w⟩⟩
instance : TFd Try.prog 135 1 1 12 := ⟨_, _, Try.underlying135, rfl, rfl, rfl, fun w => ⟨0, Try.sizeOf12 w⟩⟩
instance : TFd Try.prog 135 2 2 108 := ⟨_, _, Try.underlying135, rfl, rfl, rfl, fun w => ⟨0, Try.sizeOf108 w⟩⟩
instance : TFd Try.prog 135 3 3 128 := ⟨_, _, Try.underlying135, rfl, rfl, rfl, fun w => ⟨0, Try.sizeOf128 w⟩⟩
instance : TFd Try.prog 135 4 4 5 := ⟨_, _, Try.underlying135, rfl, rfl, rfl, fun w => ⟨0, Try.sizeOf5 w⟩⟩
instance : TFd Try.prog 135 5 5 5 := ⟨_, _, Try.underlying135, rfl, rfl, rfl, fun w => ⟨0, Try.sizeOf5 w⟩⟩
instance : TFd Try.prog 135 6 6 129 := ⟨_, _, Try.underlying135, rfl, rfl, rfl, fun w => ⟨0, Try.sizeOf129 w⟩⟩
instance : TFd Try.prog 135 7 7 130 := ⟨_, _, Try.underlying135, rfl, rfl, rfl, fun w => ⟨0, Try.sizeOf130 w⟩⟩
instance : TFd Try.prog 135 8 8 131 := ⟨_, _, Try.underlying135, rfl, rfl, rfl, fun w => ⟨0, Try.sizeOf131 w⟩⟩
instance : TFd Try.prog 135 9 9 132 := ⟨_, _, Try.underlying135, rfl, rfl, rfl, fun w => ⟨0, Try.sizeOf132 w⟩⟩
instance : TFd Try.prog 135 10 10 133 := ⟨_, _, Try.underlying135, rfl, rfl, rfl, fun w => ⟨0, Try.sizeOf133 w⟩⟩
instance : TZ Try.prog 135 (.agg #[.int .u64 0, .int .u64 0, .int .u32 0, .int .u8 0, .int .u8 0, .int .u8 0, .int .u8 0, .nilFunc, .pointer none, .int .i32 0, .int .i32 0]) := ⟨Try.zeroValue135⟩
instance : TZL Try.prog 135 [.int .u64 0, .int .u64 0, .int .u32 0, .int .u8 0, .int .u8 0, .int .u8 0, .int .u8 0, .nilFunc, .pointer none, .int .i32 0, .int .i32 0] := ⟨_, Try.zeroValue135, rfl⟩
instance : TIn Try.prog 135 11 48 (.agg #[.int .u64 0, .int .u64 0, .int .u32 0, .int .u8 0, .int .u8 0, .int .u8 0, .int .u8 0, .nilFunc, .pointer none, .int .i32 0, .int .i32 0]) := ⟨_, rfl, rfl, rfl, rfl, rfl, by decide⟩
instance : TSz Try.prog 136 1 := ⟨Try.sizeOf136⟩
instance : TAgg Try.prog 136 false := ⟨Try.isAgg136⟩
instance : TFn Try.prog 3 := ⟨Try.call3⟩
instance : TBody Try.prog 3 Try.f3 (Try.f3.body.getD .skip) 141 := ⟨Try.func3, rfl, Try.ntmps3⟩
instance : TFn Try.prog 4 := ⟨Try.call4⟩
instance : TBody Try.prog 4 Try.f4 (Try.f4.body.getD .skip) 120 := ⟨Try.func4, rfl, Try.ntmps4⟩
instance : TFn Try.prog 5 := ⟨Try.call5⟩
instance : TBody Try.prog 5 Try.f5 (Try.f5.body.getD .skip) 97 := ⟨Try.func5, rfl, Try.ntmps5⟩
instance : TFn Try.prog 6 := ⟨Try.call6⟩
instance : TBody Try.prog 6 Try.f6 (Try.f6.body.getD .skip) 156 := ⟨Try.func6, rfl, Try.ntmps6⟩
instance : TFn Try.prog 7 := ⟨Try.call7⟩
instance : TBody Try.prog 7 Try.f7 (Try.f7.body.getD .skip) 59 := ⟨Try.func7, rfl, Try.ntmps7⟩
instance : TFn Try.prog 8 := ⟨Try.call8⟩
instance : TBody Try.prog 8 Try.f8 (Try.f8.body.getD .skip) 67 := ⟨Try.func8, rfl, Try.ntmps8⟩
instance : TFn Try.prog 9 := ⟨Try.call9⟩
instance : TBody Try.prog 9 Try.f9 (Try.f9.body.getD .skip) 54 := ⟨Try.func9, rfl, Try.ntmps9⟩
instance : TFn Try.prog 10 := ⟨Try.call10⟩
instance : TBody Try.prog 10 Try.f10 (Try.f10.body.getD .skip) 6 := ⟨Try.func10, rfl, Try.ntmps10⟩
instance : TFn Try.prog 11 := ⟨Try.call11⟩
instance : TBody Try.prog 11 Try.f11 (Try.f11.body.getD .skip) 4 := ⟨Try.func11, rfl, Try.ntmps11⟩
instance : TFn Try.prog 12 := ⟨Try.call12⟩
instance : TBody Try.prog 12 Try.f12 (Try.f12.body.getD .skip) 8 := ⟨Try.func12, rfl, Try.ntmps12⟩
instance : TFn Try.prog 13 := ⟨Try.call13⟩
instance : TBody Try.prog 13 Try.f13 (Try.f13.body.getD .skip) 127 := ⟨Try.func13, rfl, Try.ntmps13⟩
instance : TFn Try.prog 14 := ⟨Try.call14⟩
instance : TBody Try.prog 14 Try.f14 (Try.f14.body.getD .skip) 159 := ⟨Try.func14, rfl, Try.ntmps14⟩
instance : TFn Try.prog 15 := ⟨Try.call15⟩
instance : TBody Try.prog 15 Try.f15 (Try.f15.body.getD .skip) 21 := ⟨Try.func15, rfl, Try.ntmps15⟩
instance : TFn Try.prog 16 := ⟨Try.call16⟩
instance : TBody Try.prog 16 Try.f16 (Try.f16.body.getD .skip) 17 := ⟨Try.func16, rfl, Try.ntmps16⟩
instance : TFn Try.prog 17 := ⟨Try.call17⟩
instance : TBody Try.prog 17 Try.f17 (Try.f17.body.getD .skip) 24 := ⟨Try.func17, rfl, Try.ntmps17⟩
instance : TFn Try.prog 18 := ⟨Try.call18⟩
instance : TBody Try.prog 18 Try.f18 (Try.f18.body.getD .skip) 14 := ⟨Try.func18, rfl, Try.ntmps18⟩
instance : TFn Try.prog 19 := ⟨Try.call19⟩
instance : TBody Try.prog 19 Try.f19 (Try.f19.body.getD .skip) 48 := ⟨Try.func19, rfl, Try.ntmps19⟩
instance : TFn Try.prog 20 := ⟨Try.call20⟩
instance : TBody Try.prog 20 Try.f20 (Try.f20.body.getD .skip) 75 := ⟨Try.func20, rfl, Try.ntmps20⟩
instance : TFn Try.prog 21 := ⟨Try.call21⟩
instance : TBody Try.prog 21 Try.f21 (Try.f21.body.getD .skip) 102 := ⟨Try.func21, rfl, Try.ntmps21⟩
instance : TFn Try.prog 22 := ⟨Try.call22⟩
instance : TBody Try.prog 22 Try.f22 (Try.f22.body.getD .skip) 8 := ⟨Try.func22, rfl, Try.ntmps22⟩
instance : TFn Try.prog 23 := ⟨Try.call23⟩
instance : TBody Try.prog 23 Try.f23 (Try.f23.body.getD .skip) 22 := ⟨Try.func23, rfl, Try.ntmps23⟩
instance : TFn Try.prog 24 := ⟨Try.call24⟩
instance : TBody Try.prog 24 Try.f24 (Try.f24.body.getD .skip) 16 := ⟨Try.func24, rfl, Try.ntmps24⟩
instance : TFn Try.prog 25 := ⟨Try.call25⟩
instance : TBody Try.prog 25 Try.f25 (Try.f25.body.getD .skip) 14 := ⟨Try.func25, rfl, Try.ntmps25⟩
instance : TFn Try.prog 26 := ⟨Try.call26⟩
instance : TBody Try.prog 26 Try.f26 (Try.f26.body.getD .skip) 9 := ⟨Try.func26, rfl, Try.ntmps26⟩
instance : TFn Try.prog 27 := ⟨Try.call27⟩
instance : TBody Try.prog 27 Try.f27 (Try.f27.body.getD .skip) 5 := ⟨Try.func27, rfl, Try.ntmps27⟩
instance : TFn Try.prog 28 := ⟨Try.call28⟩
instance : TBody Try.prog 28 Try.f28 (Try.f28.body.getD .skip) 40 := ⟨Try.func28, rfl, Try.ntmps28⟩
instance : TFn Try.prog 29 := ⟨Try.call29⟩
instance : TBody Try.prog 29 Try.f29 (Try.f29.body.getD .skip) 57 := ⟨Try.func29, rfl, Try.ntmps29⟩
instance : TFn Try.prog 30 := ⟨Try.call30⟩
instance : TBody Try.prog 30 Try.f30 (Try.f30.body.getD .skip) 13 := ⟨Try.func30, rfl, Try.ntmps30⟩
instance : TFn Try.prog 31 := ⟨Try.call31⟩
instance : TBody Try.prog 31 Try.f31 (Try.f31.body.getD .skip) 9 := ⟨Try.func31, rfl, Try.ntmps31⟩
instance : TFn Try.prog 32 := ⟨Try.call32⟩
instance : TBody Try.prog 32 Try.f32 (Try.f32.body.getD .skip) 45 := ⟨Try.func32, rfl, Try.ntmps32⟩
instance : TFn Try.prog 33 := ⟨Try.call33⟩
instance : TBody Try.prog 33 Try.f33 (Try.f33.body.getD .skip) 30 := ⟨Try.func33, rfl, Try.ntmps33⟩
instance : TFn Try.prog 34 := ⟨Try.call34⟩
instance : TBody Try.prog 34 Try.f34 (Try.f34.body.getD .skip) 70 := ⟨Try.func34, rfl, Try.ntmps34⟩
instance : TFn Try.prog 35 := ⟨Try.call35⟩
instance : TBody Try.prog 35 Try.f35 (Try.f35.body.getD .skip) 31 := ⟨Try.func35, rfl, Try.ntmps35⟩
instance : TFn Try.prog 36 := ⟨Try.call36⟩
instance : TBody Try.prog 36 Try.f36 (Try.f36.body.getD .skip) 26 := ⟨Try.func36, rfl, Try.ntmps36⟩
instance : TFn Try.prog 37 := ⟨Try.call37⟩
instance : TBody Try.prog 37 Try.f37 (Try.f37.body.getD .skip) 17 := ⟨Try.func37, rfl, Try.ntmps37⟩
instance : TFn Try.prog 38 := ⟨Try.call38⟩
instance : TBody Try.prog 38 Try.f38 (Try.f38.body.getD .skip) 25 := ⟨Try.func38, rfl, Try.ntmps38⟩
instance : TFn Try.prog 39 := ⟨Try.call39⟩
instance : TBody Try.prog 39 Try.f39 (Try.f39.body.getD .skip) 17 := ⟨Try.func39, rfl, Try.ntmps39⟩
instance : TFn Try.prog 40 := ⟨Try.call40⟩
instance : TBody Try.prog 40 Try.f40 (Try.f40.body.getD .skip) 12 := ⟨Try.func40, rfl, Try.ntmps40⟩
instance : TFn Try.prog 41 := ⟨Try.call41⟩
instance : TBody Try.prog 41 Try.f41 (Try.f41.body.getD .skip) 34 := ⟨Try.func41, rfl, Try.ntmps41⟩
instance : TFn Try.prog 42 := ⟨Try.call42⟩
instance : TBody Try.prog 42 Try.f42 (Try.f42.body.getD .skip) 36 := ⟨Try.func42, rfl, Try.ntmps42⟩
instance : TFn Try.prog 43 := ⟨Try.call43⟩
instance : TBody Try.prog 43 Try.f43 (Try.f43.body.getD .skip) 12 := ⟨Try.func43, rfl, Try.ntmps43⟩
instance : TFn Try.prog 44 := ⟨Try.call44⟩
instance : TBody Try.prog 44 Try.f44 (Try.f44.body.getD .skip) 9 := ⟨Try.func44, rfl, Try.ntmps44⟩
instance : TFn Try.prog 45 := ⟨Try.call45⟩
instance : TBody Try.prog 45 Try.f45 (Try.f45.body.getD .skip) 23 := ⟨Try.func45, rfl, Try.ntmps45⟩
instance : TFn Try.prog 46 := ⟨Try.call46⟩
instance : TBody Try.prog 46 Try.f46 (Try.f46.body.getD .skip) 26 := ⟨Try.func46, rfl, Try.ntmps46⟩
instance : TFn Try.prog 47 := ⟨Try.call47⟩
instance : TBody Try.prog 47 Try.f47 (Try.f47.body.getD .skip) 34 := ⟨Try.func47, rfl, Try.ntmps47⟩
instance : TFn Try.prog 48 := ⟨Try.call48⟩
instance : TBody Try.prog 48 Try.f48 (Try.f48.body.getD .skip) 9 := ⟨Try.func48, rfl, Try.ntmps48⟩
instance : TFn Try.prog 49 := ⟨Try.call49⟩
instance : TBody Try.prog 49 Try.f49 (Try.f49.body.getD .skip) 60 := ⟨Try.func49, rfl, Try.ntmps49⟩
instance : TFn Try.prog 50 := ⟨Try.call50⟩
instance : TBody Try.prog 50 Try.f50 (Try.f50.body.getD .skip) 27 := ⟨Try.func50, rfl, Try.ntmps50⟩
instance : TFn Try.prog 51 := ⟨Try.call51⟩
instance : TBody Try.prog 51 Try.f51 (Try.f51.body.getD .skip) 59 := ⟨Try.func51, rfl, Try.ntmps51⟩
instance : TFn Try.prog 52 := ⟨Try.call52⟩
instance : TBody Try.prog 52 Try.f52 (Try.f52.body.getD .skip) 69 := ⟨Try.func52, rfl, Try.ntmps52⟩
instance : TFn Try.prog 53 := ⟨Try.call53⟩
instance : TBody Try.prog 53 Try.f53 (Try.f53.body.getD .skip) 19 := ⟨Try.func53, rfl, Try.ntmps53⟩
instance : TFn Try.prog 54 := ⟨Try.call54⟩
instance : TBody Try.prog 54 Try.f54 (Try.f54.body.getD .skip) 51 := ⟨Try.func54, rfl, Try.ntmps54⟩
instance : TFn Try.prog 55 := ⟨Try.call55⟩
instance : TBody Try.prog 55 Try.f55 (Try.f55.body.getD .skip) 11 := ⟨Try.func55, rfl, Try.ntmps55⟩
instance : TFn Try.prog 56 := ⟨Try.call56⟩
instance : TBody Try.prog 56 Try.f56 (Try.f56.body.getD .skip) 61 := ⟨Try.func56, rfl, Try.ntmps56⟩
instance : TFn Try.prog 57 := ⟨Try.call57⟩
instance : TBody Try.prog 57 Try.f57 (Try.f57.body.getD .skip) 12 := ⟨Try.func57, rfl, Try.ntmps57⟩
instance : TFn Try.prog 58 := ⟨Try.call58⟩
instance : TBody Try.prog 58 Try.f58 (Try.f58.body.getD .skip) 25 := ⟨Try.func58, rfl, Try.ntmps58⟩
instance : TFn Try.prog 59 := ⟨Try.call59⟩
instance : TBody Try.prog 59 Try.f59 (Try.f59.body.getD .skip) 134 := ⟨Try.func59, rfl, Try.ntmps59⟩
instance : TFn Try.prog 60 := ⟨Try.call60⟩
instance : TBody Try.prog 60 Try.f60 (Try.f60.body.getD .skip) 8 := ⟨Try.func60, rfl, Try.ntmps60⟩
instance : TFn Try.prog 61 := ⟨Try.call61⟩
instance : TBody Try.prog 61 Try.f61 (Try.f61.body.getD .skip) 31 := ⟨Try.func61, rfl, Try.ntmps61⟩
instance : TFn Try.prog 62 := ⟨Try.call62⟩
instance : TBody Try.prog 62 Try.f62 (Try.f62.body.getD .skip) 49 := ⟨Try.func62, rfl, Try.ntmps62⟩
instance : TFn Try.prog 63 := ⟨Try.call63⟩
instance : TBody Try.prog 63 Try.f63 (Try.f63.body.getD .skip) 56 := ⟨Try.func63, rfl, Try.ntmps63⟩
instance : TFn Try.prog 64 := ⟨Try.call64⟩
instance : TBody Try.prog 64 Try.f64 (Try.f64.body.getD .skip) 65 := ⟨Try.func64, rfl, Try.ntmps64⟩
instance : TFn Try.prog 65 := ⟨Try.call65⟩
instance : TBody Try.prog 65 Try.f65 (Try.f65.body.getD .skip) 57 := ⟨Try.func65, rfl, Try.ntmps65⟩
instance : TFn Try.prog 66 := ⟨Try.call66⟩
instance : TBody Try.prog 66 Try.f66 (Try.f66.body.getD .skip) 32 := ⟨Try.func66, rfl, Try.ntmps66⟩
instance : TFn Try.prog 67 := ⟨Try.call67⟩
instance : TBody Try.prog 67 Try.f67 (Try.f67.body.getD .skip) 133 := ⟨Try.func67, rfl, Try.ntmps67⟩
instance : TFn Try.prog 68 := ⟨Try.call68⟩
instance : TBody Try.prog 68 Try.f68 (Try.f68.body.getD .skip) 17 := ⟨Try.func68, rfl, Try.ntmps68⟩
instance : TFn Try.prog 69 := ⟨Try.call69⟩
instance : TBody Try.prog 69 Try.f69 (Try.f69.body.getD .skip) 84 := ⟨Try.func69, rfl, Try.ntmps69⟩
instance : TFn Try.prog 70 := ⟨Try.call70⟩
instance : TBody Try.prog 70 Try.f70 (Try.f70.body.getD .skip) 168 := ⟨Try.func70, rfl, Try.ntmps70⟩
instance : TFn Try.prog 71 := ⟨Try.call71⟩
instance : TBody Try.prog 71 Try.f71 (Try.f71.body.getD .skip) 19 := ⟨Try.func71, rfl, Try.ntmps71⟩
instance : TFn Try.prog 72 := ⟨Try.call72⟩
instance : TBody Try.prog 72 Try.f72 (Try.f72.body.getD .skip) 25 := ⟨Try.func72, rfl, Try.ntmps72⟩
instance : TFn Try.prog 73 := ⟨Try.call73⟩
instance : TBody Try.prog 73 Try.f73 (Try.f73.body.getD .skip) 76 := ⟨Try.func73, rfl, Try.ntmps73⟩
instance : TFn Try.prog 74 := ⟨Try.call74⟩
instance : TBody Try.prog 74 Try.f74 (Try.f74.body.getD .skip) 7 := ⟨Try.func74, rfl, Try.ntmps74⟩
instance : TFn Try.prog 75 := ⟨Try.call75⟩
instance : TBody Try.prog 75 Try.f75 (Try.f75.body.getD .skip) 33 := ⟨Try.func75, rfl, Try.ntmps75⟩
instance : TFn Try.prog 76 := ⟨Try.call76⟩
instance : TBody Try.prog 76 Try.f76 (Try.f76.body.getD .skip) 15 := ⟨Try.func76, rfl, Try.ntmps76⟩
instance : TFn Try.prog 77 := ⟨Try.call77⟩
instance : TBody Try.prog 77 Try.f77 (Try.f77.body.getD .skip) 36 := ⟨Try.func77, rfl, Try.ntmps77⟩
instance : TFn Try.prog 78 := ⟨Try.call78⟩
instance : TBody Try.prog 78 Try.f78 (Try.f78.body.getD .skip) 6 := ⟨Try.func78, rfl, Try.ntmps78⟩
instance : TFn Try.prog 79 := ⟨Try.call79⟩
instance : TBody Try.prog 79 Try.f79 (Try.f79.body.getD .skip) 28 := ⟨Try.func79, rfl, Try.ntmps79⟩
instance : TMix Try.prog := ⟨rfl⟩
end Go.Proofs.Ytnfmjkjhiolfdaa
