/- Written by program (gen_inst.py) for this seat: what the walk asks of its types and functions. -/
import Derived.Test.YthoafjeampbkeaaKB
import Derived.Test.YthoafjeampbkeaaProg
set_option maxRecDepth 100000
namespace Go.Proofs.Ythoafjeampbkeaa
open Go Go.Sx Go.Proofs
instance : TSz Try.prog 1 1 := ⟨Try.sizeOf1⟩
instance : TAgg Try.prog 1 false := ⟨Try.isAgg1⟩
instance : TZ Try.prog 1 (.nilFunc) := ⟨Try.zeroValue1⟩
instance : TZL Try.prog 1 [.nilFunc] := ⟨_, Try.zeroValue1, rfl⟩
instance : TIn Try.prog 1 1 8 (.nilFunc) := ⟨_, rfl, rfl, rfl, rfl, rfl, by decide⟩
instance : TSz Try.prog 2 1 := ⟨Try.sizeOf2⟩
instance : TAgg Try.prog 2 false := ⟨Try.isAgg2⟩
instance : TIt Try.prog 2 .i64 := ⟨Try.underlying2⟩
instance : TZ Try.prog 2 (.int .i64 0) := ⟨Try.zeroValue2⟩
instance : TZL Try.prog 2 [.int .i64 0] := ⟨_, Try.zeroValue2, rfl⟩
instance : TIn Try.prog 2 1 8 (.int .i64 0) := ⟨_, rfl, rfl, rfl, rfl, rfl, by decide⟩
instance : TSz Try.prog 3 1 := ⟨Try.sizeOf3⟩
instance : TAgg Try.prog 3 false := ⟨Try.isAgg3⟩
instance : TIt Try.prog 3 .i64 := ⟨Try.underlying3⟩
instance : TZ Try.prog 3 (.int .i64 0) := ⟨Try.zeroValue3⟩
instance : TZL Try.prog 3 [.int .i64 0] := ⟨_, Try.zeroValue3, rfl⟩
instance : TIn Try.prog 3 1 8 (.int .i64 0) := ⟨_, rfl, rfl, rfl, rfl, rfl, by decide⟩
instance : TSz Try.prog 4 1 := ⟨Try.sizeOf4⟩
instance : TAgg Try.prog 4 false := ⟨Try.isAgg4⟩
instance : TBo Try.prog 4 := ⟨Try.underlying4⟩
instance : TZ Try.prog 4 (.bool false) := ⟨Try.zeroValue4⟩
instance : TZL Try.prog 4 [.bool false] := ⟨_, Try.zeroValue4, rfl⟩
instance : TIn Try.prog 4 1 1 (.bool false) := ⟨_, rfl, rfl, rfl, rfl, rfl, by decide⟩
instance : TSz Try.prog 5 1 := ⟨Try.sizeOf5⟩
instance : TAgg Try.prog 5 false := ⟨Try.isAgg5⟩
instance : TIt Try.prog 5 .u8 := ⟨Try.underlying5⟩
instance : TZ Try.prog 5 (.int .u8 0) := ⟨Try.zeroValue5⟩
instance : TZL Try.prog 5 [.int .u8 0] := ⟨_, Try.zeroValue5, rfl⟩
instance : TIn Try.prog 5 1 1 (.int .u8 0) := ⟨_, rfl, rfl, rfl, rfl, rfl, by decide⟩
instance : TSz Try.prog 6 1 := ⟨Try.sizeOf6⟩
instance : TAgg Try.prog 6 false := ⟨Try.isAgg6⟩
instance : TIt Try.prog 6 .u8 := ⟨Try.underlying6⟩
instance : TZ Try.prog 6 (.int .u8 0) := ⟨Try.zeroValue6⟩
instance : TZL Try.prog 6 [.int .u8 0] := ⟨_, Try.zeroValue6, rfl⟩
instance : TIn Try.prog 6 1 1 (.int .u8 0) := ⟨_, rfl, rfl, rfl, rfl, rfl, by decide⟩
instance : TSz Try.prog 7 4 := ⟨Try.sizeOf7⟩
instance : TAgg Try.prog 7 true := ⟨Try.isAgg7⟩
instance : TPl Try.prog 7 [(0, 1), (1, 1), (2, 1), (3, 1)] := ⟨_, Try.underlying7, fun w => by simp [List.mapM_cons]⟩
instance : TFd Try.prog 7 0 0 2 := ⟨_, _, Try.underlying7, rfl, rfl, rfl, fun w => ⟨0, Try.sizeOf2 w⟩⟩
instance : TFd Try.prog 7 1 1 3 := ⟨_, _, Try.underlying7, rfl, rfl, rfl, fun w => ⟨0, Try.sizeOf3 w⟩⟩
instance : TFd Try.prog 7 2 2 4 := ⟨_, _, Try.underlying7, rfl, rfl, rfl, fun w => ⟨0, Try.sizeOf4 w⟩⟩
instance : TFd Try.prog 7 3 3 6 := ⟨_, _, Try.underlying7, rfl, rfl, rfl, fun w => ⟨0, Try.sizeOf6 w⟩⟩
instance : TZ Try.prog 7 (.agg #[.int .i64 0, .int .i64 0, .bool false, .int .u8 0]) := ⟨Try.zeroValue7⟩
instance : TZL Try.prog 7 [.int .i64 0, .int .i64 0, .bool false, .int .u8 0] := ⟨_, Try.zeroValue7, rfl⟩
instance : TIn Try.prog 7 4 24 (.agg #[.int .i64 0, .int .i64 0, .bool false, .int .u8 0]) := ⟨_, rfl, rfl, rfl, rfl, rfl, by decide⟩
instance : TSz Try.prog 8 4 := ⟨Try.sizeOf8⟩
instance : TAgg Try.prog 8 true := ⟨Try.isAgg8⟩
instance : TPl Try.prog 8 [(0, 1), (1, 1), (2, 1), (3, 1)] := ⟨_, Try.underlying8, fun w => by simp [List.mapM_cons]⟩
instance : TFd Try.prog 8 0 0 2 := ⟨_, _, Try.underlying8, rfl, rfl, rfl, fun w => ⟨0, Try.sizeOf2 w⟩⟩
instance : TFd Try.prog 8 1 1 3 := ⟨_, _, Try.underlying8, rfl, rfl, rfl, fun w => ⟨0, Try.sizeOf3 w⟩⟩
instance : TFd Try.prog 8 2 2 4 := ⟨_, _, Try.underlying8, rfl, rfl, rfl, fun w => ⟨0, Try.sizeOf4 w⟩⟩
instance : TFd Try.prog 8 3 3 6 := ⟨_, _, Try.underlying8, rfl, rfl, rfl, fun w => ⟨0, Try.sizeOf6 w⟩⟩
instance : TZ Try.prog 8 (.agg #[.int .i64 0, .int .i64 0, .bool false, .int .u8 0]) := ⟨Try.zeroValue8⟩
instance : TZL Try.prog 8 [.int .i64 0, .int .i64 0, .bool false, .int .u8 0] := ⟨_, Try.zeroValue8, rfl⟩
instance : TIn Try.prog 8 4 24 (.agg #[.int .i64 0, .int .i64 0, .bool false, .int .u8 0]) := ⟨_, rfl, rfl, rfl, rfl, rfl, by decide⟩
instance : TSz Try.prog 9 1 := ⟨Try.sizeOf9⟩
instance : TAgg Try.prog 9 false := ⟨Try.isAgg9⟩
instance : TSt Try.prog 9 := ⟨Try.underlying9⟩
instance : TZ Try.prog 9 (.string ⟨#[]⟩) := ⟨Try.zeroValue9⟩
instance : TZL Try.prog 9 [.string ⟨#[]⟩] := ⟨_, Try.zeroValue9, rfl⟩
instance : TIn Try.prog 9 1 16 (.string ⟨#[]⟩) := ⟨_, rfl, rfl, rfl, rfl, rfl, by decide⟩
instance : TSz Try.prog 10 1 := ⟨Try.sizeOf10⟩
instance : TAgg Try.prog 10 false := ⟨Try.isAgg10⟩
instance : TSt Try.prog 10 := ⟨Try.underlying10⟩
instance : TZ Try.prog 10 (.string ⟨#[]⟩) := ⟨Try.zeroValue10⟩
instance : TZL Try.prog 10 [.string ⟨#[]⟩] := ⟨_, Try.zeroValue10, rfl⟩
instance : TIn Try.prog 10 1 16 (.string ⟨#[]⟩) := ⟨_, rfl, rfl, rfl, rfl, rfl, by decide⟩
instance : TSz Try.prog 11 1 := ⟨Try.sizeOf11⟩
instance : TAgg Try.prog 11 false := ⟨Try.isAgg11⟩
instance : TSt Try.prog 11 := ⟨Try.underlying11⟩
instance : TZ Try.prog 11 (.string ⟨#[]⟩) := ⟨Try.zeroValue11⟩
instance : TZL Try.prog 11 [.string ⟨#[]⟩] := ⟨_, Try.zeroValue11, rfl⟩
instance : TIn Try.prog 11 1 16 (.string ⟨#[]⟩) := ⟨_, rfl, rfl, rfl, rfl, rfl, by decide⟩
instance : TSz Try.prog 12 1 := ⟨Try.sizeOf12⟩
instance : TAgg Try.prog 12 false := ⟨Try.isAgg12⟩
instance : TIt Try.prog 12 .u64 := ⟨Try.underlying12⟩
instance : TZ Try.prog 12 (.int .u64 0) := ⟨Try.zeroValue12⟩
instance : TZL Try.prog 12 [.int .u64 0] := ⟨_, Try.zeroValue12, rfl⟩
instance : TIn Try.prog 12 1 8 (.int .u64 0) := ⟨_, rfl, rfl, rfl, rfl, rfl, by decide⟩
instance : TSz Try.prog 13 2 := ⟨Try.sizeOf13⟩
instance : TAgg Try.prog 13 true := ⟨Try.isAgg13⟩
instance : TPl Try.prog 13 [(0, 1), (1, 1)] := ⟨_, Try.underlying13, fun w => by simp [List.mapM_cons]⟩
instance : TFd Try.prog 13 0 0 9 := ⟨_, _, Try.underlying13, rfl, rfl, rfl, fun w => ⟨0, Try.sizeOf9 w⟩⟩
instance : TFd Try.prog 13 1 1 12 := ⟨_, _, Try.underlying13, rfl, rfl, rfl, fun w => ⟨0, Try.sizeOf12 w⟩⟩
instance : TZ Try.prog 13 (.agg #[.string ⟨#[]⟩, .int .u64 0]) := ⟨Try.zeroValue13⟩
instance : TZL Try.prog 13 [.string ⟨#[]⟩, .int .u64 0] := ⟨_, Try.zeroValue13, rfl⟩
instance : TIn Try.prog 13 2 24 (.agg #[.string ⟨#[]⟩, .int .u64 0]) := ⟨_, rfl, rfl, rfl, rfl, rfl, by decide⟩
instance : TSz Try.prog 14 2 := ⟨Try.sizeOf14⟩
instance : TAgg Try.prog 14 true := ⟨Try.isAgg14⟩
instance : TPl Try.prog 14 [(0, 1), (1, 1)] := ⟨_, Try.underlying14, fun w => by simp [List.mapM_cons]⟩
instance : TFd Try.prog 14 0 0 9 := ⟨_, _, Try.underlying14, rfl, rfl, rfl, fun w => ⟨0, Try.sizeOf9 w⟩⟩
instance : TFd Try.prog 14 1 1 12 := ⟨_, _, Try.underlying14, rfl, rfl, rfl, fun w => ⟨0, Try.sizeOf12 w⟩⟩
instance : TZ Try.prog 14 (.agg #[.string ⟨#[]⟩, .int .u64 0]) := ⟨Try.zeroValue14⟩
instance : TZL Try.prog 14 [.string ⟨#[]⟩, .int .u64 0] := ⟨_, Try.zeroValue14, rfl⟩
instance : TIn Try.prog 14 2 24 (.agg #[.string ⟨#[]⟩, .int .u64 0]) := ⟨_, rfl, rfl, rfl, rfl, rfl, by decide⟩
instance : TSz Try.prog 15 1 := ⟨Try.sizeOf15⟩
instance : TAgg Try.prog 15 false := ⟨Try.isAgg15⟩
instance : TPt Try.prog 15 := ⟨_, Try.underlying15⟩
instance : TZ Try.prog 15 (.pointer none) := ⟨Try.zeroValue15⟩
instance : TZL Try.prog 15 [.pointer none] := ⟨_, Try.zeroValue15, rfl⟩
instance : TIn Try.prog 15 1 8 (.pointer none) := ⟨_, rfl, rfl, rfl, rfl, rfl, by decide⟩
instance : TSz Try.prog 16 1 := ⟨Try.sizeOf16⟩
instance : TAgg Try.prog 16 false := ⟨Try.isAgg16⟩
instance : TPt Try.prog 16 := ⟨_, Try.underlying16⟩
instance : TZ Try.prog 16 (.pointer none) := ⟨Try.zeroValue16⟩
instance : TZL Try.prog 16 [.pointer none] := ⟨_, Try.zeroValue16, rfl⟩
instance : TIn Try.prog 16 1 8 (.pointer none) := ⟨_, rfl, rfl, rfl, rfl, rfl, by decide⟩
instance : TSz Try.prog 17 1 := ⟨Try.sizeOf17⟩
instance : TAgg Try.prog 17 false := ⟨Try.isAgg17⟩
instance : TPt Try.prog 17 := ⟨_, Try.underlying17⟩
instance : TZ Try.prog 17 (.pointer none) := ⟨Try.zeroValue17⟩
instance : TZL Try.prog 17 [.pointer none] := ⟨_, Try.zeroValue17, rfl⟩
instance : TIn Try.prog 17 1 8 (.pointer none) := ⟨_, rfl, rfl, rfl, rfl, rfl, by decide⟩
instance : TSz Try.prog 18 1 := ⟨Try.sizeOf18⟩
instance : TAgg Try.prog 18 true := ⟨Try.isAgg18⟩
instance : TPl Try.prog 18 [(0, 1)] := ⟨_, Try.underlying18, fun w => by simp [List.mapM_cons]⟩
instance : TFd Try.prog 18 0 0 17 := ⟨_, _, Try.underlying18, rfl, rfl, rfl, fun w => ⟨0, Try.sizeOf17 w⟩⟩
instance : TZ Try.prog 18 (.agg #[.pointer none]) := ⟨Try.zeroValue18⟩
instance : TZL Try.prog 18 [.pointer none] := ⟨_, Try.zeroValue18, rfl⟩
instance : TIn Try.prog 18 1 8 (.agg #[.pointer none]) := ⟨_, rfl, rfl, rfl, rfl, rfl, by decide⟩
instance : TSz Try.prog 19 1 := ⟨Try.sizeOf19⟩
instance : TAgg Try.prog 19 true := ⟨Try.isAgg19⟩
instance : TPl Try.prog 19 [(0, 1)] := ⟨_, Try.underlying19, fun w => by simp [List.mapM_cons]⟩
instance : TFd Try.prog 19 0 0 17 := ⟨_, _, Try.underlying19, rfl, rfl, rfl, fun w => ⟨0, Try.sizeOf17 w⟩⟩
instance : TZ Try.prog 19 (.agg #[.pointer none]) := ⟨Try.zeroValue19⟩
instance : TZL Try.prog 19 [.pointer none] := ⟨_, Try.zeroValue19, rfl⟩
instance : TIn Try.prog 19 1 8 (.agg #[.pointer none]) := ⟨_, rfl, rfl, rfl, rfl, rfl, by decide⟩
instance : TSz Try.prog 20 1 := ⟨Try.sizeOf20⟩
instance : TAgg Try.prog 20 false := ⟨Try.isAgg20⟩
instance : TZ Try.prog 20 (.nilIface) := ⟨Try.zeroValue20⟩
instance : TZL Try.prog 20 [.nilIface] := ⟨_, Try.zeroValue20, rfl⟩
instance : TIn Try.prog 20 1 16 (.nilIface) := ⟨_, rfl, rfl, rfl, rfl, rfl, by decide⟩
instance : TSz Try.prog 21 1 := ⟨Try.sizeOf21⟩
instance : TAgg Try.prog 21 false := ⟨Try.isAgg21⟩
instance : TIt Try.prog 21 .i32 := ⟨Try.underlying21⟩
instance : TZ Try.prog 21 (.int .i32 0) := ⟨Try.zeroValue21⟩
instance : TZL Try.prog 21 [.int .i32 0] := ⟨_, Try.zeroValue21, rfl⟩
instance : TIn Try.prog 21 1 4 (.int .i32 0) := ⟨_, rfl, rfl, rfl, rfl, rfl, by decide⟩
instance : TSz Try.prog 22 1 := ⟨Try.sizeOf22⟩
instance : TAgg Try.prog 22 false := ⟨Try.isAgg22⟩
instance : TSl Try.prog 22 41 := ⟨Try.underlying22⟩
instance : TZ Try.prog 22 (.slice none 0 0) := ⟨Try.zeroValue22⟩
instance : TZL Try.prog 22 [.slice none 0 0] := ⟨_, Try.zeroValue22, rfl⟩
instance : TIn Try.prog 22 1 24 (.slice none 0 0) := ⟨_, rfl, rfl, rfl, rfl, rfl, by decide⟩
instance : TSz Try.prog 23 1 := ⟨Try.sizeOf23⟩
instance : TAgg Try.prog 23 false := ⟨Try.isAgg23⟩
instance : TPt Try.prog 23 := ⟨_, Try.underlying23⟩
instance : TZ Try.prog 23 (.pointer none) := ⟨Try.zeroValue23⟩
instance : TZL Try.prog 23 [.pointer none] := ⟨_, Try.zeroValue23, rfl⟩
instance : TIn Try.prog 23 1 8 (.pointer none) := ⟨_, rfl, rfl, rfl, rfl, rfl, by decide⟩
instance : TSz Try.prog 24 1 := ⟨Try.sizeOf24⟩
instance : TAgg Try.prog 24 false := ⟨Try.isAgg24⟩
instance : TZ Try.prog 24 (.nilFunc) := ⟨Try.zeroValue24⟩
instance : TZL Try.prog 24 [.nilFunc] := ⟨_, Try.zeroValue24, rfl⟩
instance : TIn Try.prog 24 1 8 (.nilFunc) := ⟨_, rfl, rfl, rfl, rfl, rfl, by decide⟩
instance : TSz Try.prog 25 1 := ⟨Try.sizeOf25⟩
instance : TAgg Try.prog 25 false := ⟨Try.isAgg25⟩
instance : TZ Try.prog 25 (.nilFunc) := ⟨Try.zeroValue25⟩
instance : TZL Try.prog 25 [.nilFunc] := ⟨_, Try.zeroValue25, rfl⟩
instance : TIn Try.prog 25 1 8 (.nilFunc) := ⟨_, rfl, rfl, rfl, rfl, rfl, by decide⟩
instance : TSz Try.prog 26 1 := ⟨Try.sizeOf26⟩
instance : TAgg Try.prog 26 false := ⟨Try.isAgg26⟩
instance : TZ Try.prog 26 (.nilFunc) := ⟨Try.zeroValue26⟩
instance : TZL Try.prog 26 [.nilFunc] := ⟨_, Try.zeroValue26, rfl⟩
instance : TIn Try.prog 26 1 8 (.nilFunc) := ⟨_, rfl, rfl, rfl, rfl, rfl, by decide⟩
instance : TSz Try.prog 27 3 := ⟨Try.sizeOf27⟩
instance : TAgg Try.prog 27 true := ⟨Try.isAgg27⟩
instance : TPl Try.prog 27 [(0, 1), (1, 1), (2, 1)] := ⟨_, Try.underlying27, fun w => by simp [List.mapM_cons]⟩
instance : TFd Try.prog 27 0 0 3 := ⟨_, _, Try.underlying27, rfl, rfl, rfl, fun w => ⟨0, Try.sizeOf3 w⟩⟩
instance : TFd Try.prog 27 1 1 3 := ⟨_, _, Try.underlying27, rfl, rfl, rfl, fun w => ⟨0, Try.sizeOf3 w⟩⟩
instance : TFd Try.prog 27 2 2 3 := ⟨_, _, Try.underlying27, rfl, rfl, rfl, fun w => ⟨0, Try.sizeOf3 w⟩⟩
instance : TZ Try.prog 27 (.agg #[.int .i64 0, .int .i64 0, .int .i64 0]) := ⟨Try.zeroValue27⟩
instance : TZL Try.prog 27 [.int .i64 0, .int .i64 0, .int .i64 0] := ⟨_, Try.zeroValue27, rfl⟩
instance : TIn Try.prog 27 3 24 (.agg #[.int .i64 0, .int .i64 0, .int .i64 0]) := ⟨_, rfl, rfl, rfl, rfl, rfl, by decide⟩
instance : TSz Try.prog 28 3 := ⟨Try.sizeOf28⟩
instance : TAgg Try.prog 28 true := ⟨Try.isAgg28⟩
instance : TPl Try.prog 28 [(0, 1), (1, 1), (2, 1)] := ⟨_, Try.underlying28, fun w => by simp [List.mapM_cons]⟩
instance : TFd Try.prog 28 0 0 3 := ⟨_, _, Try.underlying28, rfl, rfl, rfl, fun w => ⟨0, Try.sizeOf3 w⟩⟩
instance : TFd Try.prog 28 1 1 3 := ⟨_, _, Try.underlying28, rfl, rfl, rfl, fun w => ⟨0, Try.sizeOf3 w⟩⟩
instance : TFd Try.prog 28 2 2 3 := ⟨_, _, Try.underlying28, rfl, rfl, rfl, fun w => ⟨0, Try.sizeOf3 w⟩⟩
instance : TZ Try.prog 28 (.agg #[.int .i64 0, .int .i64 0, .int .i64 0]) := ⟨Try.zeroValue28⟩
instance : TZL Try.prog 28 [.int .i64 0, .int .i64 0, .int .i64 0] := ⟨_, Try.zeroValue28, rfl⟩
instance : TIn Try.prog 28 3 24 (.agg #[.int .i64 0, .int .i64 0, .int .i64 0]) := ⟨_, rfl, rfl, rfl, rfl, rfl, by decide⟩
instance : TSz Try.prog 29 1 := ⟨Try.sizeOf29⟩
instance : TAgg Try.prog 29 false := ⟨Try.isAgg29⟩
instance : TSl Try.prog 29 53 := ⟨Try.underlying29⟩
instance : TZ Try.prog 29 (.slice none 0 0) := ⟨Try.zeroValue29⟩
instance : TZL Try.prog 29 [.slice none 0 0] := ⟨_, Try.zeroValue29, rfl⟩
instance : TIn Try.prog 29 1 24 (.slice none 0 0) := ⟨_, rfl, rfl, rfl, rfl, rfl, by decide⟩
instance : TSz Try.prog 30 1 := ⟨Try.sizeOf30⟩
instance : TAgg Try.prog 30 false := ⟨Try.isAgg30⟩
instance : TIt Try.prog 30 .i64 := ⟨Try.underlying30⟩
instance : TZ Try.prog 30 (.int .i64 0) := ⟨Try.zeroValue30⟩
instance : TZL Try.prog 30 [.int .i64 0] := ⟨_, Try.zeroValue30, rfl⟩
instance : TIn Try.prog 30 1 8 (.int .i64 0) := ⟨_, rfl, rfl, rfl, rfl, rfl, by decide⟩
instance : TSz Try.prog 32 1 := ⟨Try.sizeOf32⟩
instance : TAgg Try.prog 32 false := ⟨Try.isAgg32⟩
instance : TZ Try.prog 32 (.nilFunc) := ⟨Try.zeroValue32⟩
instance : TZL Try.prog 32 [.nilFunc] := ⟨_, Try.zeroValue32, rfl⟩
instance : TIn Try.prog 32 1 8 (.nilFunc) := ⟨_, rfl, rfl, rfl, rfl, rfl, by decide⟩
instance : TSz Try.prog 33 1 := ⟨Try.sizeOf33⟩
instance : TAgg Try.prog 33 false := ⟨Try.isAgg33⟩
instance : TSl Try.prog 33 98 := ⟨Try.underlying33⟩
instance : TZ Try.prog 33 (.slice none 0 0) := ⟨Try.zeroValue33⟩
instance : TZL Try.prog 33 [.slice none 0 0] := ⟨_, Try.zeroValue33, rfl⟩
instance : TIn Try.prog 33 1 24 (.slice none 0 0) := ⟨_, rfl, rfl, rfl, rfl, rfl, by decide⟩
instance : TSz Try.prog 34 4 := ⟨Try.sizeOf34⟩
instance : TAgg Try.prog 34 true := ⟨Try.isAgg34⟩
instance : TPl Try.prog 34 [(0, 1), (1, 1), (2, 1), (3, 1)] := ⟨_, Try.underlying34, fun w => by simp [List.mapM_cons]⟩
instance : TFd Try.prog 34 0 0 3 := ⟨_, _, Try.underlying34, rfl, rfl, rfl, fun w => ⟨0, Try.sizeOf3 w⟩⟩
instance : TFd Try.prog 34 1 1 3 := ⟨_, _, Try.underlying34, rfl, rfl, rfl, fun w => ⟨0, Try.sizeOf3 w⟩⟩
instance : TFd Try.prog 34 2 2 3 := ⟨_, _, Try.underlying34, rfl, rfl, rfl, fun w => ⟨0, Try.sizeOf3 w⟩⟩
instance : TFd Try.prog 34 3 3 33 := ⟨_, _, Try.underlying34, rfl, rfl, rfl, fun w => ⟨0, Try.sizeOf33 w⟩⟩
instance : TZ Try.prog 34 (.agg #[.int .i64 0, .int .i64 0, .int .i64 0, .slice none 0 0]) := ⟨Try.zeroValue34⟩
instance : TZL Try.prog 34 [.int .i64 0, .int .i64 0, .int .i64 0, .slice none 0 0] := ⟨_, Try.zeroValue34, rfl⟩
instance : TIn Try.prog 34 4 48 (.agg #[.int .i64 0, .int .i64 0, .int .i64 0, .slice none 0 0]) := ⟨_, rfl, rfl, rfl, rfl, rfl, by decide⟩
instance : TSz Try.prog 35 4 := ⟨Try.sizeOf35⟩
instance : TAgg Try.prog 35 true := ⟨Try.isAgg35⟩
instance : TPl Try.prog 35 [(0, 1), (1, 1), (2, 1), (3, 1)] := ⟨_, Try.underlying35, fun w => by simp [List.mapM_cons]⟩
instance : TFd Try.prog 35 0 0 3 := ⟨_, _, Try.underlying35, rfl, rfl, rfl, fun w => ⟨0, Try.sizeOf3 w⟩⟩
instance : TFd Try.prog 35 1 1 3 := ⟨_, _, Try.underlying35, rfl, rfl, rfl, fun w => ⟨0, Try.sizeOf3 w⟩⟩
instance : TFd Try.prog 35 2 2 3 := ⟨_, _, Try.underlying35, rfl, rfl, rfl, fun w => ⟨0, Try.sizeOf3 w⟩⟩
instance : TFd Try.prog 35 3 3 33 := ⟨_, _, Try.underlying35, rfl, rfl, rfl, fun w => ⟨0, Try.sizeOf33 w⟩⟩
instance : TZ Try.prog 35 (.agg #[.int .i64 0, .int .i64 0, .int .i64 0, .slice none 0 0]) := ⟨Try.zeroValue35⟩
instance : TZL Try.prog 35 [.int .i64 0, .int .i64 0, .int .i64 0, .slice none 0 0] := ⟨_, Try.zeroValue35, rfl⟩
instance : TIn Try.prog 35 4 48 (.agg #[.int .i64 0, .int .i64 0, .int .i64 0, .slice none 0 0]) := ⟨_, rfl, rfl, rfl, rfl, rfl, by decide⟩
instance : TSz Try.prog 37 1 := ⟨Try.sizeOf37⟩
instance : TAgg Try.prog 37 false := ⟨Try.isAgg37⟩
instance : TZ Try.prog 37 (.nilFunc) := ⟨Try.zeroValue37⟩
instance : TZL Try.prog 37 [.nilFunc] := ⟨_, Try.zeroValue37, rfl⟩
instance : TIn Try.prog 37 1 8 (.nilFunc) := ⟨_, rfl, rfl, rfl, rfl, rfl, by decide⟩
instance : TSz Try.prog 38 1 := ⟨Try.sizeOf38⟩
instance : TAgg Try.prog 38 false := ⟨Try.isAgg38⟩
instance : TZ Try.prog 38 (.nilFunc) := ⟨Try.zeroValue38⟩
instance : TZL Try.prog 38 [.nilFunc] := ⟨_, Try.zeroValue38, rfl⟩
instance : TIn Try.prog 38 1 8 (.nilFunc) := ⟨_, rfl, rfl, rfl, rfl, rfl, by decide⟩
instance : TSz Try.prog 39 1 := ⟨Try.sizeOf39⟩
instance : TAgg Try.prog 39 false := ⟨Try.isAgg39⟩
instance : TSl Try.prog 39 9 := ⟨Try.underlying39⟩
instance : TZ Try.prog 39 (.slice none 0 0) := ⟨Try.zeroValue39⟩
instance : TZL Try.prog 39 [.slice none 0 0] := ⟨_, Try.zeroValue39, rfl⟩
instance : TIn Try.prog 39 1 24 (.slice none 0 0) := ⟨_, rfl, rfl, rfl, rfl, rfl, by decide⟩
instance : TSz Try.prog 40 3 := ⟨Try.sizeOf40⟩
instance : TAgg Try.prog 40 true := ⟨Try.isAgg40⟩
instance : TPl Try.prog 40 [(0, 1), (1, 1), (2, 1)] := ⟨_, Try.underlying40, fun w => by simp [List.mapM_cons]⟩
instance : TFd Try.prog 40 0 0 3 := ⟨_, _, Try.underlying40, rfl, rfl, rfl, fun w => ⟨0, Try.sizeOf3 w⟩⟩
instance : TFd Try.prog 40 1 1 39 := ⟨_, _, Try.underlying40, rfl, rfl, rfl, fun w => ⟨0, Try.sizeOf39 w⟩⟩
instance : TFd Try.prog 40 2 2 39 := ⟨_, _, Try.underlying40, rfl, rfl, rfl, fun w => ⟨0, Try.sizeOf39 w⟩⟩
instance : TZ Try.prog 40 (.agg #[.int .i64 0, .slice none 0 0, .slice none 0 0]) := ⟨Try.zeroValue40⟩
instance : TZL Try.prog 40 [.int .i64 0, .slice none 0 0, .slice none 0 0] := ⟨_, Try.zeroValue40, rfl⟩
instance : TIn Try.prog 40 3 56 (.agg #[.int .i64 0, .slice none 0 0, .slice none 0 0]) := ⟨_, rfl, rfl, rfl, rfl, rfl, by decide⟩
instance : TSz Try.prog 41 3 := ⟨Try.sizeOf41⟩
instance : TAgg Try.prog 41 true := ⟨Try.isAgg41⟩
instance : TPl Try.prog 41 [(0, 1), (1, 1), (2, 1)] := ⟨_, Try.underlying41, fun w => by simp [List.mapM_cons]⟩
instance : TFd Try.prog 41 0 0 3 := ⟨_, _, Try.underlying41, rfl, rfl, rfl, fun w => ⟨0, Try.sizeOf3 w⟩⟩
instance : TFd Try.prog 41 1 1 39 := ⟨_, _, Try.underlying41, rfl, rfl, rfl, fun w => ⟨0, Try.sizeOf39 w⟩⟩
instance : TFd Try.prog 41 2 2 39 := ⟨_, _, Try.underlying41, rfl, rfl, rfl, fun w => ⟨0, Try.sizeOf39 w⟩⟩
instance : TZ Try.prog 41 (.agg #[.int .i64 0, .slice none 0 0, .slice none 0 0]) := ⟨Try.zeroValue41⟩
instance : TZL Try.prog 41 [.int .i64 0, .slice none 0 0, .slice none 0 0] := ⟨_, Try.zeroValue41, rfl⟩
instance : TIn Try.prog 41 3 56 (.agg #[.int .i64 0, .slice none 0 0, .slice none 0 0]) := ⟨_, rfl, rfl, rfl, rfl, rfl, by decide⟩
instance : TSz Try.prog 42 1 := ⟨Try.sizeOf42⟩
instance : TAgg Try.prog 42 false := ⟨Try.isAgg42⟩
instance : TZ Try.prog 42 (.nilFunc) := ⟨Try.zeroValue42⟩
instance : TZL Try.prog 42 [.nilFunc] := ⟨_, Try.zeroValue42, rfl⟩
instance : TIn Try.prog 42 1 8 (.nilFunc) := ⟨_, rfl, rfl, rfl, rfl, rfl, by decide⟩
instance : TSz Try.prog 43 1 := ⟨Try.sizeOf43⟩
instance : TAgg Try.prog 43 false := ⟨Try.isAgg43⟩
instance : TIt Try.prog 43 .i64 := ⟨Try.underlying43⟩
instance : TZ Try.prog 43 (.int .i64 0) := ⟨Try.zeroValue43⟩
instance : TZL Try.prog 43 [.int .i64 0] := ⟨_, Try.zeroValue43, rfl⟩
instance : TIn Try.prog 43 1 8 (.int .i64 0) := ⟨_, rfl, rfl, rfl, rfl, rfl, by decide⟩
instance : TSz Try.prog 44 1 := ⟨Try.sizeOf44⟩
instance : TAgg Try.prog 44 false := ⟨Try.isAgg44⟩
instance : TIt Try.prog 44 .i64 := ⟨Try.underlying44⟩
instance : TZ Try.prog 44 (.int .i64 0) := ⟨Try.zeroValue44⟩
instance : TZL Try.prog 44 [.int .i64 0] := ⟨_, Try.zeroValue44, rfl⟩
instance : TIn Try.prog 44 1 8 (.int .i64 0) := ⟨_, rfl, rfl, rfl, rfl, rfl, by decide⟩
instance : TSz Try.prog 45 1 := ⟨Try.sizeOf45⟩
instance : TAgg Try.prog 45 false := ⟨Try.isAgg45⟩
instance : TSl Try.prog 45 3 := ⟨Try.underlying45⟩
instance : TZ Try.prog 45 (.slice none 0 0) := ⟨Try.zeroValue45⟩
instance : TZL Try.prog 45 [.slice none 0 0] := ⟨_, Try.zeroValue45, rfl⟩
instance : TIn Try.prog 45 1 24 (.slice none 0 0) := ⟨_, rfl, rfl, rfl, rfl, rfl, by decide⟩
instance : TSz Try.prog 46 2 := ⟨Try.sizeOf46⟩
instance : TAgg Try.prog 46 true := ⟨Try.isAgg46⟩
instance : TPl Try.prog 46 [(0, 1), (1, 1)] := ⟨_, Try.underlying46, fun w => by simp [List.mapM_cons]⟩
instance : TFd Try.prog 46 0 0 3 := ⟨_, _, Try.underlying46, rfl, rfl, rfl, fun w => ⟨0, Try.sizeOf3 w⟩⟩
instance : TFd Try.prog 46 1 1 45 := ⟨_, _, Try.underlying46, rfl, rfl, rfl, fun w => ⟨0, Try.sizeOf45 w⟩⟩
instance : TZ Try.prog 46 (.agg #[.int .i64 0, .slice none 0 0]) := ⟨Try.zeroValue46⟩
instance : TZL Try.prog 46 [.int .i64 0, .slice none 0 0] := ⟨_, Try.zeroValue46, rfl⟩
instance : TIn Try.prog 46 2 32 (.agg #[.int .i64 0, .slice none 0 0]) := ⟨_, rfl, rfl, rfl, rfl, rfl, by decide⟩
instance : TSz Try.prog 47 2 := ⟨Try.sizeOf47⟩
instance : TAgg Try.prog 47 true := ⟨Try.isAgg47⟩
instance : TPl Try.prog 47 [(0, 1), (1, 1)] := ⟨_, Try.underlying47, fun w => by simp [List.mapM_cons]⟩
instance : TFd Try.prog 47 0 0 3 := ⟨_, _, Try.underlying47, rfl, rfl, rfl, fun w => ⟨0, Try.sizeOf3 w⟩⟩
instance : TFd Try.prog 47 1 1 45 := ⟨_, _, Try.underlying47, rfl, rfl, rfl, fun w => ⟨0, Try.sizeOf45 w⟩⟩
instance : TZ Try.prog 47 (.agg #[.int .i64 0, .slice none 0 0]) := ⟨Try.zeroValue47⟩
instance : TZL Try.prog 47 [.int .i64 0, .slice none 0 0] := ⟨_, Try.zeroValue47, rfl⟩
instance : TIn Try.prog 47 2 32 (.agg #[.int .i64 0, .slice none 0 0]) := ⟨_, rfl, rfl, rfl, rfl, rfl, by decide⟩
instance : TSz Try.prog 48 4 := ⟨Try.sizeOf48⟩
instance : TAgg Try.prog 48 true := ⟨Try.isAgg48⟩
instance : TPl Try.prog 48 [(0, 1), (1, 1), (2, 2)] := ⟨_, Try.underlying48, fun w => by simp [List.mapM_cons]⟩
instance : TFd Try.prog 48 0 0 44 := ⟨_, _, Try.underlying48, rfl, rfl, rfl, fun w => ⟨0, Try.sizeOf44 w⟩⟩
instance : TFd Try.prog 48 1 1 3 := ⟨_, _, Try.underlying48, rfl, rfl, rfl, fun w => ⟨0, Try.sizeOf3 w⟩⟩
instance : TFd Try.prog 48 2 2 47 := ⟨_, _, Try.underlying48, rfl, rfl, rfl, fun w => ⟨1, Try.sizeOf47 w⟩⟩
instance : TZ Try.prog 48 (.agg #[.int .i64 0, .int .i64 0, .int .i64 0, .slice none 0 0]) := ⟨Try.zeroValue48⟩
instance : TZL Try.prog 48 [.int .i64 0, .int .i64 0, .int .i64 0, .slice none 0 0] := ⟨_, Try.zeroValue48, rfl⟩
instance : TIn Try.prog 48 4 48 (.agg #[.int .i64 0, .int .i64 0, .int .i64 0, .slice none 0 0]) := ⟨_, rfl, rfl, rfl, rfl, rfl, by decide⟩
instance : TSz Try.prog 49 4 := ⟨Try.sizeOf49⟩
instance : TAgg Try.prog 49 true := ⟨Try.isAgg49⟩
instance : TPl Try.prog 49 [(0, 1), (1, 1), (2, 2)] := ⟨_, Try.underlying49, fun w => by simp [List.mapM_cons]⟩
instance : TFd Try.prog 49 0 0 44 := ⟨_, _, Try.underlying49, rfl, rfl, rfl, fun w => ⟨0, Try.sizeOf44 w⟩⟩
instance : TFd Try.prog 49 1 1 3 := ⟨_, _, Try.underlying49, rfl, rfl, rfl, fun w => ⟨0, Try.sizeOf3 w⟩⟩
instance : TFd Try.prog 49 2 2 47 := ⟨_, _, Try.underlying49, rfl, rfl, rfl, fun w => ⟨1, Try.sizeOf47 w⟩⟩
instance : TZ Try.prog 49 (.agg #[.int .i64 0, .int .i64 0, .int .i64 0, .slice none 0 0]) := ⟨Try.zeroValue49⟩
instance : TZL Try.prog 49 [.int .i64 0, .int .i64 0, .int .i64 0, .slice none 0 0] := ⟨_, Try.zeroValue49, rfl⟩
instance : TIn Try.prog 49 4 48 (.agg #[.int .i64 0, .int .i64 0, .int .i64 0, .slice none 0 0]) := ⟨_, rfl, rfl, rfl, rfl, rfl, by decide⟩
instance : TSz Try.prog 50 4 := ⟨Try.sizeOf50⟩
instance : TAgg Try.prog 50 true := ⟨Try.isAgg50⟩
instance : TPl Try.prog 50 [(0, 1), (1, 1), (2, 2)] := ⟨_, Try.underlying50, fun w => by simp [List.mapM_cons]⟩
instance : TFd Try.prog 50 0 0 30 := ⟨_, _, Try.underlying50, rfl, rfl, rfl, fun w => ⟨0, Try.sizeOf30 w⟩⟩
instance : TFd Try.prog 50 1 1 3 := ⟨_, _, Try.underlying50, rfl, rfl, rfl, fun w => ⟨0, Try.sizeOf3 w⟩⟩
instance : TFd Try.prog 50 2 2 47 := ⟨_, _, Try.underlying50, rfl, rfl, rfl, fun w => ⟨1, Try.sizeOf47 w⟩⟩
instance : TZ Try.prog 50 (.agg #[.int .i64 0, .int .i64 0, .int .i64 0, .slice none 0 0]) := ⟨Try.zeroValue50⟩
instance : TZL Try.prog 50 [.int .i64 0, .int .i64 0, .int .i64 0, .slice none 0 0] := ⟨_, Try.zeroValue50, rfl⟩
instance : TIn Try.prog 50 4 48 (.agg #[.int .i64 0, .int .i64 0, .int .i64 0, .slice none 0 0]) := ⟨_, rfl, rfl, rfl, rfl, rfl, by decide⟩
instance : TSz Try.prog 51 4 := ⟨Try.sizeOf51⟩
instance : TAgg Try.prog 51 true := ⟨Try.isAgg51⟩
instance : TPl Try.prog 51 [(0, 1), (1, 1), (2, 2)] := ⟨_, Try.underlying51, fun w => by simp [List.mapM_cons]⟩
instance : TFd Try.prog 51 0 0 30 := ⟨_, _, Try.underlying51, rfl, rfl, rfl, fun w => ⟨0, Try.sizeOf30 w⟩⟩
instance : TFd Try.prog 51 1 1 3 := ⟨_, _, Try.underlying51, rfl, rfl, rfl, fun w => ⟨0, Try.sizeOf3 w⟩⟩
instance : TFd Try.prog 51 2 2 47 := ⟨_, _, Try.underlying51, rfl, rfl, rfl, fun w => ⟨1, Try.sizeOf47 w⟩⟩
instance : TZ Try.prog 51 (.agg #[.int .i64 0, .int .i64 0, .int .i64 0, .slice none 0 0]) := ⟨Try.zeroValue51⟩
instance : TZL Try.prog 51 [.int .i64 0, .int .i64 0, .int .i64 0, .slice none 0 0] := ⟨_, Try.zeroValue51, rfl⟩
instance : TIn Try.prog 51 4 48 (.agg #[.int .i64 0, .int .i64 0, .int .i64 0, .slice none 0 0]) := ⟨_, rfl, rfl, rfl, rfl, rfl, by decide⟩
instance : TSz Try.prog 52 19 := ⟨Try.sizeOf52⟩
instance : TAgg Try.prog 52 true := ⟨Try.isAgg52⟩
instance : TPl Try.prog 52 [(0, 1), (1, 1), (2, 1), (3, 3), (6, 3), (9, 1), (10, 1), (11, 4), (15, 4)] := ⟨_, Try.underlying52, fun w => by simp [List.mapM_cons]⟩
instance : TFd Try.prog 52 0 0 3 := ⟨_, _, Try.underlying52, rfl, rfl, rfl, fun w => ⟨0, Try.sizeOf3 w⟩⟩
instance : TFd Try.prog 52 1 1 3 := ⟨_, _, Try.underlying52, rfl, rfl, rfl, fun w => ⟨0, Try.sizeOf3 w⟩⟩
instance : TFd Try.prog 52 2 2 43 := ⟨_, _, Try.underlying52, rfl, rfl, rfl, fun w => ⟨0, Try.sizeOf43 w⟩⟩
instance : TFd Try.prog 52 3 3 28 := ⟨_, _, Try.underlying52, rfl, rfl, rfl, fun w => ⟨2, Try.sizeOf28 w⟩⟩
instance : TFd Try.prog 52 4 6 41 := ⟨_, _, Try.underlying52, rfl, rfl, rfl, fun w => ⟨2, Try.sizeOf41 w⟩⟩
instance : TFd Try.prog 52 5 9 4 := ⟨_, _, Try.underlying52, rfl, rfl, rfl, fun w => ⟨0, Try.sizeOf4 w⟩⟩
instance : TFd Try.prog 52 6 10 3 := ⟨_, _, Try.underlying52, rfl, rfl, rfl, fun w => ⟨0, Try.sizeOf3 w⟩⟩
instance : TFd Try.prog 52 7 11 49 := ⟨_, _, Try.underlying52, rfl, rfl, rfl, fun w => ⟨3, Try.sizeOf49 w⟩⟩
instance : TFd Try.prog 52 8 15 51 := ⟨_, _, Try.underlying52, rfl, rfl, rfl, fun w => ⟨3, Try.sizeOf51 w⟩⟩
instance : TZ Try.prog 52 (.agg #[.int .i64 0, .int .i64 0, .int .i64 0, .int .i64 0, .int .i64 0, .int .i64 0, .int .i64 0, .slice none 0 0, .slice none 0 0, .bool false, .int .i64 0, .int .i64 0, .int .i64 0, .int .i64 0, .slice none 0 0, .int .i64 0, .int .i64 0, .int .i64 0, .slice none 0 0]) := ⟨Try.zeroValue52⟩
instance : TZL Try.prog 52 [.int .i64 0, .int .i64 0, .int .i64 0, .int .i64 0, .int .i64 0, .int .i64 0, .int .i64 0, .slice none 0 0, .slice none 0 0, .bool false, .int .i64 0, .int .i64 0, .int .i64 0, .int .i64 0, .slice none 0 0, .int .i64 0, .int .i64 0, .int .i64 0, .slice none 0 0] := ⟨_, Try.zeroValue52, rfl⟩
instance : TIn Try.prog 52 19 216 (.agg #[.int .i64 0, .int .i64 0, .int .i64 0, .int .i64 0, .int .i64 0, .int .i64 0, .int .i64 0, .slice none 0 0, .slice none 0 0, .bool false, .int .i64 0, .int .i64 0, .int .i64 0, .int .i64 0, .slice none 0 0, .int .i64 0, .int .i64 0, .int .i64 0, .slice none 0 0]) := ⟨_, rfl, rfl, rfl, rfl, rfl, by decide⟩
instance : TSz Try.prog 53 19 := ⟨Try.sizeOf53⟩
instance : TAgg Try.prog 53 true := ⟨Try.isAgg53⟩
instance : TPl Try.prog 53 [(0, 1), (1, 1), (2, 1), (3, 3), (6, 3), (9, 1), (10, 1), (11, 4), (15, 4)] := ⟨_, Try.underlying53, fun w => by simp [List.mapM_cons]⟩
instance : TFd Try.prog 53 0 0 3 := ⟨_, _, Try.underlying53, rfl, rfl, rfl, fun w => ⟨0, Try.sizeOf3 w⟩⟩
instance : TFd Try.prog 53 1 1 3 := ⟨_, _, Try.underlying53, rfl, rfl, rfl, fun w => ⟨0, Try.sizeOf3 w⟩⟩
instance : TFd Try.prog 53 2 2 43 := ⟨_, _, Try.underlying53, rfl, rfl, rfl, fun w => ⟨0, Try.sizeOf43 w⟩⟩
instance : TFd Try.prog 53 3 3 28 := ⟨_, _, Try.underlying53, rfl, rfl, rfl, fun w => ⟨2, Try.sizeOf28 w⟩⟩
instance : TFd Try.prog 53 4 6 41 := ⟨_, _, Try.underlying53, rfl, rfl, rfl, fun w => ⟨2, Try.sizeOf41 w⟩⟩
instance : TFd Try.prog 53 5 9 4 := ⟨_, _, Try.underlying53, rfl, rfl, rfl, fun w => ⟨0, Try.sizeOf4 w⟩⟩
instance : TFd Try.prog 53 6 10 3 := ⟨_, _, Try.underlying53, rfl, rfl, rfl, fun w => ⟨0, Try.sizeOf3 w⟩⟩
instance : TFd Try.prog 53 7 11 49 := ⟨_, _, Try.underlying53, rfl, rfl, rfl, fun w => ⟨3, Try.sizeOf49 w⟩⟩
instance : TFd Try.prog 53 8 15 51 := ⟨_, _, Try.underlying53, rfl, rfl, rfl, fun w => ⟨3, Try.sizeOf51 w⟩⟩
instance : TZ Try.prog 53 (.agg #[.int .i64 0, .int .i64 0, .int .i64 0, .int .i64 0, .int .i64 0, .int .i64 0, .int .i64 0, .slice none 0 0, .slice none 0 0, .bool false, .int .i64 0, .int .i64 0, .int .i64 0, .int .i64 0, .slice none 0 0, .int .i64 0, .int .i64 0, .int .i64 0, .slice none 0 0]) := ⟨Try.zeroValue53⟩
instance : TZL Try.prog 53 [.int .i64 0, .int .i64 0, .int .i64 0, .int .i64 0, .int .i64 0, .int .i64 0, .int .i64 0, .slice none 0 0, .slice none 0 0, .bool false, .int .i64 0, .int .i64 0, .int .i64 0, .int .i64 0, .slice none 0 0, .int .i64 0, .int .i64 0, .int .i64 0, .slice none 0 0] := ⟨_, Try.zeroValue53, rfl⟩
instance : TIn Try.prog 53 19 216 (.agg #[.int .i64 0, .int .i64 0, .int .i64 0, .int .i64 0, .int .i64 0, .int .i64 0, .int .i64 0, .slice none 0 0, .slice none 0 0, .bool false, .int .i64 0, .int .i64 0, .int .i64 0, .int .i64 0, .slice none 0 0, .int .i64 0, .int .i64 0, .int .i64 0, .slice none 0 0]) := ⟨_, rfl, rfl, rfl, rfl, rfl, by decide⟩
instance : TSz Try.prog 54 1 := ⟨Try.sizeOf54⟩
instance : TAgg Try.prog 54 false := ⟨Try.isAgg54⟩
instance : TSl Try.prog 54 88 := ⟨Try.underlying54⟩
instance : TZ Try.prog 54 (.slice none 0 0) := ⟨Try.zeroValue54⟩
instance : TZL Try.prog 54 [.slice none 0 0] := ⟨_, Try.zeroValue54, rfl⟩
instance : TIn Try.prog 54 1 24 (.slice none 0 0) := ⟨_, rfl, rfl, rfl, rfl, rfl, by decide⟩
instance : TSz Try.prog 56 1 := ⟨Try.sizeOf56⟩
instance : TAgg Try.prog 56 false := ⟨Try.isAgg56⟩
instance : TZ Try.prog 56 (.nilFunc) := ⟨Try.zeroValue56⟩
instance : TZL Try.prog 56 [.nilFunc] := ⟨_, Try.zeroValue56, rfl⟩
instance : TIn Try.prog 56 1 8 (.nilFunc) := ⟨_, rfl, rfl, rfl, rfl, rfl, by decide⟩
instance : TSz Try.prog 57 1 := ⟨Try.sizeOf57⟩
instance : TAgg Try.prog 57 false := ⟨Try.isAgg57⟩
instance : TSl Try.prog 57 63 := ⟨Try.underlying57⟩
instance : TZ Try.prog 57 (.slice none 0 0) := ⟨Try.zeroValue57⟩
instance : TZL Try.prog 57 [.slice none 0 0] := ⟨_, Try.zeroValue57, rfl⟩
instance : TIn Try.prog 57 1 24 (.slice none 0 0) := ⟨_, rfl, rfl, rfl, rfl, rfl, by decide⟩
instance : TSz Try.prog 59 1 := ⟨Try.sizeOf59⟩
instance : TAgg Try.prog 59 false := ⟨Try.isAgg59⟩
instance : TZ Try.prog 59 (.nilFunc) := ⟨Try.zeroValue59⟩
instance : TZL Try.prog 59 [.nilFunc] := ⟨_, Try.zeroValue59, rfl⟩
instance : TIn Try.prog 59 1 8 (.nilFunc) := ⟨_, rfl, rfl, rfl, rfl, rfl, by decide⟩
instance : TSz Try.prog 60 1 := ⟨Try.sizeOf60⟩
instance : TAgg Try.prog 60 false := ⟨Try.isAgg60⟩
instance : TZ Try.prog 60 (.nilFunc) := ⟨Try.zeroValue60⟩
instance : TZL Try.prog 60 [.nilFunc] := ⟨_, Try.zeroValue60, rfl⟩
instance : TIn Try.prog 60 1 8 (.nilFunc) := ⟨_, rfl, rfl, rfl, rfl, rfl, by decide⟩
instance : TSz Try.prog 61 1 := ⟨Try.sizeOf61⟩
instance : TAgg Try.prog 61 false := ⟨Try.isAgg61⟩
instance : TIt Try.prog 61 .i64 := ⟨Try.underlying61⟩
instance : TZ Try.prog 61 (.int .i64 0) := ⟨Try.zeroValue61⟩
instance : TZL Try.prog 61 [.int .i64 0] := ⟨_, Try.zeroValue61, rfl⟩
instance : TIn Try.prog 61 1 8 (.int .i64 0) := ⟨_, rfl, rfl, rfl, rfl, rfl, by decide⟩
instance : TSz Try.prog 62 9 := ⟨Try.sizeOf62⟩
instance : TAgg Try.prog 62 true := ⟨Try.isAgg62⟩
instance : TPl Try.prog 62 [(0, 1), (1, 3), (4, 3), (7, 1), (8, 1)] := ⟨_, Try.underlying62, fun w => by simp [List.mapM_cons]⟩
instance : TFd Try.prog 62 0 0 61 := ⟨_, _, Try.underlying62, rfl, rfl, rfl, fun w => ⟨0, Try.sizeOf61 w⟩⟩
instance : TFd Try.prog 62 1 1 28 := ⟨_, _, Try.underlying62, rfl, rfl, rfl, fun w => ⟨2, Try.sizeOf28 w⟩⟩
instance : TFd Try.prog 62 2 4 41 := ⟨_, _, Try.underlying62, rfl, rfl, rfl, fun w => ⟨2, Try.sizeOf41 w⟩⟩
instance : TFd Try.prog 62 3 7 4 := ⟨_, _, Try.underlying62, rfl, rfl, rfl, fun w => ⟨0, Try.sizeOf4 w⟩⟩
instance : TFd Try.prog 62 4 8 45 := ⟨_, _, Try.underlying62, rfl, rfl, rfl, fun w => ⟨0, Try.sizeOf45 w⟩⟩
instance : TZ Try.prog 62 (.agg #[.int .i64 0, .int .i64 0, .int .i64 0, .int .i64 0, .int .i64 0, .slice none 0 0, .slice none 0 0, .bool false, .slice none 0 0]) := ⟨Try.zeroValue62⟩
instance : TZL Try.prog 62 [.int .i64 0, .int .i64 0, .int .i64 0, .int .i64 0, .int .i64 0, .slice none 0 0, .slice none 0 0, .bool false, .slice none 0 0] := ⟨_, Try.zeroValue62, rfl⟩
instance : TIn Try.prog 62 9 120 (.agg #[.int .i64 0, .int .i64 0, .int .i64 0, .int .i64 0, .int .i64 0, .slice none 0 0, .slice none 0 0, .bool false, .slice none 0 0]) := ⟨_, rfl, rfl, rfl, rfl, rfl, by decide⟩
instance : TSz Try.prog 63 9 := ⟨Try.sizeOf63⟩
instance : TAgg Try.prog 63 true := ⟨Try.isAgg63⟩
instance : TPl Try.prog 63 [(0, 1), (1, 3), (4, 3), (7, 1), (8, 1)] := ⟨_, Try.underlying63, fun w => by simp [List.mapM_cons]⟩
instance : TFd Try.prog 63 0 0 61 := ⟨_, _, Try.underlying63, rfl, rfl, rfl, fun w => ⟨0, Try.sizeOf61 w⟩⟩
instance : TFd Try.prog 63 1 1 28 := ⟨_, _, Try.underlying63, rfl, rfl, rfl, fun w => ⟨2, Try.sizeOf28 w⟩⟩
instance : TFd Try.prog 63 2 4 41 := ⟨_, _, Try.underlying63, rfl, rfl, rfl, fun w => ⟨2, Try.sizeOf41 w⟩⟩
instance : TFd Try.prog 63 3 7 4 := ⟨_, _, Try.underlying63, rfl, rfl, rfl, fun w => ⟨0, Try.sizeOf4 w⟩⟩
instance : TFd Try.prog 63 4 8 45 := ⟨_, _, Try.underlying63, rfl, rfl, rfl, fun w => ⟨0, Try.sizeOf45 w⟩⟩
instance : TZ Try.prog 63 (.agg #[.int .i64 0, .int .i64 0, .int .i64 0, .int .i64 0, .int .i64 0, .slice none 0 0, .slice none 0 0, .bool false, .slice none 0 0]) := ⟨Try.zeroValue63⟩
instance : TZL Try.prog 63 [.int .i64 0, .int .i64 0, .int .i64 0, .int .i64 0, .int .i64 0, .slice none 0 0, .slice none 0 0, .bool false, .slice none 0 0] := ⟨_, Try.zeroValue63, rfl⟩
instance : TIn Try.prog 63 9 120 (.agg #[.int .i64 0, .int .i64 0, .int .i64 0, .int .i64 0, .int .i64 0, .slice none 0 0, .slice none 0 0, .bool false, .slice none 0 0]) := ⟨_, rfl, rfl, rfl, rfl, rfl, by decide⟩
instance : TSz Try.prog 64 1 := ⟨Try.sizeOf64⟩
instance : TAgg Try.prog 64 false := ⟨Try.isAgg64⟩
instance : TZ Try.prog 64 (.nilFunc) := ⟨Try.zeroValue64⟩
instance : TZL Try.prog 64 [.nilFunc] := ⟨_, Try.zeroValue64, rfl⟩
instance : TIn Try.prog 64 1 8 (.nilFunc) := ⟨_, rfl, rfl, rfl, rfl, rfl, by decide⟩
instance : TSz Try.prog 65 1 := ⟨Try.sizeOf65⟩
instance : TAgg Try.prog 65 false := ⟨Try.isAgg65⟩
instance : TSl Try.prog 65 68 := ⟨Try.underlying65⟩
instance : TZ Try.prog 65 (.slice none 0 0) := ⟨Try.zeroValue65⟩
instance : TZL Try.prog 65 [.slice none 0 0] := ⟨_, Try.zeroValue65, rfl⟩
instance : TIn Try.prog 65 1 24 (.slice none 0 0) := ⟨_, rfl, rfl, rfl, rfl, rfl, by decide⟩
instance : TSz Try.prog 66 1 := ⟨Try.sizeOf66⟩
instance : TAgg Try.prog 66 false := ⟨Try.isAgg66⟩
instance : TMap Try.prog 66 28 3 := ⟨Try.underlying66⟩
instance : TZ Try.prog 66 (.map none) := ⟨Try.zeroValue66⟩
instance : TZL Try.prog 66 [.map none] := ⟨_, Try.zeroValue66, rfl⟩
instance : TIn Try.prog 66 1 8 (.map none) := ⟨_, rfl, rfl, rfl, rfl, rfl, by decide⟩
instance : TSz Try.prog 67 22 := ⟨Try.sizeOf67⟩
instance : TAgg Try.prog 67 true := ⟨Try.isAgg67⟩
instance : TPl Try.prog 67 [(0, 1), (1, 19), (20, 1), (21, 1)] := ⟨_, Try.underlying67, fun w => by simp [List.mapM_cons]⟩
instance : TFd Try.prog 67 0 0 3 := ⟨_, _, Try.underlying67, rfl, rfl, rfl, fun w => ⟨0, Try.sizeOf3 w⟩⟩
instance : TFd Try.prog 67 1 1 53 := ⟨_, _, Try.underlying67, rfl, rfl, rfl, fun w => ⟨18, Try.sizeOf53 w⟩⟩
instance : TFd Try.prog 67 2 20 22 := ⟨_, _, Try.underlying67, rfl, rfl, rfl, fun w => ⟨0, Try.sizeOf22 w⟩⟩
instance : TFd Try.prog 67 3 21 3 := ⟨_, _, Try.underlying67, rfl, rfl, rfl, fun w => ⟨0, Try.sizeOf3 w⟩⟩
instance : TZ Try.prog 67 (.agg #[.int .i64 0, .int .i64 0, .int .i64 0, .int .i64 0, .int .i64 0, .int .i64 0, .int .i64 0, .int .i64 0, .slice none 0 0, .slice none 0 0, .bool false, .int .i64 0, .int .i64 0, .int .i64 0, .int .i64 0, .slice none 0 0, .int .i64 0, .int .i64 0, .int .i64 0, .slice none 0 0, .slice none 0 0, .int .i64 0]) := ⟨Try.zeroValue67⟩
instance : TZL Try.prog 67 [.int .i64 0, .int .i64 0, .int .i64 0, .int .i64 0, .int .i64 0, .int .i64 0, .int .i64 0, .int .i64 0, .slice none 0 0, .slice none 0 0, .bool false, .int .i64 0, .int .i64 0, .int .i64 0, .int .i64 0, .slice none 0 0, .int .i64 0, .int .i64 0, .int .i64 0, .slice none 0 0, .slice none 0 0, .int .i64 0] := ⟨_, Try.zeroValue67, rfl⟩
instance : TIn Try.prog 67 22 256 (.agg #[.int .i64 0, .int .i64 0, .int .i64 0, .int .i64 0, .int .i64 0, .int .i64 0, .int .i64 0, .int .i64 0, .slice none 0 0, .slice none 0 0, .bool false, .int .i64 0, .int .i64 0, .int .i64 0, .int .i64 0, .slice none 0 0, .int .i64 0, .int .i64 0, .int .i64 0, .slice none 0 0, .slice none 0 0, .int .i64 0]) := ⟨_, rfl, rfl, rfl, rfl, rfl, by decide⟩
instance : TSz Try.prog 68 22 := ⟨Try.sizeOf68⟩
instance : TAgg Try.prog 68 true := ⟨Try.isAgg68⟩
instance : TPl Try.prog 68 [(0, 1), (1, 19), (20, 1), (21, 1)] := ⟨_, Try.underlying68, fun w => by simp [List.mapM_cons]⟩
instance : TFd Try.prog 68 0 0 3 := ⟨_, _, Try.underlying68, rfl, rfl, rfl, fun w => ⟨0, Try.sizeOf3 w⟩⟩
instance : TFd Try.prog 68 1 1 53 := ⟨_, _, Try.underlying68, rfl, rfl, rfl, fun w => ⟨18, Try.sizeOf53 w⟩⟩
instance : TFd Try.prog 68 2 20 22 := ⟨_, _, Try.underlying68, rfl, rfl, rfl, fun w => ⟨0, Try.sizeOf22 w⟩⟩
instance : TFd Try.prog 68 3 21 3 := ⟨_, _, Try.underlying68, rfl, rfl, rfl, fun w => ⟨0, Try.sizeOf3 w⟩⟩
instance : TZ Try.prog 68 (.agg #[.int .i64 0, .int .i64 0, .int .i64 0, .int .i64 0, .int .i64 0, .int .i64 0, .int .i64 0, .int .i64 0, .slice none 0 0, .slice none 0 0, .bool false, .int .i64 0, .int .i64 0, .int .i64 0, .int .i64 0, .slice none 0 0, .int .i64 0, .int .i64 0, .int .i64 0, .slice none 0 0, .slice none 0 0, .int .i64 0]) := ⟨Try.zeroValue68⟩
instance : TZL Try.prog 68 [.int .i64 0, .int .i64 0, .int .i64 0, .int .i64 0, .int .i64 0, .int .i64 0, .int .i64 0, .int .i64 0, .slice none 0 0, .slice none 0 0, .bool false, .int .i64 0, .int .i64 0, .int .i64 0, .int .i64 0, .slice none 0 0, .int .i64 0, .int .i64 0, .int .i64 0, .slice none 0 0, .slice none 0 0, .int .i64 0] := ⟨_, Try.zeroValue68, rfl⟩
instance : TIn Try.prog 68 22 256 (.agg #[.int .i64 0, .int .i64 0, .int .i64 0, .int .i64 0, .int .i64 0, .int .i64 0, .int .i64 0, .int .i64 0, .slice none 0 0, .slice none 0 0, .bool false, .int .i64 0, .int .i64 0, .int .i64 0, .int .i64 0, .slice none 0 0, .int .i64 0, .int .i64 0, .int .i64 0, .slice none 0 0, .slice none 0 0, .int .i64 0]) := ⟨_, rfl, rfl, rfl, rfl, rfl, by decide⟩
instance : TSz Try.prog 69 1 := ⟨Try.sizeOf69⟩
instance : TAgg Try.prog 69 false := ⟨Try.isAgg69⟩
instance : TZ Try.prog 69 (.nilFunc) := ⟨Try.zeroValue69⟩
instance : TZL Try.prog 69 [.nilFunc] := ⟨_, Try.zeroValue69, rfl⟩
instance : TIn Try.prog 69 1 8 (.nilFunc) := ⟨_, rfl, rfl, rfl, rfl, rfl, by decide⟩
instance : TSz Try.prog 70 1 := ⟨Try.sizeOf70⟩
instance : TAgg Try.prog 70 false := ⟨Try.isAgg70⟩
instance : TZ Try.prog 70 (.nilFunc) := ⟨Try.zeroValue70⟩
instance : TZL Try.prog 70 [.nilFunc] := ⟨_, Try.zeroValue70, rfl⟩
instance : TIn Try.prog 70 1 8 (.nilFunc) := ⟨_, rfl, rfl, rfl, rfl, rfl, by decide⟩
instance : TSz Try.prog 71 1 := ⟨Try.sizeOf71⟩
instance : TAgg Try.prog 71 false := ⟨Try.isAgg71⟩
instance : TZ Try.prog 71 (.nilFunc) := ⟨Try.zeroValue71⟩
instance : TZL Try.prog 71 [.nilFunc] := ⟨_, Try.zeroValue71, rfl⟩
instance : TIn Try.prog 71 1 8 (.nilFunc) := ⟨_, rfl, rfl, rfl, rfl, rfl, by decide⟩
instance : TSz Try.prog 72 1 := ⟨Try.sizeOf72⟩
instance : TAgg Try.prog 72 false := ⟨Try.isAgg72⟩
instance : TZ Try.prog 72 (.nilFunc) := ⟨Try.zeroValue72⟩
instance : TZL Try.prog 72 [.nilFunc] := ⟨_, Try.zeroValue72, rfl⟩
instance : TIn Try.prog 72 1 8 (.nilFunc) := ⟨_, rfl, rfl, rfl, rfl, rfl, by decide⟩
instance : TSz Try.prog 74 1 := ⟨Try.sizeOf74⟩
instance : TAgg Try.prog 74 false := ⟨Try.isAgg74⟩
instance : TZ Try.prog 74 (.nilFunc) := ⟨Try.zeroValue74⟩
instance : TZL Try.prog 74 [.nilFunc] := ⟨_, Try.zeroValue74, rfl⟩
instance : TIn Try.prog 74 1 8 (.nilFunc) := ⟨_, rfl, rfl, rfl, rfl, rfl, by decide⟩
instance : TSz Try.prog 76 1 := ⟨Try.sizeOf76⟩
instance : TAgg Try.prog 76 false := ⟨Try.isAgg76⟩
instance : TZ Try.prog 76 (.nilFunc) := ⟨Try.zeroValue76⟩
instance : TZL Try.prog 76 [.nilFunc] := ⟨_, Try.zeroValue76, rfl⟩
instance : TIn Try.prog 76 1 8 (.nilFunc) := ⟨_, rfl, rfl, rfl, rfl, rfl, by decide⟩
instance : TSz Try.prog 77 1 := ⟨Try.sizeOf77⟩
instance : TAgg Try.prog 77 false := ⟨Try.isAgg77⟩
instance : TZ Try.prog 77 (.nilFunc) := ⟨Try.zeroValue77⟩
instance : TZL Try.prog 77 [.nilFunc] := ⟨_, Try.zeroValue77, rfl⟩
instance : TIn Try.prog 77 1 8 (.nilFunc) := ⟨_, rfl, rfl, rfl, rfl, rfl, by decide⟩
instance : TSz Try.prog 78 1 := ⟨Try.sizeOf78⟩
instance : TAgg Try.prog 78 false := ⟨Try.isAgg78⟩
instance : TZ Try.prog 78 (.nilFunc) := ⟨Try.zeroValue78⟩
instance : TZL Try.prog 78 [.nilFunc] := ⟨_, Try.zeroValue78, rfl⟩
instance : TIn Try.prog 78 1 8 (.nilFunc) := ⟨_, rfl, rfl, rfl, rfl, rfl, by decide⟩
instance : TSz Try.prog 80 1 := ⟨Try.sizeOf80⟩
instance : TAgg Try.prog 80 false := ⟨Try.isAgg80⟩
instance : TZ Try.prog 80 (.nilFunc) := ⟨Try.zeroValue80⟩
instance : TZL Try.prog 80 [.nilFunc] := ⟨_, Try.zeroValue80, rfl⟩
instance : TIn Try.prog 80 1 8 (.nilFunc) := ⟨_, rfl, rfl, rfl, rfl, rfl, by decide⟩
instance : TSz Try.prog 81 1 := ⟨Try.sizeOf81⟩
instance : TAgg Try.prog 81 false := ⟨Try.isAgg81⟩
instance : TSl Try.prog 81 28 := ⟨Try.underlying81⟩
instance : TZ Try.prog 81 (.slice none 0 0) := ⟨Try.zeroValue81⟩
instance : TZL Try.prog 81 [.slice none 0 0] := ⟨_, Try.zeroValue81, rfl⟩
instance : TIn Try.prog 81 1 24 (.slice none 0 0) := ⟨_, rfl, rfl, rfl, rfl, rfl, by decide⟩
instance : TSz Try.prog 82 1 := ⟨Try.sizeOf82⟩
instance : TAgg Try.prog 82 false := ⟨Try.isAgg82⟩
instance : TZ Try.prog 82 (.nilFunc) := ⟨Try.zeroValue82⟩
instance : TZL Try.prog 82 [.nilFunc] := ⟨_, Try.zeroValue82, rfl⟩
instance : TIn Try.prog 82 1 8 (.nilFunc) := ⟨_, rfl, rfl, rfl, rfl, rfl, by decide⟩
instance : TSz Try.prog 83 1 := ⟨Try.sizeOf83⟩
instance : TAgg Try.prog 83 false := ⟨Try.isAgg83⟩
instance : TZ Try.prog 83 (.nilFunc) := ⟨Try.zeroValue83⟩
instance : TZL Try.prog 83 [.nilFunc] := ⟨_, Try.zeroValue83, rfl⟩
instance : TIn Try.prog 83 1 8 (.nilFunc) := ⟨_, rfl, rfl, rfl, rfl, rfl, by decide⟩
instance : TSz Try.prog 84 1 := ⟨Try.sizeOf84⟩
instance : TAgg Try.prog 84 false := ⟨Try.isAgg84⟩
instance : TMap Try.prog 84 28 89 := ⟨Try.underlying84⟩
instance : TZ Try.prog 84 (.map none) := ⟨Try.zeroValue84⟩
instance : TZL Try.prog 84 [.map none] := ⟨_, Try.zeroValue84, rfl⟩
instance : TIn Try.prog 84 1 8 (.map none) := ⟨_, rfl, rfl, rfl, rfl, rfl, by decide⟩
instance : TSz Try.prog 85 4 := ⟨Try.sizeOf85⟩
instance : TAgg Try.prog 85 true := ⟨Try.isAgg85⟩
instance : TPl Try.prog 85 [(0, 1), (1, 1), (2, 1), (3, 1)] := ⟨_, Try.underlying85, fun w => by simp [List.mapM_cons]⟩
instance : TFd Try.prog 85 0 0 3 := ⟨_, _, Try.underlying85, rfl, rfl, rfl, fun w => ⟨0, Try.sizeOf3 w⟩⟩
instance : TFd Try.prog 85 1 1 3 := ⟨_, _, Try.underlying85, rfl, rfl, rfl, fun w => ⟨0, Try.sizeOf3 w⟩⟩
instance : TFd Try.prog 85 2 2 3 := ⟨_, _, Try.underlying85, rfl, rfl, rfl, fun w => ⟨0, Try.sizeOf3 w⟩⟩
instance : TFd Try.prog 85 3 3 84 := ⟨_, _, Try.underlying85, rfl, rfl, rfl, fun w => ⟨0, Try.sizeOf84 w⟩⟩
instance : TZ Try.prog 85 (.agg #[.int .i64 0, .int .i64 0, .int .i64 0, .map none]) := ⟨Try.zeroValue85⟩
instance : TZL Try.prog 85 [.int .i64 0, .int .i64 0, .int .i64 0, .map none] := ⟨_, Try.zeroValue85, rfl⟩
instance : TIn Try.prog 85 4 32 (.agg #[.int .i64 0, .int .i64 0, .int .i64 0, .map none]) := ⟨_, rfl, rfl, rfl, rfl, rfl, by decide⟩
instance : TSz Try.prog 86 4 := ⟨Try.sizeOf86⟩
instance : TAgg Try.prog 86 true := ⟨Try.isAgg86⟩
instance : TPl Try.prog 86 [(0, 1), (1, 1), (2, 1), (3, 1)] := ⟨_, Try.underlying86, fun w => by simp [List.mapM_cons]⟩
instance : TFd Try.prog 86 0 0 3 := ⟨_, _, Try.underlying86, rfl, rfl, rfl, fun w => ⟨0, Try.sizeOf3 w⟩⟩
instance : TFd Try.prog 86 1 1 3 := ⟨_, _, Try.underlying86, rfl, rfl, rfl, fun w => ⟨0, Try.sizeOf3 w⟩⟩
instance : TFd Try.prog 86 2 2 3 := ⟨_, _, Try.underlying86, rfl, rfl, rfl, fun w => ⟨0, Try.sizeOf3 w⟩⟩
instance : TFd Try.prog 86 3 3 84 := ⟨_, _, Try.underlying86, rfl, rfl, rfl, fun w => ⟨0, Try.sizeOf84 w⟩⟩
instance : TZ Try.prog 86 (.agg #[.int .i64 0, .int .i64 0, .int .i64 0, .map none]) := ⟨Try.zeroValue86⟩
instance : TZL Try.prog 86 [.int .i64 0, .int .i64 0, .int .i64 0, .map none] := ⟨_, Try.zeroValue86, rfl⟩
instance : TIn Try.prog 86 4 32 (.agg #[.int .i64 0, .int .i64 0, .int .i64 0, .map none]) := ⟨_, rfl, rfl, rfl, rfl, rfl, by decide⟩
instance : TSz Try.prog 87 5 := ⟨Try.sizeOf87⟩
instance : TAgg Try.prog 87 true := ⟨Try.isAgg87⟩
instance : TPl Try.prog 87 [(0, 3), (3, 1), (4, 1)] := ⟨_, Try.underlying87, fun w => by simp [List.mapM_cons]⟩
instance : TFd Try.prog 87 0 0 28 := ⟨_, _, Try.underlying87, rfl, rfl, rfl, fun w => ⟨2, Try.sizeOf28 w⟩⟩
instance : TFd Try.prog 87 1 3 4 := ⟨_, _, Try.underlying87, rfl, rfl, rfl, fun w => ⟨0, Try.sizeOf4 w⟩⟩
instance : TFd Try.prog 87 2 4 4 := ⟨_, _, Try.underlying87, rfl, rfl, rfl, fun w => ⟨0, Try.sizeOf4 w⟩⟩
instance : TZ Try.prog 87 (.agg #[.int .i64 0, .int .i64 0, .int .i64 0, .bool false, .bool false]) := ⟨Try.zeroValue87⟩
instance : TZL Try.prog 87 [.int .i64 0, .int .i64 0, .int .i64 0, .bool false, .bool false] := ⟨_, Try.zeroValue87, rfl⟩
instance : TIn Try.prog 87 5 32 (.agg #[.int .i64 0, .int .i64 0, .int .i64 0, .bool false, .bool false]) := ⟨_, rfl, rfl, rfl, rfl, rfl, by decide⟩
instance : TSz Try.prog 88 5 := ⟨Try.sizeOf88⟩
instance : TAgg Try.prog 88 true := ⟨Try.isAgg88⟩
instance : TPl Try.prog 88 [(0, 3), (3, 1), (4, 1)] := ⟨_, Try.underlying88, fun w => by simp [List.mapM_cons]⟩
instance : TFd Try.prog 88 0 0 28 := ⟨_, _, Try.underlying88, rfl, rfl, rfl, fun w => ⟨2, Try.sizeOf28 w⟩⟩
instance : TFd Try.prog 88 1 3 4 := ⟨_, _, Try.underlying88, rfl, rfl, rfl, fun w => ⟨0, Try.sizeOf4 w⟩⟩
instance : TFd Try.prog 88 2 4 4 := ⟨_, _, Try.underlying88, rfl, rfl, rfl, fun w => ⟨0, Try.sizeOf4 w⟩⟩
instance : TZ Try.prog 88 (.agg #[.int .i64 0, .int .i64 0, .int .i64 0, .bool false, .bool false]) := ⟨Try.zeroValue88⟩
instance : TZL Try.prog 88 [.int .i64 0, .int .i64 0, .int .i64 0, .bool false, .bool false] := ⟨_, Try.zeroValue88, rfl⟩
instance : TIn Try.prog 88 5 32 (.agg #[.int .i64 0, .int .i64 0, .int .i64 0, .bool false, .bool false]) := ⟨_, rfl, rfl, rfl, rfl, rfl, by decide⟩
instance : TSz Try.prog 89 1 := ⟨Try.sizeOf89⟩
instance : TAgg Try.prog 89 false := ⟨Try.isAgg89⟩
instance : TPt Try.prog 89 := ⟨_, Try.underlying89⟩
instance : TZ Try.prog 89 (.pointer none) := ⟨Try.zeroValue89⟩
instance : TZL Try.prog 89 [.pointer none] := ⟨_, Try.zeroValue89, rfl⟩
instance : TIn Try.prog 89 1 8 (.pointer none) := ⟨_, rfl, rfl, rfl, rfl, rfl, by decide⟩
instance : TSz Try.prog 90 1 := ⟨Try.sizeOf90⟩
instance : TAgg Try.prog 90 false := ⟨Try.isAgg90⟩
instance : TMap Try.prog 90 3 41 := ⟨Try.underlying90⟩
instance : TZ Try.prog 90 (.map none) := ⟨Try.zeroValue90⟩
instance : TZL Try.prog 90 [.map none] := ⟨_, Try.zeroValue90, rfl⟩
instance : TIn Try.prog 90 1 8 (.map none) := ⟨_, rfl, rfl, rfl, rfl, rfl, by decide⟩
instance : TSz Try.prog 91 1 := ⟨Try.sizeOf91⟩
instance : TAgg Try.prog 91 false := ⟨Try.isAgg91⟩
instance : TMap Try.prog 91 3 3 := ⟨Try.underlying91⟩
instance : TZ Try.prog 91 (.map none) := ⟨Try.zeroValue91⟩
instance : TZL Try.prog 91 [.map none] := ⟨_, Try.zeroValue91, rfl⟩
instance : TIn Try.prog 91 1 8 (.map none) := ⟨_, rfl, rfl, rfl, rfl, rfl, by decide⟩
instance : TSz Try.prog 92 5 := ⟨Try.sizeOf92⟩
instance : TAgg Try.prog 92 true := ⟨Try.isAgg92⟩
instance : TPl Try.prog 92 [(0, 1), (1, 1), (2, 1), (3, 1), (4, 1)] := ⟨_, Try.underlying92, fun w => by simp [List.mapM_cons]⟩
instance : TFd Try.prog 92 0 0 4 := ⟨_, _, Try.underlying92, rfl, rfl, rfl, fun w => ⟨0, Try.sizeOf4 w⟩⟩
instance : TFd Try.prog 92 1 1 3 := ⟨_, _, Try.underlying92, rfl, rfl, rfl, fun w => ⟨0, Try.sizeOf3 w⟩⟩
instance : TFd Try.prog 92 2 2 45 := ⟨_, _, Try.underlying92, rfl, rfl, rfl, fun w => ⟨0, Try.sizeOf45 w⟩⟩
instance : TFd Try.prog 92 3 3 90 := ⟨_, _, Try.underlying92, rfl, rfl, rfl, fun w => ⟨0, Try.sizeOf90 w⟩⟩
instance : TFd Try.prog 92 4 4 91 := ⟨_, _, Try.underlying92, rfl, rfl, rfl, fun w => ⟨0, Try.sizeOf91 w⟩⟩
instance : TZ Try.prog 92 (.agg #[.bool false, .int .i64 0, .slice none 0 0, .map none, .map none]) := ⟨Try.zeroValue92⟩
instance : TZL Try.prog 92 [.bool false, .int .i64 0, .slice none 0 0, .map none, .map none] := ⟨_, Try.zeroValue92, rfl⟩
instance : TIn Try.prog 92 5 56 (.agg #[.bool false, .int .i64 0, .slice none 0 0, .map none, .map none]) := ⟨_, rfl, rfl, rfl, rfl, rfl, by decide⟩
instance : TSz Try.prog 93 5 := ⟨Try.sizeOf93⟩
instance : TAgg Try.prog 93 true := ⟨Try.isAgg93⟩
instance : TPl Try.prog 93 [(0, 1), (1, 1), (2, 1), (3, 1), (4, 1)] := ⟨_, Try.underlying93, fun w => by simp [List.mapM_cons]⟩
instance : TFd Try.prog 93 0 0 4 := ⟨_, _, Try.underlying93, rfl, rfl, rfl, fun w => ⟨0, Try.sizeOf4 w⟩⟩
instance : TFd Try.prog 93 1 1 3 := ⟨_, _, Try.underlying93, rfl, rfl, rfl, fun w => ⟨0, Try.sizeOf3 w⟩⟩
instance : TFd Try.prog 93 2 2 45 := ⟨_, _, Try.underlying93, rfl, rfl, rfl, fun w => ⟨0, Try.sizeOf45 w⟩⟩
instance : TFd Try.prog 93 3 3 90 := ⟨_, _, Try.underlying93, rfl, rfl, rfl, fun w => ⟨0, Try.sizeOf90 w⟩⟩
instance : TFd Try.prog 93 4 4 91 := ⟨_, _, Try.underlying93, rfl, rfl, rfl, fun w => ⟨0, Try.sizeOf91 w⟩⟩
instance : TZ Try.prog 93 (.agg #[.bool false, .int .i64 0, .slice none 0 0, .map none, .map none]) := ⟨Try.zeroValue93⟩
instance : TZL Try.prog 93 [.bool false, .int .i64 0, .slice none 0 0, .map none, .map none] := ⟨_, Try.zeroValue93, rfl⟩
instance : TIn Try.prog 93 5 56 (.agg #[.bool false, .int .i64 0, .slice none 0 0, .map none, .map none]) := ⟨_, rfl, rfl, rfl, rfl, rfl, by decide⟩
instance : TSz Try.prog 94 1 := ⟨Try.sizeOf94⟩
instance : TAgg Try.prog 94 false := ⟨Try.isAgg94⟩
instance : TZ Try.prog 94 (.nilFunc) := ⟨Try.zeroValue94⟩
instance : TZL Try.prog 94 [.nilFunc] := ⟨_, Try.zeroValue94, rfl⟩
instance : TIn Try.prog 94 1 8 (.nilFunc) := ⟨_, rfl, rfl, rfl, rfl, rfl, by decide⟩
instance : TSz Try.prog 95 1 := ⟨Try.sizeOf95⟩
instance : TAgg Try.prog 95 false := ⟨Try.isAgg95⟩
instance : TZ Try.prog 95 (.nilFunc) := ⟨Try.zeroValue95⟩
instance : TZL Try.prog 95 [.nilFunc] := ⟨_, Try.zeroValue95, rfl⟩
instance : TIn Try.prog 95 1 8 (.nilFunc) := ⟨_, rfl, rfl, rfl, rfl, rfl, by decide⟩
instance : TSz Try.prog 96 1 := ⟨Try.sizeOf96⟩
instance : TAgg Try.prog 96 false := ⟨Try.isAgg96⟩
instance : TSl Try.prog 96 4 := ⟨Try.underlying96⟩
instance : TZ Try.prog 96 (.slice none 0 0) := ⟨Try.zeroValue96⟩
instance : TZL Try.prog 96 [.slice none 0 0] := ⟨_, Try.zeroValue96, rfl⟩
instance : TIn Try.prog 96 1 24 (.slice none 0 0) := ⟨_, rfl, rfl, rfl, rfl, rfl, by decide⟩
instance : TSz Try.prog 97 8 := ⟨Try.sizeOf97⟩
instance : TAgg Try.prog 97 true := ⟨Try.isAgg97⟩
instance : TPl Try.prog 97 [(0, 3), (3, 1), (4, 1), (5, 1), (6, 1), (7, 1)] := ⟨_, Try.underlying97, fun w => by simp [List.mapM_cons]⟩
instance : TFd Try.prog 97 0 0 28 := ⟨_, _, Try.underlying97, rfl, rfl, rfl, fun w => ⟨2, Try.sizeOf28 w⟩⟩
instance : TFd Try.prog 97 1 3 4 := ⟨_, _, Try.underlying97, rfl, rfl, rfl, fun w => ⟨0, Try.sizeOf4 w⟩⟩
instance : TFd Try.prog 97 2 4 3 := ⟨_, _, Try.underlying97, rfl, rfl, rfl, fun w => ⟨0, Try.sizeOf3 w⟩⟩
instance : TFd Try.prog 97 3 5 45 := ⟨_, _, Try.underlying97, rfl, rfl, rfl, fun w => ⟨0, Try.sizeOf45 w⟩⟩
instance : TFd Try.prog 97 4 6 22 := ⟨_, _, Try.underlying97, rfl, rfl, rfl, fun w => ⟨0, Try.sizeOf22 w⟩⟩
instance : TFd Try.prog 97 5 7 96 := ⟨_, _, Try.underlying97, rfl, rfl, rfl, fun w => ⟨0, Try.sizeOf96 w⟩⟩
instance : TZ Try.prog 97 (.agg #[.int .i64 0, .int .i64 0, .int .i64 0, .bool false, .int .i64 0, .slice none 0 0, .slice none 0 0, .slice none 0 0]) := ⟨Try.zeroValue97⟩
instance : TZL Try.prog 97 [.int .i64 0, .int .i64 0, .int .i64 0, .bool false, .int .i64 0, .slice none 0 0, .slice none 0 0, .slice none 0 0] := ⟨_, Try.zeroValue97, rfl⟩
instance : TIn Try.prog 97 8 112 (.agg #[.int .i64 0, .int .i64 0, .int .i64 0, .bool false, .int .i64 0, .slice none 0 0, .slice none 0 0, .slice none 0 0]) := ⟨_, rfl, rfl, rfl, rfl, rfl, by decide⟩
instance : TSz Try.prog 98 8 := ⟨Try.sizeOf98⟩
instance : TAgg Try.prog 98 true := ⟨Try.isAgg98⟩
instance : TPl Try.prog 98 [(0, 3), (3, 1), (4, 1), (5, 1), (6, 1), (7, 1)] := ⟨_, Try.underlying98, fun w => by simp [List.mapM_cons]⟩
instance : TFd Try.prog 98 0 0 28 := ⟨_, _, Try.underlying98, rfl, rfl, rfl, fun w => ⟨2, Try.sizeOf28 w⟩⟩
instance : TFd Try.prog 98 1 3 4 := ⟨_, _, Try.underlying98, rfl, rfl, rfl, fun w => ⟨0, Try.sizeOf4 w⟩⟩
instance : TFd Try.prog 98 2 4 3 := ⟨_, _, Try.underlying98, rfl, rfl, rfl, fun w => ⟨0, Try.sizeOf3 w⟩⟩
instance : TFd Try.prog 98 3 5 45 := ⟨_, _, Try.underlying98, rfl, rfl, rfl, fun w => ⟨0, Try.sizeOf45 w⟩⟩
instance : TFd Try.prog 98 4 6 22 := ⟨_, _, Try.underlying98, rfl, rfl, rfl, fun w => ⟨0, Try.sizeOf22 w⟩⟩
instance : TFd Try.prog 98 5 7 96 := ⟨_, _, Try.underlying98, rfl, rfl, rfl, fun w => ⟨0, Try.sizeOf96 w⟩⟩
instance : TZ Try.prog 98 (.agg #[.int .i64 0, .int .i64 0, .int .i64 0, .bool false, .int .i64 0, .slice none 0 0, .slice none 0 0, .slice none 0 0]) := ⟨Try.zeroValue98⟩
instance : TZL Try.prog 98 [.int .i64 0, .int .i64 0, .int .i64 0, .bool false, .int .i64 0, .slice none 0 0, .slice none 0 0, .slice none 0 0] := ⟨_, Try.zeroValue98, rfl⟩
instance : TIn Try.prog 98 8 112 (.agg #[.int .i64 0, .int .i64 0, .int .i64 0, .bool false, .int .i64 0, .slice none 0 0, .slice none 0 0, .slice none 0 0]) := ⟨_, rfl, rfl, rfl, rfl, rfl, by decide⟩
instance : TSz Try.prog 99 1 := ⟨Try.sizeOf99⟩
instance : TAgg Try.prog 99 false := ⟨Try.isAgg99⟩
instance : TZ Try.prog 99 (.nilFunc) := ⟨Try.zeroValue99⟩
instance : TZL Try.prog 99 [.nilFunc] := ⟨_, Try.zeroValue99, rfl⟩
instance : TIn Try.prog 99 1 8 (.nilFunc) := ⟨_, rfl, rfl, rfl, rfl, rfl, by decide⟩
instance : TSz Try.prog 100 1 := ⟨Try.sizeOf100⟩
instance : TAgg Try.prog 100 false := ⟨Try.isAgg100⟩
instance : TZ Try.prog 100 (.nilFunc) := ⟨Try.zeroValue100⟩
instance : TZL Try.prog 100 [.nilFunc] := ⟨_, Try.zeroValue100, rfl⟩
instance : TIn Try.prog 100 1 8 (.nilFunc) := ⟨_, rfl, rfl, rfl, rfl, rfl, by decide⟩
instance : TSz Try.prog 101 1 := ⟨Try.sizeOf101⟩
instance : TAgg Try.prog 101 false := ⟨Try.isAgg101⟩
instance : TZ Try.prog 101 (.nilFunc) := ⟨Try.zeroValue101⟩
instance : TZL Try.prog 101 [.nilFunc] := ⟨_, Try.zeroValue101, rfl⟩
instance : TIn Try.prog 101 1 8 (.nilFunc) := ⟨_, rfl, rfl, rfl, rfl, rfl, by decide⟩
instance : TSz Try.prog 102 1 := ⟨Try.sizeOf102⟩
instance : TAgg Try.prog 102 false := ⟨Try.isAgg102⟩
instance : TZ Try.prog 102 (.nilFunc) := ⟨Try.zeroValue102⟩
instance : TZL Try.prog 102 [.nilFunc] := ⟨_, Try.zeroValue102, rfl⟩
instance : TIn Try.prog 102 1 8 (.nilFunc) := ⟨_, rfl, rfl, rfl, rfl, rfl, by decide⟩
instance : TSz Try.prog 104 1 := ⟨Try.sizeOf104⟩
instance : TAgg Try.prog 104 false := ⟨Try.isAgg104⟩
instance : TZ Try.prog 104 (.nilFunc) := ⟨Try.zeroValue104⟩
instance : TZL Try.prog 104 [.nilFunc] := ⟨_, Try.zeroValue104, rfl⟩
instance : TIn Try.prog 104 1 8 (.nilFunc) := ⟨_, rfl, rfl, rfl, rfl, rfl, by decide⟩
instance : TSz Try.prog 105 1 := ⟨Try.sizeOf105⟩
instance : TAgg Try.prog 105 false := ⟨Try.isAgg105⟩
instance : TZ Try.prog 105 (.nilFunc) := ⟨Try.zeroValue105⟩
instance : TZL Try.prog 105 [.nilFunc] := ⟨_, Try.zeroValue105, rfl⟩
instance : TIn Try.prog 105 1 8 (.nilFunc) := ⟨_, rfl, rfl, rfl, rfl, rfl, by decide⟩
instance : TSz Try.prog 106 1 := ⟨Try.sizeOf106⟩
instance : TAgg Try.prog 106 false := ⟨Try.isAgg106⟩
instance : TZ Try.prog 106 (.nilFunc) := ⟨Try.zeroValue106⟩
instance : TZL Try.prog 106 [.nilFunc] := ⟨_, Try.zeroValue106, rfl⟩
instance : TIn Try.prog 106 1 8 (.nilFunc) := ⟨_, rfl, rfl, rfl, rfl, rfl, by decide⟩
instance : TSz Try.prog 107 1 := ⟨Try.sizeOf107⟩
instance : TAgg Try.prog 107 false := ⟨Try.isAgg107⟩
instance : TZ Try.prog 107 (.nilFunc) := ⟨Try.zeroValue107⟩
instance : TZL Try.prog 107 [.nilFunc] := ⟨_, Try.zeroValue107, rfl⟩
instance : TIn Try.prog 107 1 8 (.nilFunc) := ⟨_, rfl, rfl, rfl, rfl, rfl, by decide⟩
instance : TSz Try.prog 108 1 := ⟨Try.sizeOf108⟩
instance : TAgg Try.prog 108 false := ⟨Try.isAgg108⟩
instance : TZ Try.prog 108 (.nilFunc) := ⟨Try.zeroValue108⟩
instance : TZL Try.prog 108 [.nilFunc] := ⟨_, Try.zeroValue108, rfl⟩
instance : TIn Try.prog 108 1 8 (.nilFunc) := ⟨_, rfl, rfl, rfl, rfl, rfl, by decide⟩
instance : TSz Try.prog 109 1 := ⟨Try.sizeOf109⟩
instance : TAgg Try.prog 109 false := ⟨Try.isAgg109⟩
instance : TZ Try.prog 109 (.nilFunc) := ⟨Try.zeroValue109⟩
instance : TZL Try.prog 109 [.nilFunc] := ⟨_, Try.zeroValue109, rfl⟩
instance : TIn Try.prog 109 1 8 (.nilFunc) := ⟨_, rfl, rfl, rfl, rfl, rfl, by decide⟩
instance : TSz Try.prog 110 1 := ⟨Try.sizeOf110⟩
instance : TAgg Try.prog 110 false := ⟨Try.isAgg110⟩
instance : TZ Try.prog 110 (.nilFunc) := ⟨Try.zeroValue110⟩
instance : TZL Try.prog 110 [.nilFunc] := ⟨_, Try.zeroValue110, rfl⟩
instance : TIn Try.prog 110 1 8 (.nilFunc) := ⟨_, rfl, rfl, rfl, rfl, rfl, by decide⟩
instance : TSz Try.prog 111 1 := ⟨Try.sizeOf111⟩
instance : TAgg Try.prog 111 false := ⟨Try.isAgg111⟩
instance : TSl Try.prog 111 133 := ⟨Try.underlying111⟩
instance : TZ Try.prog 111 (.slice none 0 0) := ⟨Try.zeroValue111⟩
instance : TZL Try.prog 111 [.slice none 0 0] := ⟨_, Try.zeroValue111, rfl⟩
instance : TIn Try.prog 111 1 24 (.slice none 0 0) := ⟨_, rfl, rfl, rfl, rfl, rfl, by decide⟩
instance : TSz Try.prog 113 1 := ⟨Try.sizeOf113⟩
instance : TAgg Try.prog 113 false := ⟨Try.isAgg113⟩
instance : TZ Try.prog 113 (.nilFunc) := ⟨Try.zeroValue113⟩
instance : TZL Try.prog 113 [.nilFunc] := ⟨_, Try.zeroValue113, rfl⟩
instance : TIn Try.prog 113 1 8 (.nilFunc) := ⟨_, rfl, rfl, rfl, rfl, rfl, by decide⟩
instance : TSz Try.prog 114 1 := ⟨Try.sizeOf114⟩
instance : TAgg Try.prog 114 false := ⟨Try.isAgg114⟩
instance : TZ Try.prog 114 (.nilFunc) := ⟨Try.zeroValue114⟩
instance : TZL Try.prog 114 [.nilFunc] := ⟨_, Try.zeroValue114, rfl⟩
instance : TIn Try.prog 114 1 8 (.nilFunc) := ⟨_, rfl, rfl, rfl, rfl, rfl, by decide⟩
instance : TSz Try.prog 116 1 := ⟨Try.sizeOf116⟩
instance : TAgg Try.prog 116 false := ⟨Try.isAgg116⟩
instance : TZ Try.prog 116 (.nilFunc) := ⟨Try.zeroValue116⟩
instance : TZL Try.prog 116 [.nilFunc] := ⟨_, Try.zeroValue116, rfl⟩
instance : TIn Try.prog 116 1 8 (.nilFunc) := ⟨_, rfl, rfl, rfl, rfl, rfl, by decide⟩
instance : TSz Try.prog 117 1 := ⟨Try.sizeOf117⟩
instance : TAgg Try.prog 117 false := ⟨Try.isAgg117⟩
instance : TZ Try.prog 117 (.nilFunc) := ⟨Try.zeroValue117⟩
instance : TZL Try.prog 117 [.nilFunc] := ⟨_, Try.zeroValue117, rfl⟩
instance : TIn Try.prog 117 1 8 (.nilFunc) := ⟨_, rfl, rfl, rfl, rfl, rfl, by decide⟩
instance : TSz Try.prog 118 1 := ⟨Try.sizeOf118⟩
instance : TAgg Try.prog 118 false := ⟨Try.isAgg118⟩
instance : TZ Try.prog 118 (.nilFunc) := ⟨Try.zeroValue118⟩
instance : TZL Try.prog 118 [.nilFunc] := ⟨_, Try.zeroValue118, rfl⟩
instance : TIn Try.prog 118 1 8 (.nilFunc) := ⟨_, rfl, rfl, rfl, rfl, rfl, by decide⟩
instance : TSz Try.prog 119 1 := ⟨Try.sizeOf119⟩
instance : TAgg Try.prog 119 false := ⟨Try.isAgg119⟩
instance : TZ Try.prog 119 (.nilFunc) := ⟨Try.zeroValue119⟩
instance : TZL Try.prog 119 [.nilFunc] := ⟨_, Try.zeroValue119, rfl⟩
instance : TIn Try.prog 119 1 8 (.nilFunc) := ⟨_, rfl, rfl, rfl, rfl, rfl, by decide⟩
instance : TSz Try.prog 120 1 := ⟨Try.sizeOf120⟩
instance : TAgg Try.prog 120 false := ⟨Try.isAgg120⟩
instance : TZ Try.prog 120 (.nilFunc) := ⟨Try.zeroValue120⟩
instance : TZL Try.prog 120 [.nilFunc] := ⟨_, Try.zeroValue120, rfl⟩
instance : TIn Try.prog 120 1 8 (.nilFunc) := ⟨_, rfl, rfl, rfl, rfl, rfl, by decide⟩
instance : TSz Try.prog 121 1 := ⟨Try.sizeOf121⟩
instance : TAgg Try.prog 121 false := ⟨Try.isAgg121⟩
instance : TZ Try.prog 121 (.nilFunc) := ⟨Try.zeroValue121⟩
instance : TZL Try.prog 121 [.nilFunc] := ⟨_, Try.zeroValue121, rfl⟩
instance : TIn Try.prog 121 1 8 (.nilFunc) := ⟨_, rfl, rfl, rfl, rfl, rfl, by decide⟩
instance : TSz Try.prog 122 1 := ⟨Try.sizeOf122⟩
instance : TAgg Try.prog 122 false := ⟨Try.isAgg122⟩
instance : TZ Try.prog 122 (.nilFunc) := ⟨Try.zeroValue122⟩
instance : TZL Try.prog 122 [.nilFunc] := ⟨_, Try.zeroValue122, rfl⟩
instance : TIn Try.prog 122 1 8 (.nilFunc) := ⟨_, rfl, rfl, rfl, rfl, rfl, by decide⟩
instance : TSz Try.prog 123 1 := ⟨Try.sizeOf123⟩
instance : TAgg Try.prog 123 false := ⟨Try.isAgg123⟩
instance : TZ Try.prog 123 (.nilFunc) := ⟨Try.zeroValue123⟩
instance : TZL Try.prog 123 [.nilFunc] := ⟨_, Try.zeroValue123, rfl⟩
instance : TIn Try.prog 123 1 8 (.nilFunc) := ⟨_, rfl, rfl, rfl, rfl, rfl, by decide⟩
instance : TSz Try.prog 124 1 := ⟨Try.sizeOf124⟩
instance : TAgg Try.prog 124 false := ⟨Try.isAgg124⟩
instance : TZ Try.prog 124 (.nilFunc) := ⟨Try.zeroValue124⟩
instance : TZL Try.prog 124 [.nilFunc] := ⟨_, Try.zeroValue124, rfl⟩
instance : TIn Try.prog 124 1 8 (.nilFunc) := ⟨_, rfl, rfl, rfl, rfl, rfl, by decide⟩
instance : TSz Try.prog 125 1 := ⟨Try.sizeOf125⟩
instance : TAgg Try.prog 125 false := ⟨Try.isAgg125⟩
instance : TZ Try.prog 125 (.nilFunc) := ⟨Try.zeroValue125⟩
instance : TZL Try.prog 125 [.nilFunc] := ⟨_, Try.zeroValue125, rfl⟩
instance : TIn Try.prog 125 1 8 (.nilFunc) := ⟨_, rfl, rfl, rfl, rfl, rfl, by decide⟩
instance : TSz Try.prog 126 1 := ⟨Try.sizeOf126⟩
instance : TAgg Try.prog 126 false := ⟨Try.isAgg126⟩
instance : TZ Try.prog 126 (.nilFunc) := ⟨Try.zeroValue126⟩
instance : TZL Try.prog 126 [.nilFunc] := ⟨_, Try.zeroValue126, rfl⟩
instance : TIn Try.prog 126 1 8 (.nilFunc) := ⟨_, rfl, rfl, rfl, rfl, rfl, by decide⟩
instance : TSz Try.prog 127 1 := ⟨Try.sizeOf127⟩
instance : TAgg Try.prog 127 false := ⟨Try.isAgg127⟩
instance : TZ Try.prog 127 (.nilFunc) := ⟨Try.zeroValue127⟩
instance : TZL Try.prog 127 [.nilFunc] := ⟨_, Try.zeroValue127, rfl⟩
instance : TIn Try.prog 127 1 8 (.nilFunc) := ⟨_, rfl, rfl, rfl, rfl, rfl, by decide⟩
instance : TSz Try.prog 128 1 := ⟨Try.sizeOf128⟩
instance : TAgg Try.prog 128 false := ⟨Try.isAgg128⟩
instance : TZ Try.prog 128 (.nilFunc) := ⟨Try.zeroValue128⟩
instance : TZL Try.prog 128 [.nilFunc] := ⟨_, Try.zeroValue128, rfl⟩
instance : TIn Try.prog 128 1 8 (.nilFunc) := ⟨_, rfl, rfl, rfl, rfl, rfl, by decide⟩
instance : TSz Try.prog 129 1 := ⟨Try.sizeOf129⟩
instance : TAgg Try.prog 129 false := ⟨Try.isAgg129⟩
instance : TIt Try.prog 129 .u64 := ⟨Try.underlying129⟩
instance : TZ Try.prog 129 (.int .u64 0) := ⟨Try.zeroValue129⟩
instance : TZL Try.prog 129 [.int .u64 0] := ⟨_, Try.zeroValue129, rfl⟩
instance : TIn Try.prog 129 1 8 (.int .u64 0) := ⟨_, rfl, rfl, rfl, rfl, rfl, by decide⟩
instance : TSz Try.prog 130 1 := ⟨Try.sizeOf130⟩
instance : TAgg Try.prog 130 false := ⟨Try.isAgg130⟩
instance : TZ Try.prog 130 (.nilFunc) := ⟨Try.zeroValue130⟩
instance : TZL Try.prog 130 [.nilFunc] := ⟨_, Try.zeroValue130, rfl⟩
instance : TIn Try.prog 130 1 8 (.nilFunc) := ⟨_, rfl, rfl, rfl, rfl, rfl, by decide⟩
instance : TSz Try.prog 131 1 := ⟨Try.sizeOf131⟩
instance : TAgg Try.prog 131 false := ⟨Try.isAgg131⟩
instance : TZ Try.prog 131 (.nilFunc) := ⟨Try.zeroValue131⟩
instance : TZL Try.prog 131 [.nilFunc] := ⟨_, Try.zeroValue131, rfl⟩
instance : TIn Try.prog 131 1 8 (.nilFunc) := ⟨_, rfl, rfl, rfl, rfl, rfl, by decide⟩
instance : TSz Try.prog 132 5 := ⟨Try.sizeOf132⟩
instance : TAgg Try.prog 132 true := ⟨Try.isAgg132⟩
instance : TPl Try.prog 132 [(0, 3), (3, 1), (4, 1)] := ⟨_, Try.underlying132, fun w => by simp [List.mapM_cons]⟩
instance : TFd Try.prog 132 0 0 28 := ⟨_, _, Try.underlying132, rfl, rfl, rfl, fun w => ⟨2, Try.sizeOf28 w⟩⟩
instance : TFd Try.prog 132 1 3 4 := ⟨_, _, Try.underlying132, rfl, rfl, rfl, fun w => ⟨0, Try.sizeOf4 w⟩⟩
instance : TFd Try.prog 132 2 4 4 := ⟨_, _, Try.underlying132, rfl, rfl, rfl, fun w => ⟨0, Try.sizeOf4 w⟩⟩
instance : TZ Try.prog 132 (.agg #[.int .i64 0, .int .i64 0, .int .i64 0, .bool false, .bool false]) := ⟨Try.zeroValue132⟩
instance : TZL Try.prog 132 [.int .i64 0, .int .i64 0, .int .i64 0, .bool false, .bool false] := ⟨_, Try.zeroValue132, rfl⟩
instance : TIn Try.prog 132 5 32 (.agg #[.int .i64 0, .int .i64 0, .int .i64 0, .bool false, .bool false]) := ⟨_, rfl, rfl, rfl, rfl, rfl, by decide⟩
instance : TSz Try.prog 133 5 := ⟨Try.sizeOf133⟩
instance : TAgg Try.prog 133 true := ⟨Try.isAgg133⟩
instance : TPl Try.prog 133 [(0, 3), (3, 1), (4, 1)] := ⟨_, Try.underlying133, fun w => by simp [List.mapM_cons]⟩
instance : TFd Try.prog 133 0 0 28 := ⟨_, _, Try.underlying133, rfl, rfl, rfl, fun w => ⟨2, Try.sizeOf28 w⟩⟩
instance : TFd Try.prog 133 1 3 4 := ⟨_, _, Try.underlying133, rfl, rfl, rfl, fun w => ⟨0, Try.sizeOf4 w⟩⟩
instance : TFd Try.prog 133 2 4 4 := ⟨_, _, Try.underlying133, rfl, rfl, rfl, fun w => ⟨0, Try.sizeOf4 w⟩⟩
instance : TZ Try.prog 133 (.agg #[.int .i64 0, .int .i64 0, .int .i64 0, .bool false, .bool false]) := ⟨Try.zeroValue133⟩
instance : TZL Try.prog 133 [.int .i64 0, .int .i64 0, .int .i64 0, .bool false, .bool false] := ⟨_, Try.zeroValue133, rfl⟩
instance : TIn Try.prog 133 5 32 (.agg #[.int .i64 0, .int .i64 0, .int .i64 0, .bool false, .bool false]) := ⟨_, rfl, rfl, rfl, rfl, rfl, by decide⟩
instance : TSz Try.prog 134 1 := ⟨Try.sizeOf134⟩
instance : TAgg Try.prog 134 false := ⟨Try.isAgg134⟩
instance : TZ Try.prog 134 (.nilFunc) := ⟨Try.zeroValue134⟩
instance : TZL Try.prog 134 [.nilFunc] := ⟨_, Try.zeroValue134, rfl⟩
instance : TIn Try.prog 134 1 8 (.nilFunc) := ⟨_, rfl, rfl, rfl, rfl, rfl, by decide⟩
instance : TSz Try.prog 135 1 := ⟨Try.sizeOf135⟩
instance : TAgg Try.prog 135 false := ⟨Try.isAgg135⟩
instance : TZ Try.prog 135 (.nilFunc) := ⟨Try.zeroValue135⟩
instance : TZL Try.prog 135 [.nilFunc] := ⟨_, Try.zeroValue135, rfl⟩
instance : TIn Try.prog 135 1 8 (.nilFunc) := ⟨_, rfl, rfl, rfl, rfl, rfl, by decide⟩
instance : TSz Try.prog 136 1 := ⟨Try.sizeOf136⟩
instance : TAgg Try.prog 136 false := ⟨Try.isAgg136⟩
instance : TZ Try.prog 136 (.nilFunc) := ⟨Try.zeroValue136⟩
instance : TZL Try.prog 136 [.nilFunc] := ⟨_, Try.zeroValue136, rfl⟩
instance : TIn Try.prog 136 1 8 (.nilFunc) := ⟨_, rfl, rfl, rfl, rfl, rfl, by decide⟩
instance : TSz Try.prog 137 1 := ⟨Try.sizeOf137⟩
instance : TAgg Try.prog 137 false := ⟨Try.isAgg137⟩
instance : TZ Try.prog 137 (.nilFunc) := ⟨Try.zeroValue137⟩
instance : TZL Try.prog 137 [.nilFunc] := ⟨_, Try.zeroValue137, rfl⟩
instance : TIn Try.prog 137 1 8 (.nilFunc) := ⟨_, rfl, rfl, rfl, rfl, rfl, by decide⟩
instance : TSz Try.prog 138 1 := ⟨Try.sizeOf138⟩
instance : TAgg Try.prog 138 false := ⟨Try.isAgg138⟩
instance : TZ Try.prog 138 (.nilFunc) := ⟨Try.zeroValue138⟩
instance : TZL Try.prog 138 [.nilFunc] := ⟨_, Try.zeroValue138, rfl⟩
instance : TIn Try.prog 138 1 8 (.nilFunc) := ⟨_, rfl, rfl, rfl, rfl, rfl, by decide⟩
instance : TSz Try.prog 139 1 := ⟨Try.sizeOf139⟩
instance : TAgg Try.prog 139 false := ⟨Try.isAgg139⟩
instance : TZ Try.prog 139 (.nilFunc) := ⟨Try.zeroValue139⟩
instance : TZL Try.prog 139 [.nilFunc] := ⟨_, Try.zeroValue139, rfl⟩
instance : TIn Try.prog 139 1 8 (.nilFunc) := ⟨_, rfl, rfl, rfl, rfl, rfl, by decide⟩
instance : TSz Try.prog 140 1 := ⟨Try.sizeOf140⟩
instance : TAgg Try.prog 140 false := ⟨Try.isAgg140⟩
instance : TZ Try.prog 140 (.nilFunc) := ⟨Try.zeroValue140⟩
instance : TZL Try.prog 140 [.nilFunc] := ⟨_, Try.zeroValue140, rfl⟩
instance : TIn Try.prog 140 1 8 (.nilFunc) := ⟨_, rfl, rfl, rfl, rfl, rfl, by decide⟩
instance : TSz Try.prog 141 1 := ⟨Try.sizeOf141⟩
instance : TAgg Try.prog 141 false := ⟨Try.isAgg141⟩
instance : TZ Try.prog 141 (.nilFunc) := ⟨Try.zeroValue141⟩
instance : TZL Try.prog 141 [.nilFunc] := ⟨_, Try.zeroValue141, rfl⟩
instance : TIn Try.prog 141 1 8 (.nilFunc) := ⟨_, rfl, rfl, rfl, rfl, rfl, by decide⟩
instance : TSz Try.prog 142 1 := ⟨Try.sizeOf142⟩
instance : TAgg Try.prog 142 false := ⟨Try.isAgg142⟩
instance : TZ Try.prog 142 (.nilFunc) := ⟨Try.zeroValue142⟩
instance : TZL Try.prog 142 [.nilFunc] := ⟨_, Try.zeroValue142, rfl⟩
instance : TIn Try.prog 142 1 8 (.nilFunc) := ⟨_, rfl, rfl, rfl, rfl, rfl, by decide⟩
instance : TSz Try.prog 143 1 := ⟨Try.sizeOf143⟩
instance : TAgg Try.prog 143 false := ⟨Try.isAgg143⟩
instance : TZ Try.prog 143 (.nilFunc) := ⟨Try.zeroValue143⟩
instance : TZL Try.prog 143 [.nilFunc] := ⟨_, Try.zeroValue143, rfl⟩
instance : TIn Try.prog 143 1 8 (.nilFunc) := ⟨_, rfl, rfl, rfl, rfl, rfl, by decide⟩
instance : TSz Try.prog 144 1 := ⟨Try.sizeOf144⟩
instance : TAgg Try.prog 144 false := ⟨Try.isAgg144⟩
instance : TZ Try.prog 144 (.nilFunc) := ⟨Try.zeroValue144⟩
instance : TZL Try.prog 144 [.nilFunc] := ⟨_, Try.zeroValue144, rfl⟩
instance : TIn Try.prog 144 1 8 (.nilFunc) := ⟨_, rfl, rfl, rfl, rfl, rfl, by decide⟩
instance : TSz Try.prog 145 1 := ⟨Try.sizeOf145⟩
instance : TAgg Try.prog 145 false := ⟨Try.isAgg145⟩
instance : TZ Try.prog 145 (.nilFunc) := ⟨Try.zeroValue145⟩
instance : TZL Try.prog 145 [.nilFunc] := ⟨_, Try.zeroValue145, rfl⟩
instance : TIn Try.prog 145 1 8 (.nilFunc) := ⟨_, rfl, rfl, rfl, rfl, rfl, by decide⟩
instance : TSz Try.prog 146 1 := ⟨Try.sizeOf146⟩
instance : TAgg Try.prog 146 false := ⟨Try.isAgg146⟩
instance : TZ Try.prog 146 (.nilFunc) := ⟨Try.zeroValue146⟩
instance : TZL Try.prog 146 [.nilFunc] := ⟨_, Try.zeroValue146, rfl⟩
instance : TIn Try.prog 146 1 8 (.nilFunc) := ⟨_, rfl, rfl, rfl, rfl, rfl, by decide⟩
instance : TSz Try.prog 147 1 := ⟨Try.sizeOf147⟩
instance : TAgg Try.prog 147 false := ⟨Try.isAgg147⟩
instance : TIt Try.prog 147 .i64 := ⟨Try.underlying147⟩
instance : TZ Try.prog 147 (.int .i64 0) := ⟨Try.zeroValue147⟩
instance : TZL Try.prog 147 [.int .i64 0] := ⟨_, Try.zeroValue147, rfl⟩
instance : TIn Try.prog 147 1 8 (.int .i64 0) := ⟨_, rfl, rfl, rfl, rfl, rfl, by decide⟩
instance : TSz Try.prog 149 1 := ⟨Try.sizeOf149⟩
instance : TAgg Try.prog 149 false := ⟨Try.isAgg149⟩
instance : TZ Try.prog 149 (.nilFunc) := ⟨Try.zeroValue149⟩
instance : TZL Try.prog 149 [.nilFunc] := ⟨_, Try.zeroValue149, rfl⟩
instance : TIn Try.prog 149 1 8 (.nilFunc) := ⟨_, rfl, rfl, rfl, rfl, rfl, by decide⟩
instance : TSz Try.prog 150 1 := ⟨Try.sizeOf150⟩
instance : TAgg Try.prog 150 false := ⟨Try.isAgg150⟩
instance : TZ Try.prog 150 (.nilFunc) := ⟨Try.zeroValue150⟩
instance : TZL Try.prog 150 [.nilFunc] := ⟨_, Try.zeroValue150, rfl⟩
instance : TIn Try.prog 150 1 8 (.nilFunc) := ⟨_, rfl, rfl, rfl, rfl, rfl, by decide⟩
instance : TSz Try.prog 151 1 := ⟨Try.sizeOf151⟩
instance : TAgg Try.prog 151 false := ⟨Try.isAgg151⟩
instance : TZ Try.prog 151 (.nilFunc) := ⟨Try.zeroValue151⟩
instance : TZL Try.prog 151 [.nilFunc] := ⟨_, Try.zeroValue151, rfl⟩
instance : TIn Try.prog 151 1 8 (.nilFunc) := ⟨_, rfl, rfl, rfl, rfl, rfl, by decide⟩
instance : TSz Try.prog 153 1 := ⟨Try.sizeOf153⟩
instance : TAgg Try.prog 153 false := ⟨Try.isAgg153⟩
instance : TZ Try.prog 153 (.nilFunc) := ⟨Try.zeroValue153⟩
instance : TZL Try.prog 153 [.nilFunc] := ⟨_, Try.zeroValue153, rfl⟩
instance : TIn Try.prog 153 1 8 (.nilFunc) := ⟨_, rfl, rfl, rfl, rfl, rfl, by decide⟩
instance : TSz Try.prog 154 1 := ⟨Try.sizeOf154⟩
instance : TAgg Try.prog 154 false := ⟨Try.isAgg154⟩
instance : TZ Try.prog 154 (.nilFunc) := ⟨Try.zeroValue154⟩
instance : TZL Try.prog 154 [.nilFunc] := ⟨_, Try.zeroValue154, rfl⟩
instance : TIn Try.prog 154 1 8 (.nilFunc) := ⟨_, rfl, rfl, rfl, rfl, rfl, by decide⟩
instance : TSz Try.prog 155 1 := ⟨Try.sizeOf155⟩
instance : TAgg Try.prog 155 false := ⟨Try.isAgg155⟩
instance : TIt Try.prog 155 .u32 := ⟨Try.underlying155⟩
instance : TZ Try.prog 155 (.int .u32 0) := ⟨Try.zeroValue155⟩
instance : TZL Try.prog 155 [.int .u32 0] := ⟨_, Try.zeroValue155, rfl⟩
instance : TIn Try.prog 155 1 4 (.int .u32 0) := ⟨_, rfl, rfl, rfl, rfl, rfl, by decide⟩
instance : TSz Try.prog 156 1 := ⟨Try.sizeOf156⟩
instance : TAgg Try.prog 156 false := ⟨Try.isAgg156⟩
instance : TZ Try.prog 156 (.nilFunc) := ⟨Try.zeroValue156⟩
instance : TZL Try.prog 156 [.nilFunc] := ⟨_, Try.zeroValue156, rfl⟩
instance : TIn Try.prog 156 1 8 (.nilFunc) := ⟨_, rfl, rfl, rfl, rfl, rfl, by decide⟩
instance : TSz Try.prog 157 1 := ⟨Try.sizeOf157⟩
instance : TAgg Try.prog 157 false := ⟨Try.isAgg157⟩
instance : TIt Try.prog 157 .u64 := ⟨Try.underlying157⟩
instance : TZ Try.prog 157 (.int .u64 0) := ⟨Try.zeroValue157⟩
instance : TZL Try.prog 157 [.int .u64 0] := ⟨_, Try.zeroValue157, rfl⟩
instance : TIn Try.prog 157 1 8 (.int .u64 0) := ⟨_, rfl, rfl, rfl, rfl, rfl, by decide⟩
instance : TSz Try.prog 158 1 := ⟨Try.sizeOf158⟩
instance : TAgg Try.prog 158 false := ⟨Try.isAgg158⟩
instance : TIt Try.prog 158 .u64 := ⟨Try.underlying158⟩
instance : TZ Try.prog 158 (.int .u64 0) := ⟨Try.zeroValue158⟩
instance : TZL Try.prog 158 [.int .u64 0] := ⟨_, Try.zeroValue158, rfl⟩
instance : TIn Try.prog 158 1 8 (.int .u64 0) := ⟨_, rfl, rfl, rfl, rfl, rfl, by decide⟩
instance : TSz Try.prog 159 1 := ⟨Try.sizeOf159⟩
instance : TAgg Try.prog 159 false := ⟨Try.isAgg159⟩
instance : TZ Try.prog 159 (.nilFunc) := ⟨Try.zeroValue159⟩
instance : TZL Try.prog 159 [.nilFunc] := ⟨_, Try.zeroValue159, rfl⟩
instance : TIn Try.prog 159 1 8 (.nilFunc) := ⟨_, rfl, rfl, rfl, rfl, rfl, by decide⟩
instance : TSz Try.prog 160 1 := ⟨Try.sizeOf160⟩
instance : TAgg Try.prog 160 false := ⟨Try.isAgg160⟩
instance : TZ Try.prog 160 (.nilFunc) := ⟨Try.zeroValue160⟩
instance : TZL Try.prog 160 [.nilFunc] := ⟨_, Try.zeroValue160, rfl⟩
instance : TIn Try.prog 160 1 8 (.nilFunc) := ⟨_, rfl, rfl, rfl, rfl, rfl, by decide⟩
instance : TSz Try.prog 161 1 := ⟨Try.sizeOf161⟩
instance : TAgg Try.prog 161 false := ⟨Try.isAgg161⟩
instance : TZ Try.prog 161 (.nilFunc) := ⟨Try.zeroValue161⟩
instance : TZL Try.prog 161 [.nilFunc] := ⟨_, Try.zeroValue161, rfl⟩
instance : TIn Try.prog 161 1 8 (.nilFunc) := ⟨_, rfl, rfl, rfl, rfl, rfl, by decide⟩
instance : TSz Try.prog 162 1 := ⟨Try.sizeOf162⟩
instance : TAgg Try.prog 162 false := ⟨Try.isAgg162⟩
instance : TPt Try.prog 162 := ⟨_, Try.underlying162⟩
instance : TZ Try.prog 162 (.pointer none) := ⟨Try.zeroValue162⟩
instance : TZL Try.prog 162 [.pointer none] := ⟨_, Try.zeroValue162, rfl⟩
instance : TIn Try.prog 162 1 8 (.pointer none) := ⟨_, rfl, rfl, rfl, rfl, rfl, by decide⟩
instance : TSz Try.prog 163 1 := ⟨Try.sizeOf163⟩
instance : TAgg Try.prog 163 false := ⟨Try.isAgg163⟩
instance : TZ Try.prog 163 (.nilFunc) := ⟨Try.zeroValue163⟩
instance : TZL Try.prog 163 [.nilFunc] := ⟨_, Try.zeroValue163, rfl⟩
instance : TIn Try.prog 163 1 8 (.nilFunc) := ⟨_, rfl, rfl, rfl, rfl, rfl, by decide⟩
instance : TSz Try.prog 164 1 := ⟨Try.sizeOf164⟩
instance : TAgg Try.prog 164 false := ⟨Try.isAgg164⟩
instance : TPt Try.prog 164 := ⟨_, Try.underlying164⟩
instance : TZ Try.prog 164 (.pointer none) := ⟨Try.zeroValue164⟩
instance : TZL Try.prog 164 [.pointer none] := ⟨_, Try.zeroValue164, rfl⟩
instance : TIn Try.prog 164 1 8 (.pointer none) := ⟨_, rfl, rfl, rfl, rfl, rfl, by decide⟩
instance : TSz Try.prog 166 1 := ⟨Try.sizeOf166⟩
instance : TAgg Try.prog 166 false := ⟨Try.isAgg166⟩
instance : TZ Try.prog 166 (.nilFunc) := ⟨Try.zeroValue166⟩
instance : TZL Try.prog 166 [.nilFunc] := ⟨_, Try.zeroValue166, rfl⟩
instance : TIn Try.prog 166 1 8 (.nilFunc) := ⟨_, rfl, rfl, rfl, rfl, rfl, by decide⟩
instance : TSz Try.prog 167 1 := ⟨Try.sizeOf167⟩
instance : TAgg Try.prog 167 false := ⟨Try.isAgg167⟩
instance : TZ Try.prog 167 (.nilFunc) := ⟨Try.zeroValue167⟩
instance : TZL Try.prog 167 [.nilFunc] := ⟨_, Try.zeroValue167, rfl⟩
instance : TIn Try.prog 167 1 8 (.nilFunc) := ⟨_, rfl, rfl, rfl, rfl, rfl, by decide⟩
instance : TSz Try.prog 168 4 := ⟨Try.sizeOf168⟩
instance : TAgg Try.prog 168 true := ⟨Try.isAgg168⟩
instance : TPl Try.prog 168 [(0, 1), (1, 1), (2, 1), (3, 1)] := ⟨_, Try.underlying168, fun w => by simp [List.mapM_cons]⟩
instance : TFd Try.prog 168 0 0 17 := ⟨_, _, Try.underlying168, rfl, rfl, rfl, fun w => ⟨0, Try.sizeOf17 w⟩⟩
instance : TFd Try.prog 168 1 1 17 := ⟨_, _, Try.underlying168, rfl, rfl, rfl, fun w => ⟨0, Try.sizeOf17 w⟩⟩
instance : TFd Try.prog 168 2 2 17 := ⟨_, _, Try.underlying168, rfl, rfl, rfl, fun w => ⟨0, Try.sizeOf17 w⟩⟩
instance : TFd Try.prog 168 3 3 9 := ⟨_, _, Try.underlying168, rfl, rfl, rfl, fun w => ⟨0, Try.sizeOf9 w⟩⟩
instance : TZ Try.prog 168 (.agg #[.pointer none, .pointer none, .pointer none, .string ⟨#[]⟩]) := ⟨Try.zeroValue168⟩
instance : TZL Try.prog 168 [.pointer none, .pointer none, .pointer none, .string ⟨#[]⟩] := ⟨_, Try.zeroValue168, rfl⟩
instance : TIn Try.prog 168 4 40 (.agg #[.pointer none, .pointer none, .pointer none, .string ⟨#[]⟩]) := ⟨_, rfl, rfl, rfl, rfl, rfl, by decide⟩
instance : TSz Try.prog 169 4 := ⟨Try.sizeOf169⟩
instance : TAgg Try.prog 169 true := ⟨Try.isAgg169⟩
instance : TPl Try.prog 169 [(0, 1), (1, 1), (2, 1), (3, 1)] := ⟨_, Try.underlying169, fun w => by simp [List.mapM_cons]⟩
instance : TFd Try.prog 169 0 0 17 := ⟨_, _, Try.underlying169, rfl, rfl, rfl, fun w => ⟨0, Try.sizeOf17 w⟩⟩
instance : TFd Try.prog 169 1 1 17 := ⟨_, _, Try.underlying169, rfl, rfl, rfl, fun w => ⟨0, Try.sizeOf17 w⟩⟩
instance : TFd Try.prog 169 2 2 17 := ⟨_, _, Try.underlying169, rfl, rfl, rfl, fun w => ⟨0, Try.sizeOf17 w⟩⟩
instance : TFd Try.prog 169 3 3 9 := ⟨_, _, Try.underlying169, rfl, rfl, rfl, fun w => ⟨0, Try.sizeOf9 w⟩⟩
instance : TZ Try.prog 169 (.agg #[.pointer none, .pointer none, .pointer none, .string ⟨#[]⟩]) := ⟨Try.zeroValue169⟩
instance : TZL Try.prog 169 [.pointer none, .pointer none, .pointer none, .string ⟨#[]⟩] := ⟨_, Try.zeroValue169, rfl⟩
instance : TIn Try.prog 169 4 40 (.agg #[.pointer none, .pointer none, .pointer none, .string ⟨#[]⟩]) := ⟨_, rfl, rfl, rfl, rfl, rfl, by decide⟩
instance : TSz Try.prog 170 0 := ⟨Try.sizeOf170⟩
instance : TAgg Try.prog 170 true := ⟨Try.isAgg170⟩
instance : TSz Try.prog 171 0 := ⟨Try.sizeOf171⟩
instance : TAgg Try.prog 171 true := ⟨Try.isAgg171⟩
instance : TPl Try.prog 171 [(0, 0)] := ⟨_, Try.underlying171, fun w => by simp [List.mapM_cons]⟩
instance : TSz Try.prog 172 0 := ⟨Try.sizeOf172⟩
instance : TAgg Try.prog 172 true := ⟨Try.isAgg172⟩
instance : TPl Try.prog 172 [(0, 0)] := ⟨_, Try.underlying172, fun w => by simp [List.mapM_cons]⟩
instance : TSz Try.prog 173 1 := ⟨Try.sizeOf173⟩
instance : TAgg Try.prog 173 false := ⟨Try.isAgg173⟩
instance : TZ Try.prog 173 (.nilFunc) := ⟨Try.zeroValue173⟩
instance : TZL Try.prog 173 [.nilFunc] := ⟨_, Try.zeroValue173, rfl⟩
instance : TIn Try.prog 173 1 8 (.nilFunc) := ⟨_, rfl, rfl, rfl, rfl, rfl, by decide⟩
instance : TSz Try.prog 174 1 := ⟨Try.sizeOf174⟩
instance : TAgg Try.prog 174 false := ⟨Try.isAgg174⟩
instance : TIt Try.prog 174 .u8 := ⟨Try.underlying174⟩
instance : TZ Try.prog 174 (.int .u8 0) := ⟨Try.zeroValue174⟩
instance : TZL Try.prog 174 [.int .u8 0] := ⟨_, Try.zeroValue174, rfl⟩
instance : TIn Try.prog 174 1 1 (.int .u8 0) := ⟨_, rfl, rfl, rfl, rfl, rfl, by decide⟩
instance : TSz Try.prog 175 1 := ⟨Try.sizeOf175⟩
instance : TAgg Try.prog 175 false := ⟨Try.isAgg175⟩
instance : TIt Try.prog 175 .u8 := ⟨Try.underlying175⟩
instance : TZ Try.prog 175 (.int .u8 0) := ⟨Try.zeroValue175⟩
instance : TZL Try.prog 175 [.int .u8 0] := ⟨_, Try.zeroValue175, rfl⟩
instance : TIn Try.prog 175 1 1 (.int .u8 0) := ⟨_, rfl, rfl, rfl, rfl, rfl, by decide⟩
instance : TSz Try.prog 176 1 := ⟨Try.sizeOf176⟩
instance : TAgg Try.prog 176 false := ⟨Try.isAgg176⟩
instance : TZ Try.prog 176 (.nilFunc) := ⟨Try.zeroValue176⟩
instance : TZL Try.prog 176 [.nilFunc] := ⟨_, Try.zeroValue176, rfl⟩
instance : TIn Try.prog 176 1 8 (.nilFunc) := ⟨_, rfl, rfl, rfl, rfl, rfl, by decide⟩
instance : TSz Try.prog 177 1 := ⟨Try.sizeOf177⟩
instance : TAgg Try.prog 177 false := ⟨Try.isAgg177⟩
instance : TPt Try.prog 177 := ⟨_, Try.underlying177⟩
instance : TZ Try.prog 177 (.pointer none) := ⟨Try.zeroValue177⟩
instance : TZL Try.prog 177 [.pointer none] := ⟨_, Try.zeroValue177, rfl⟩
instance : TIn Try.prog 177 1 8 (.pointer none) := ⟨_, rfl, rfl, rfl, rfl, rfl, by decide⟩
instance : TSz Try.prog 178 1 := ⟨Try.sizeOf178⟩
instance : TAgg Try.prog 178 false := ⟨Try.isAgg178⟩
instance : TIt Try.prog 178 .i32 := ⟨Try.underlying178⟩
instance : TZ Try.prog 178 (.int .i32 0) := ⟨Try.zeroValue178⟩
instance : TZL Try.prog 178 [.int .i32 0] := ⟨_, Try.zeroValue178, rfl⟩
instance : TIn Try.prog 178 1 4 (.int .i32 0) := ⟨_, rfl, rfl, rfl, rfl, rfl, by decide⟩
instance : TSz Try.prog 179 1 := ⟨Try.sizeOf179⟩
instance : TAgg Try.prog 179 false := ⟨Try.isAgg179⟩
instance : TIt Try.prog 179 .i32 := ⟨Try.underlying179⟩
instance : TZ Try.prog 179 (.int .i32 0) := ⟨Try.zeroValue179⟩
instance : TZL Try.prog 179 [.int .i32 0] := ⟨_, Try.zeroValue179, rfl⟩
instance : TIn Try.prog 179 1 4 (.int .i32 0) := ⟨_, rfl, rfl, rfl, rfl, rfl, by decide⟩
instance : TSz Try.prog 180 11 := ⟨Try.sizeOf180⟩
instance : TAgg Try.prog 180 true := ⟨Try.isAgg180⟩
instance : TPl Try.prog 180 [(0, 1), (1, 1), (2, 1), (3, 1), (4, 1), (5, 1), (6, 1), (7, 1), (8, 1), (9, 1), (10, 1)] := ⟨_, Try.underlying180, fun w => by simp [List.mapM_cons]⟩
instance : TFd Try.prog 180 0 0 12 := ⟨_, _, Try.underlying180, rfl, rfl, rfl, fun w => ⟨0, Try.sizeOf12 w⟩⟩
instance : TFd Try.prog 180 1 1 12 := ⟨_, _, Try.underlying180, rfl, rfl, rfl, fun w => ⟨0, Try.sizeOf12 w⟩⟩
instance : TFd Try.prog 180 2 2 155 := ⟨_, _, Try.underlying180, rfl, rfl, rfl, fun w => ⟨0, Try.sizeOf155 w⟩⟩
instance : TFd Try.prog 180 3 3 174 := ⟨_, _, Try.underlying180, rfl, rfl, rfl, fun w => ⟨0, Try.sizeOf174 w⟩⟩
instance : TFd Try.prog 180 4 4 5 := ⟨_, _, Try.underlying180, rfl, rfl, rfl, fun w => ⟨0, Try.sizeOf5 w⟩⟩
instance : TFd Try.prog 180 5 5 5 := ⟨_, _, Try.underlying180, rfl, rfl, rfl, fun w => ⟨0, Try.sizeOf5 w⟩⟩
instance : TFd Try.prog 180 6 6 175 := ⟨_, _, Try.underlying180, rfl, rfl, rfl, fun w => ⟨0, Try.sizeOf175 w⟩⟩
instance : TFd Try.prog 180 7 7 176 := ⟨_, _, Try.underlying180, rfl, rfl, rfl, fun w => ⟨0, Try.sizeOf176 w⟩⟩
instance : TFd Try.prog 180 8 8 177 := ⟨_, _, Try.underlying180, rfl, rfl, rfl, fun w => ⟨0, Try.sizeOf177 w⟩⟩
instance : TFd Try.prog 180 9 9 178 := ⟨_, _, Try.underlying180, rfl, rfl, rfl, fun w => ⟨0, Try.sizeOf178 w⟩⟩
instance : TFd Try.prog 180 10 10 179 := ⟨_, _, Try.underlying180, rfl, rfl, rfl, fun w => ⟨0, Try.sizeOf179 w⟩⟩
instance : TZ Try.prog 180 (.agg #[.int .u64 0, .int .u64 0, .int .u32 0, .int .u8 0, .int .u8 0, .int .u8 0, .int .u8 0, .nilFunc, .pointer none, .int .i32 0, .int .i32 0]) := ⟨Try.zeroValue180⟩
instance : TZL Try.prog 180 [.int .u64 0, .int .u64 0, .int .u32 0, .int .u8 0, .int .u8 0, .int .u8 0, .int .u8 0, .nilFunc, .pointer none, .int .i32 0, .int .i32 0] := ⟨_, Try.zeroValue180, rfl⟩
instance : TIn Try.prog 180 11 48 (.agg #[.int .u64 0, .int .u64 0, .int .u32 0, .int .u8 0, .int .u8 0, .int .u8 0, .int .u8 0, .nilFunc, .pointer none, .int .i32 0, .int .i32 0]) := ⟨_, rfl, rfl, rfl, rfl, rfl, by decide⟩
instance : TSz Try.prog 181 11 := ⟨Try.sizeOf181⟩
instance : TAgg Try.prog 181 true := ⟨Try.isAgg181⟩
instance : TPl Try.prog 181 [(0, 1), (1, 1), (2, 1), (3, 1), (4, 1), (5, 1), (6, 1), (7, 1), (8, 1), (9, 1), (10, 1)] := ⟨_, Try.underlying181, fun w => by simp [List.mapM_cons]⟩
instance : TFd Try.prog 181 0 0 12 := ⟨_, _, Try.underlying181, rfl, rfl, rfl, fun w => ⟨0, Try.sizeOf12 w⟩⟩
instance : TFd Try.prog 181 1 1 12 := ⟨_, _, Try.underlying181, rfl, rfl, rfl, fun w => ⟨0, Try.sizeOf12 w⟩⟩
instance : TFd Try.prog 181 2 2 155 := ⟨_, _, Try.underlying181, rfl, rfl, rfl, fun w => ⟨0, Try.sizeOf155 w⟩⟩
instance : TFd Try.prog 181 3 3 174 := ⟨_, _, Try.underlying181, rfl, rfl, rfl, fun w => ⟨0, Try.sizeOf174 w⟩⟩
instance : TFd Try.prog 181 4 4 5 := ⟨_, _, Try.underlying181, rfl, rfl, rfl, fun w => ⟨0, Try.sizeOf5 w⟩⟩
instance : TFd Try.prog 181 5 5 5 := ⟨_, _, Try.underlying181, rfl, rfl, rfl, fun w => ⟨0, Try.sizeOf5 w⟩⟩
instance : TFd Try.prog 181 6 6 175 := ⟨_, _, Try.underlying181, rfl, rfl, rfl, fun w => ⟨0, Try.sizeOf175 w⟩⟩
instance : TFd Try.prog 181 7 7 176 := ⟨_, _, Try.underlying181, rfl, rfl, rfl, fun w => ⟨0, Try.sizeOf176 w⟩⟩
instance : TFd Try.prog 181 8 8 177 := ⟨_, _, Try.underlying181, rfl, rfl, rfl, fun w => ⟨0, Try.sizeOf177 w⟩⟩
instance : TFd Try.prog 181 9 9 178 := ⟨_, _, Try.underlying181, rfl, rfl, rfl, fun w => ⟨0, Try.sizeOf178 w⟩⟩
instance : TFd Try.prog 181 10 10 179 := ⟨_, _, Try.underlying181, rfl, rfl, rfl, fun w => ⟨0, Try.sizeOf179 w⟩⟩
instance : TZ Try.prog 181 (.agg #[.int .u64 0, .int .u64 0, .int .u32 0, .int .u8 0, .int .u8 0, .int .u8 0, .int .u8 0, .nilFunc, .pointer none, .int .i32 0, .int .i32 0]) := ⟨Try.zeroValue181⟩
instance : TZL Try.prog 181 [.int .u64 0, .int .u64 0, .int .u32 0, .int .u8 0, .int .u8 0, .int .u8 0, .int .u8 0, .nilFunc, .pointer none, .int .i32 0, .int .i32 0] := ⟨_, Try.zeroValue181, rfl⟩
instance : TIn Try.prog 181 11 48 (.agg #[.int .u64 0, .int .u64 0, .int .u32 0, .int .u8 0, .int .u8 0, .int .u8 0, .int .u8 0, .nilFunc, .pointer none, .int .i32 0, .int .i32 0]) := ⟨_, rfl, rfl, rfl, rfl, rfl, by decide⟩
instance : TSz Try.prog 182 1 := ⟨Try.sizeOf182⟩
instance : TAgg Try.prog 182 false := ⟨Try.isAgg182⟩
instance : TFn Try.prog 3 := ⟨Try.call3⟩
instance : TBody Try.prog 3 Try.f3 (Try.f3.body.getD .skip) 169 := ⟨Try.func3, rfl, Try.ntmps3⟩
instance : TFn Try.prog 4 := ⟨Try.call4⟩
instance : TBody Try.prog 4 Try.f4 (Try.f4.body.getD .skip) 177 := ⟨Try.func4, rfl, Try.ntmps4⟩
instance : TFn Try.prog 5 := ⟨Try.call5⟩
instance : TBody Try.prog 5 Try.f5 (Try.f5.body.getD .skip) 48 := ⟨Try.func5, rfl, Try.ntmps5⟩
instance : TFn Try.prog 6 := ⟨Try.call6⟩
instance : TBody Try.prog 6 Try.f6 (Try.f6.body.getD .skip) 42 := ⟨Try.func6, rfl, Try.ntmps6⟩
instance : TFn Try.prog 7 := ⟨Try.call7⟩
instance : TBody Try.prog 7 Try.f7 (Try.f7.body.getD .skip) 150 := ⟨Try.func7, rfl, Try.ntmps7⟩
instance : TFn Try.prog 8 := ⟨Try.call8⟩
instance : TBody Try.prog 8 Try.f8 (Try.f8.body.getD .skip) 10 := ⟨Try.func8, rfl, Try.ntmps8⟩
instance : TFn Try.prog 9 := ⟨Try.call9⟩
instance : TBody Try.prog 9 Try.f9 (Try.f9.body.getD .skip) 87 := ⟨Try.func9, rfl, Try.ntmps9⟩
instance : TFn Try.prog 10 := ⟨Try.call10⟩
instance : TBody Try.prog 10 Try.f10 (Try.f10.body.getD .skip) 55 := ⟨Try.func10, rfl, Try.ntmps10⟩
instance : TFn Try.prog 11 := ⟨Try.call11⟩
instance : TBody Try.prog 11 Try.f11 (Try.f11.body.getD .skip) 89 := ⟨Try.func11, rfl, Try.ntmps11⟩
instance : TFn Try.prog 12 := ⟨Try.call12⟩
instance : TBody Try.prog 12 Try.f12 (Try.f12.body.getD .skip) 85 := ⟨Try.func12, rfl, Try.ntmps12⟩
instance : TFn Try.prog 13 := ⟨Try.call13⟩
instance : TBody Try.prog 13 Try.f13 (Try.f13.body.getD .skip) 26 := ⟨Try.func13, rfl, Try.ntmps13⟩
instance : TFn Try.prog 14 := ⟨Try.call14⟩
instance : TBody Try.prog 14 Try.f14 (Try.f14.body.getD .skip) 27 := ⟨Try.func14, rfl, Try.ntmps14⟩
instance : TFn Try.prog 15 := ⟨Try.call15⟩
instance : TBody Try.prog 15 Try.f15 (Try.f15.body.getD .skip) 62 := ⟨Try.func15, rfl, Try.ntmps15⟩
instance : TFn Try.prog 16 := ⟨Try.call16⟩
instance : TBody Try.prog 16 Try.f16 (Try.f16.body.getD .skip) 205 := ⟨Try.func16, rfl, Try.ntmps16⟩
instance : TFn Try.prog 17 := ⟨Try.call17⟩
instance : TBody Try.prog 17 Try.f17 (Try.f17.body.getD .skip) 36 := ⟨Try.func17, rfl, Try.ntmps17⟩
instance : TFn Try.prog 18 := ⟨Try.call18⟩
instance : TBody Try.prog 18 Try.f18 (Try.f18.body.getD .skip) 36 := ⟨Try.func18, rfl, Try.ntmps18⟩
instance : TFn Try.prog 19 := ⟨Try.call19⟩
instance : TBody Try.prog 19 Try.f19 (Try.f19.body.getD .skip) 52 := ⟨Try.func19, rfl, Try.ntmps19⟩
instance : TFn Try.prog 20 := ⟨Try.call20⟩
instance : TBody Try.prog 20 Try.f20 (Try.f20.body.getD .skip) 32 := ⟨Try.func20, rfl, Try.ntmps20⟩
instance : TFn Try.prog 21 := ⟨Try.call21⟩
instance : TBody Try.prog 21 Try.f21 (Try.f21.body.getD .skip) 77 := ⟨Try.func21, rfl, Try.ntmps21⟩
instance : TFn Try.prog 22 := ⟨Try.call22⟩
instance : TBody Try.prog 22 Try.f22 (Try.f22.body.getD .skip) 106 := ⟨Try.func22, rfl, Try.ntmps22⟩
instance : TFn Try.prog 23 := ⟨Try.call23⟩
instance : TBody Try.prog 23 Try.f23 (Try.f23.body.getD .skip) 53 := ⟨Try.func23, rfl, Try.ntmps23⟩
instance : TFn Try.prog 24 := ⟨Try.call24⟩
instance : TBody Try.prog 24 Try.f24 (Try.f24.body.getD .skip) 178 := ⟨Try.func24, rfl, Try.ntmps24⟩
instance : TFn Try.prog 25 := ⟨Try.call25⟩
instance : TBody Try.prog 25 Try.f25 (Try.f25.body.getD .skip) 7 := ⟨Try.func25, rfl, Try.ntmps25⟩
instance : TFn Try.prog 26 := ⟨Try.call26⟩
instance : TBody Try.prog 26 Try.f26 (Try.f26.body.getD .skip) 12 := ⟨Try.func26, rfl, Try.ntmps26⟩
instance : TFn Try.prog 27 := ⟨Try.call27⟩
instance : TBody Try.prog 27 Try.f27 (Try.f27.body.getD .skip) 58 := ⟨Try.func27, rfl, Try.ntmps27⟩
instance : TFn Try.prog 28 := ⟨Try.call28⟩
instance : TBody Try.prog 28 Try.f28 (Try.f28.body.getD .skip) 55 := ⟨Try.func28, rfl, Try.ntmps28⟩
instance : TFn Try.prog 29 := ⟨Try.call29⟩
instance : TBody Try.prog 29 Try.f29 (Try.f29.body.getD .skip) 53 := ⟨Try.func29, rfl, Try.ntmps29⟩
instance : TFn Try.prog 30 := ⟨Try.call30⟩
instance : TBody Try.prog 30 Try.f30 (Try.f30.body.getD .skip) 66 := ⟨Try.func30, rfl, Try.ntmps30⟩
instance : TFn Try.prog 31 := ⟨Try.call31⟩
instance : TBody Try.prog 31 Try.f31 (Try.f31.body.getD .skip) 9 := ⟨Try.func31, rfl, Try.ntmps31⟩
instance : TFn Try.prog 32 := ⟨Try.call32⟩
instance : TBody Try.prog 32 Try.f32 (Try.f32.body.getD .skip) 16 := ⟨Try.func32, rfl, Try.ntmps32⟩
instance : TFn Try.prog 33 := ⟨Try.call33⟩
instance : TBody Try.prog 33 Try.f33 (Try.f33.body.getD .skip) 39 := ⟨Try.func33, rfl, Try.ntmps33⟩
instance : TFn Try.prog 34 := ⟨Try.call34⟩
instance : TBody Try.prog 34 Try.f34 (Try.f34.body.getD .skip) 9 := ⟨Try.func34, rfl, Try.ntmps34⟩
instance : TFn Try.prog 35 := ⟨Try.call35⟩
instance : TBody Try.prog 35 Try.f35 (Try.f35.body.getD .skip) 8 := ⟨Try.func35, rfl, Try.ntmps35⟩
instance : TFn Try.prog 36 := ⟨Try.call36⟩
instance : TBody Try.prog 36 Try.f36 (Try.f36.body.getD .skip) 20 := ⟨Try.func36, rfl, Try.ntmps36⟩
instance : TFn Try.prog 37 := ⟨Try.call37⟩
instance : TBody Try.prog 37 Try.f37 (Try.f37.body.getD .skip) 22 := ⟨Try.func37, rfl, Try.ntmps37⟩
instance : TFn Try.prog 38 := ⟨Try.call38⟩
instance : TBody Try.prog 38 Try.f38 (Try.f38.body.getD .skip) 82 := ⟨Try.func38, rfl, Try.ntmps38⟩
instance : TFn Try.prog 39 := ⟨Try.call39⟩
instance : TBody Try.prog 39 Try.f39 (Try.f39.body.getD .skip) 35 := ⟨Try.func39, rfl, Try.ntmps39⟩
instance : TFn Try.prog 40 := ⟨Try.call40⟩
instance : TBody Try.prog 40 Try.f40 (Try.f40.body.getD .skip) 69 := ⟨Try.func40, rfl, Try.ntmps40⟩
instance : TFn Try.prog 41 := ⟨Try.call41⟩
instance : TBody Try.prog 41 Try.f41 (Try.f41.body.getD .skip) 54 := ⟨Try.func41, rfl, Try.ntmps41⟩
instance : TFn Try.prog 42 := ⟨Try.call42⟩
instance : TBody Try.prog 42 Try.f42 (Try.f42.body.getD .skip) 186 := ⟨Try.func42, rfl, Try.ntmps42⟩
instance : TFn Try.prog 43 := ⟨Try.call43⟩
instance : TBody Try.prog 43 Try.f43 (Try.f43.body.getD .skip) 42 := ⟨Try.func43, rfl, Try.ntmps43⟩
instance : TFn Try.prog 44 := ⟨Try.call44⟩
instance : TBody Try.prog 44 Try.f44 (Try.f44.body.getD .skip) 13 := ⟨Try.func44, rfl, Try.ntmps44⟩
instance : TFn Try.prog 45 := ⟨Try.call45⟩
instance : TBody Try.prog 45 Try.f45 (Try.f45.body.getD .skip) 8 := ⟨Try.func45, rfl, Try.ntmps45⟩
instance : TFn Try.prog 46 := ⟨Try.call46⟩
instance : TBody Try.prog 46 Try.f46 (Try.f46.body.getD .skip) 30 := ⟨Try.func46, rfl, Try.ntmps46⟩
instance : TFn Try.prog 47 := ⟨Try.call47⟩
instance : TBody Try.prog 47 Try.f47 (Try.f47.body.getD .skip) 24 := ⟨Try.func47, rfl, Try.ntmps47⟩
instance : TFn Try.prog 48 := ⟨Try.call48⟩
instance : TBody Try.prog 48 Try.f48 (Try.f48.body.getD .skip) 24 := ⟨Try.func48, rfl, Try.ntmps48⟩
instance : TFn Try.prog 49 := ⟨Try.call49⟩
instance : TBody Try.prog 49 Try.f49 (Try.f49.body.getD .skip) 24 := ⟨Try.func49, rfl, Try.ntmps49⟩
instance : TFn Try.prog 50 := ⟨Try.call50⟩
instance : TBody Try.prog 50 Try.f50 (Try.f50.body.getD .skip) 12 := ⟨Try.func50, rfl, Try.ntmps50⟩
instance : TFn Try.prog 51 := ⟨Try.call51⟩
instance : TBody Try.prog 51 Try.f51 (Try.f51.body.getD .skip) 4 := ⟨Try.func51, rfl, Try.ntmps51⟩
instance : TFn Try.prog 52 := ⟨Try.call52⟩
instance : TBody Try.prog 52 Try.f52 (Try.f52.body.getD .skip) 22 := ⟨Try.func52, rfl, Try.ntmps52⟩
instance : TFn Try.prog 53 := ⟨Try.call53⟩
instance : TBody Try.prog 53 Try.f53 (Try.f53.body.getD .skip) 19 := ⟨Try.func53, rfl, Try.ntmps53⟩
instance : TFn Try.prog 54 := ⟨Try.call54⟩
instance : TBody Try.prog 54 Try.f54 (Try.f54.body.getD .skip) 26 := ⟨Try.func54, rfl, Try.ntmps54⟩
instance : TFn Try.prog 55 := ⟨Try.call55⟩
instance : TBody Try.prog 55 Try.f55 (Try.f55.body.getD .skip) 20 := ⟨Try.func55, rfl, Try.ntmps55⟩
instance : TFn Try.prog 56 := ⟨Try.call56⟩
instance : TBody Try.prog 56 Try.f56 (Try.f56.body.getD .skip) 28 := ⟨Try.func56, rfl, Try.ntmps56⟩
instance : TFn Try.prog 57 := ⟨Try.call57⟩
instance : TBody Try.prog 57 Try.f57 (Try.f57.body.getD .skip) 33 := ⟨Try.func57, rfl, Try.ntmps57⟩
instance : TFn Try.prog 58 := ⟨Try.call58⟩
instance : TBody Try.prog 58 Try.f58 (Try.f58.body.getD .skip) 19 := ⟨Try.func58, rfl, Try.ntmps58⟩
instance : TFn Try.prog 59 := ⟨Try.call59⟩
instance : TBody Try.prog 59 Try.f59 (Try.f59.body.getD .skip) 26 := ⟨Try.func59, rfl, Try.ntmps59⟩
instance : TFn Try.prog 60 := ⟨Try.call60⟩
instance : TBody Try.prog 60 Try.f60 (Try.f60.body.getD .skip) 17 := ⟨Try.func60, rfl, Try.ntmps60⟩
instance : TFn Try.prog 61 := ⟨Try.call61⟩
instance : TBody Try.prog 61 Try.f61 (Try.f61.body.getD .skip) 5 := ⟨Try.func61, rfl, Try.ntmps61⟩
instance : TFn Try.prog 62 := ⟨Try.call62⟩
instance : TBody Try.prog 62 Try.f62 (Try.f62.body.getD .skip) 14 := ⟨Try.func62, rfl, Try.ntmps62⟩
instance : TFn Try.prog 63 := ⟨Try.call63⟩
instance : TBody Try.prog 63 Try.f63 (Try.f63.body.getD .skip) 14 := ⟨Try.func63, rfl, Try.ntmps63⟩
instance : TFn Try.prog 64 := ⟨Try.call64⟩
instance : TBody Try.prog 64 Try.f64 (Try.f64.body.getD .skip) 18 := ⟨Try.func64, rfl, Try.ntmps64⟩
instance : TFn Try.prog 65 := ⟨Try.call65⟩
instance : TBody Try.prog 65 Try.f65 (Try.f65.body.getD .skip) 20 := ⟨Try.func65, rfl, Try.ntmps65⟩
instance : TFn Try.prog 66 := ⟨Try.call66⟩
instance : TBody Try.prog 66 Try.f66 (Try.f66.body.getD .skip) 13 := ⟨Try.func66, rfl, Try.ntmps66⟩
instance : TFn Try.prog 67 := ⟨Try.call67⟩
instance : TBody Try.prog 67 Try.f67 (Try.f67.body.getD .skip) 148 := ⟨Try.func67, rfl, Try.ntmps67⟩
instance : TFn Try.prog 68 := ⟨Try.call68⟩
instance : TBody Try.prog 68 Try.f68 (Try.f68.body.getD .skip) 8 := ⟨Try.func68, rfl, Try.ntmps68⟩
instance : TFn Try.prog 69 := ⟨Try.call69⟩
instance : TBody Try.prog 69 Try.f69 (Try.f69.body.getD .skip) 6 := ⟨Try.func69, rfl, Try.ntmps69⟩
instance : TFn Try.prog 70 := ⟨Try.call70⟩
instance : TBody Try.prog 70 Try.f70 (Try.f70.body.getD .skip) 53 := ⟨Try.func70, rfl, Try.ntmps70⟩
instance : TFn Try.prog 71 := ⟨Try.call71⟩
instance : TBody Try.prog 71 Try.f71 (Try.f71.body.getD .skip) 60 := ⟨Try.func71, rfl, Try.ntmps71⟩
instance : TFn Try.prog 72 := ⟨Try.call72⟩
instance : TBody Try.prog 72 Try.f72 (Try.f72.body.getD .skip) 67 := ⟨Try.func72, rfl, Try.ntmps72⟩
instance : TFn Try.prog 73 := ⟨Try.call73⟩
instance : TBody Try.prog 73 Try.f73 (Try.f73.body.getD .skip) 63 := ⟨Try.func73, rfl, Try.ntmps73⟩
instance : TFn Try.prog 74 := ⟨Try.call74⟩
instance : TBody Try.prog 74 Try.f74 (Try.f74.body.getD .skip) 34 := ⟨Try.func74, rfl, Try.ntmps74⟩
instance : TFn Try.prog 75 := ⟨Try.call75⟩
instance : TBody Try.prog 75 Try.f75 (Try.f75.body.getD .skip) 141 := ⟨Try.func75, rfl, Try.ntmps75⟩
instance : TFn Try.prog 76 := ⟨Try.call76⟩
instance : TBody Try.prog 76 Try.f76 (Try.f76.body.getD .skip) 90 := ⟨Try.func76, rfl, Try.ntmps76⟩
instance : TFn Try.prog 77 := ⟨Try.call77⟩
instance : TBody Try.prog 77 Try.f77 (Try.f77.body.getD .skip) 178 := ⟨Try.func77, rfl, Try.ntmps77⟩
instance : TFn Try.prog 78 := ⟨Try.call78⟩
instance : TBody Try.prog 78 Try.f78 (Try.f78.body.getD .skip) 19 := ⟨Try.func78, rfl, Try.ntmps78⟩
instance : TFn Try.prog 79 := ⟨Try.call79⟩
instance : TBody Try.prog 79 Try.f79 (Try.f79.body.getD .skip) 25 := ⟨Try.func79, rfl, Try.ntmps79⟩
instance : TFn Try.prog 80 := ⟨Try.call80⟩
instance : TBody Try.prog 80 Try.f80 (Try.f80.body.getD .skip) 82 := ⟨Try.func80, rfl, Try.ntmps80⟩
instance : TFn Try.prog 81 := ⟨Try.call81⟩
instance : TBody Try.prog 81 Try.f81 (Try.f81.body.getD .skip) 7 := ⟨Try.func81, rfl, Try.ntmps81⟩
instance : TFn Try.prog 82 := ⟨Try.call82⟩
instance : TBody Try.prog 82 Try.f82 (Try.f82.body.getD .skip) 33 := ⟨Try.func82, rfl, Try.ntmps82⟩
instance : TFn Try.prog 83 := ⟨Try.call83⟩
instance : TBody Try.prog 83 Try.f83 (Try.f83.body.getD .skip) 18 := ⟨Try.func83, rfl, Try.ntmps83⟩
instance : TFn Try.prog 84 := ⟨Try.call84⟩
instance : TBody Try.prog 84 Try.f84 (Try.f84.body.getD .skip) 41 := ⟨Try.func84, rfl, Try.ntmps84⟩
instance : TFn Try.prog 85 := ⟨Try.call85⟩
instance : TBody Try.prog 85 Try.f85 (Try.f85.body.getD .skip) 32 := ⟨Try.func85, rfl, Try.ntmps85⟩
instance : TMix Try.prog := ⟨rfl⟩
end Go.Proofs.Ythoafjeampbkeaa
