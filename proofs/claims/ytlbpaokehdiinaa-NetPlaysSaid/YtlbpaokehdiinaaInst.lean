/- Written by program (gen_inst.py) for this seat: what the walk asks of its types and functions. -/
import Derived.Test.YtlbpaokehdiinaaE5
import Derived.Test.YtlbpaokehdiinaaProg
namespace Go.Proofs.Ytlbpaokehdiinaa
open Go Go.Sx Go.Proofs
instance : TSz Try.prog 1 1 := ⟨Try.sizeOf1⟩
instance : TAgg Try.prog 1 false := ⟨Try.isAgg1⟩
instance : TZ Try.prog 1 (.nilFunc) := ⟨Try.zeroValue1⟩
instance : TZL Try.prog 1 [.nilFunc] := ⟨_, Try.zeroValue1, rfl⟩
instance : TIn Try.prog 1 1 8 (.nilFunc) := ⟨_, rfl, rfl, rfl, rfl, rfl, by decide⟩
instance : TSz Try.prog 2 1 := ⟨Try.sizeOf2⟩
instance : TAgg Try.prog 2 false := ⟨Try.isAgg2⟩
instance : TIt Try.prog 2 .i64 := ⟨Try.underlying2⟩
instance : TZ Try.prog 2 (.int .i64 0) := ⟨Try.zeroValue2⟩
instance : TZL Try.prog 2 [.int .i64 0] := ⟨_, Try.zeroValue2, rfl⟩
instance : TIn Try.prog 2 1 8 (.int .i64 0) := ⟨_, rfl, rfl, rfl, rfl, rfl, by decide⟩
instance : TSz Try.prog 3 1 := ⟨Try.sizeOf3⟩
instance : TAgg Try.prog 3 false := ⟨Try.isAgg3⟩
instance : TIt Try.prog 3 .i64 := ⟨Try.underlying3⟩
instance : TZ Try.prog 3 (.int .i64 0) := ⟨Try.zeroValue3⟩
instance : TZL Try.prog 3 [.int .i64 0] := ⟨_, Try.zeroValue3, rfl⟩
instance : TIn Try.prog 3 1 8 (.int .i64 0) := ⟨_, rfl, rfl, rfl, rfl, rfl, by decide⟩
instance : TSz Try.prog 4 1 := ⟨Try.sizeOf4⟩
instance : TAgg Try.prog 4 false := ⟨Try.isAgg4⟩
instance : TBo Try.prog 4 := ⟨Try.underlying4⟩
instance : TZ Try.prog 4 (.bool false) := ⟨Try.zeroValue4⟩
instance : TZL Try.prog 4 [.bool false] := ⟨_, Try.zeroValue4, rfl⟩
instance : TIn Try.prog 4 1 1 (.bool false) := ⟨_, rfl, rfl, rfl, rfl, rfl, by decide⟩
instance : TSz Try.prog 5 1 := ⟨Try.sizeOf5⟩
instance : TAgg Try.prog 5 false := ⟨Try.isAgg5⟩
instance : TIt Try.prog 5 .u8 := ⟨Try.underlying5⟩
instance : TZ Try.prog 5 (.int .u8 0) := ⟨Try.zeroValue5⟩
instance : TZL Try.prog 5 [.int .u8 0] := ⟨_, Try.zeroValue5, rfl⟩
instance : TIn Try.prog 5 1 1 (.int .u8 0) := ⟨_, rfl, rfl, rfl, rfl, rfl, by decide⟩
instance : TSz Try.prog 6 1 := ⟨Try.sizeOf6⟩
instance : TAgg Try.prog 6 false := ⟨Try.isAgg6⟩
instance : TIt Try.prog 6 .u8 := ⟨Try.underlying6⟩
instance : TZ Try.prog 6 (.int .u8 0) := ⟨Try.zeroValue6⟩
instance : TZL Try.prog 6 [.int .u8 0] := ⟨_, Try.zeroValue6, rfl⟩
instance : TIn Try.prog 6 1 1 (.int .u8 0) := ⟨_, rfl, rfl, rfl, rfl, rfl, by decide⟩
instance : TSz Try.prog 7 4 := ⟨Try.sizeOf7⟩
instance : TAgg Try.prog 7 true := ⟨Try.isAgg7⟩
instance : TPl Try.prog 7 [(0, 1), (1, 1), (2, 1), (3, 1)] := ⟨_, Try.underlying7, fun w => by simp [List.mapM_cons]⟩
instance : TFd Try.prog 7 0 0 2 := ⟨_, _, Try.underlying7, rfl, rfl, rfl, fun w => ⟨0, Try.sizeOf2 w⟩⟩
instance : TFd Try.prog 7 1 1 3 := ⟨_, _, Try.underlying7, rfl, rfl, rfl, fun w => ⟨0, Try.sizeOf3 w⟩⟩
instance : TFd Try.prog 7 2 2 4 := ⟨_, _, Try.underlying7, rfl, rfl, rfl, fun w => ⟨0, Try.sizeOf4 w⟩⟩
instance : TFd Try.prog 7 3 3 6 := ⟨_, _, Try.underlying7, rfl, rfl, rfl, fun w => ⟨0, Try.sizeOf6 w⟩⟩
instance : TZ Try.prog 7 (.agg #[.int .i64 0, .int .i64 0, .bool false, .int .u8 0]) := ⟨Try.zeroValue7⟩
instance : TZL Try.prog 7 [.int .i64 0, .int .i64 0, .bool false, .int .u8 0] := ⟨_, Try.zeroValue7, rfl⟩
instance : TIn Try.prog 7 4 24 (.agg #[.int .i64 0, .int .i64 0, .bool false, .int .u8 0]) := ⟨_, rfl, rfl, rfl, rfl, rfl, by decide⟩
instance : TSz Try.prog 8 4 := ⟨Try.sizeOf8⟩
instance : TAgg Try.prog 8 true := ⟨Try.isAgg8⟩
instance : TPl Try.prog 8 [(0, 1), (1, 1), (2, 1), (3, 1)] := ⟨_, Try.underlying8, fun w => by simp [List.mapM_cons]⟩
instance : TFd Try.prog 8 0 0 2 := ⟨_, _, Try.underlying8, rfl, rfl, rfl, fun w => ⟨0, Try.sizeOf2 w⟩⟩
instance : TFd Try.prog 8 1 1 3 := ⟨_, _, Try.underlying8, rfl, rfl, rfl, fun w => ⟨0, Try.sizeOf3 w⟩⟩
instance : TFd Try.prog 8 2 2 4 := ⟨_, _, Try.underlying8, rfl, rfl, rfl, fun w => ⟨0, Try.sizeOf4 w⟩⟩
instance : TFd Try.prog 8 3 3 6 := ⟨_, _, Try.underlying8, rfl, rfl, rfl, fun w => ⟨0, Try.sizeOf6 w⟩⟩
instance : TZ Try.prog 8 (.agg #[.int .i64 0, .int .i64 0, .bool false, .int .u8 0]) := ⟨Try.zeroValue8⟩
instance : TZL Try.prog 8 [.int .i64 0, .int .i64 0, .bool false, .int .u8 0] := ⟨_, Try.zeroValue8, rfl⟩
instance : TIn Try.prog 8 4 24 (.agg #[.int .i64 0, .int .i64 0, .bool false, .int .u8 0]) := ⟨_, rfl, rfl, rfl, rfl, rfl, by decide⟩
instance : TSz Try.prog 9 1 := ⟨Try.sizeOf9⟩
instance : TAgg Try.prog 9 false := ⟨Try.isAgg9⟩
instance : TSt Try.prog 9 := ⟨Try.underlying9⟩
instance : TZ Try.prog 9 (.string ⟨#[]⟩) := ⟨Try.zeroValue9⟩
instance : TZL Try.prog 9 [.string ⟨#[]⟩] := ⟨_, Try.zeroValue9, rfl⟩
instance : TIn Try.prog 9 1 16 (.string ⟨#[]⟩) := ⟨_, rfl, rfl, rfl, rfl, rfl, by decide⟩
instance : TSz Try.prog 10 1 := ⟨Try.sizeOf10⟩
instance : TAgg Try.prog 10 false := ⟨Try.isAgg10⟩
instance : TSt Try.prog 10 := ⟨Try.underlying10⟩
instance : TZ Try.prog 10 (.string ⟨#[]⟩) := ⟨Try.zeroValue10⟩
instance : TZL Try.prog 10 [.string ⟨#[]⟩] := ⟨_, Try.zeroValue10, rfl⟩
instance : TIn Try.prog 10 1 16 (.string ⟨#[]⟩) := ⟨_, rfl, rfl, rfl, rfl, rfl, by decide⟩
instance : TSz Try.prog 11 1 := ⟨Try.sizeOf11⟩
instance : TAgg Try.prog 11 false := ⟨Try.isAgg11⟩
instance : TSt Try.prog 11 := ⟨Try.underlying11⟩
instance : TZ Try.prog 11 (.string ⟨#[]⟩) := ⟨Try.zeroValue11⟩
instance : TZL Try.prog 11 [.string ⟨#[]⟩] := ⟨_, Try.zeroValue11, rfl⟩
instance : TIn Try.prog 11 1 16 (.string ⟨#[]⟩) := ⟨_, rfl, rfl, rfl, rfl, rfl, by decide⟩
instance : TSz Try.prog 12 1 := ⟨Try.sizeOf12⟩
instance : TAgg Try.prog 12 false := ⟨Try.isAgg12⟩
instance : TIt Try.prog 12 .u64 := ⟨Try.underlying12⟩
instance : TZ Try.prog 12 (.int .u64 0) := ⟨Try.zeroValue12⟩
instance : TZL Try.prog 12 [.int .u64 0] := ⟨_, Try.zeroValue12, rfl⟩
instance : TIn Try.prog 12 1 8 (.int .u64 0) := ⟨_, rfl, rfl, rfl, rfl, rfl, by decide⟩
instance : TSz Try.prog 13 2 := ⟨Try.sizeOf13⟩
instance : TAgg Try.prog 13 true := ⟨Try.isAgg13⟩
instance : TPl Try.prog 13 [(0, 1), (1, 1)] := ⟨_, Try.underlying13, fun w => by simp [List.mapM_cons]⟩
instance : TFd Try.prog 13 0 0 9 := ⟨_, _, Try.underlying13, rfl, rfl, rfl, fun w => ⟨0, Try.sizeOf9 w⟩⟩
instance : TFd Try.prog 13 1 1 12 := ⟨_, _, Try.underlying13, rfl, rfl, rfl, fun w => ⟨0, Try.sizeOf12 w⟩⟩
instance : TZ Try.prog 13 (.agg #[.string ⟨#[]⟩, .int .u64 0]) := ⟨Try.zeroValue13⟩
instance : TZL Try.prog 13 [.string ⟨#[]⟩, .int .u64 0] := ⟨_, Try.zeroValue13, rfl⟩
instance : TIn Try.prog 13 2 24 (.agg #[.string ⟨#[]⟩, .int .u64 0]) := ⟨_, rfl, rfl, rfl, rfl, rfl, by decide⟩
instance : TSz Try.prog 14 2 := ⟨Try.sizeOf14⟩
instance : TAgg Try.prog 14 true := ⟨Try.isAgg14⟩
instance : TPl Try.prog 14 [(0, 1), (1, 1)] := ⟨_, Try.underlying14, fun w => by simp [List.mapM_cons]⟩
instance : TFd Try.prog 14 0 0 9 := ⟨_, _, Try.underlying14, rfl, rfl, rfl, fun w => ⟨0, Try.sizeOf9 w⟩⟩
instance : TFd Try.prog 14 1 1 12 := ⟨_, _, Try.underlying14, rfl, rfl, rfl, fun w => ⟨0, Try.sizeOf12 w⟩⟩
instance : TZ Try.prog 14 (.agg #[.string ⟨#[]⟩, .int .u64 0]) := ⟨Try.zeroValue14⟩
instance : TZL Try.prog 14 [.string ⟨#[]⟩, .int .u64 0] := ⟨_, Try.zeroValue14, rfl⟩
instance : TIn Try.prog 14 2 24 (.agg #[.string ⟨#[]⟩, .int .u64 0]) := ⟨_, rfl, rfl, rfl, rfl, rfl, by decide⟩
instance : TSz Try.prog 15 1 := ⟨Try.sizeOf15⟩
instance : TAgg Try.prog 15 false := ⟨Try.isAgg15⟩
instance : TPt Try.prog 15 := ⟨_, Try.underlying15⟩
instance : TZ Try.prog 15 (.pointer none) := ⟨Try.zeroValue15⟩
instance : TZL Try.prog 15 [.pointer none] := ⟨_, Try.zeroValue15, rfl⟩
instance : TIn Try.prog 15 1 8 (.pointer none) := ⟨_, rfl, rfl, rfl, rfl, rfl, by decide⟩
instance : TSz Try.prog 16 1 := ⟨Try.sizeOf16⟩
instance : TAgg Try.prog 16 false := ⟨Try.isAgg16⟩
instance : TPt Try.prog 16 := ⟨_, Try.underlying16⟩
instance : TZ Try.prog 16 (.pointer none) := ⟨Try.zeroValue16⟩
instance : TZL Try.prog 16 [.pointer none] := ⟨_, Try.zeroValue16, rfl⟩
instance : TIn Try.prog 16 1 8 (.pointer none) := ⟨_, rfl, rfl, rfl, rfl, rfl, by decide⟩
instance : TSz Try.prog 17 1 := ⟨Try.sizeOf17⟩
instance : TAgg Try.prog 17 false := ⟨Try.isAgg17⟩
instance : TPt Try.prog 17 := ⟨_, Try.underlying17⟩
instance : TZ Try.prog 17 (.pointer none) := ⟨Try.zeroValue17⟩
instance : TZL Try.prog 17 [.pointer none] := ⟨_, Try.zeroValue17, rfl⟩
instance : TIn Try.prog 17 1 8 (.pointer none) := ⟨_, rfl, rfl, rfl, rfl, rfl, by decide⟩
instance : TSz Try.prog 18 1 := ⟨Try.sizeOf18⟩
instance : TAgg Try.prog 18 true := ⟨Try.isAgg18⟩
instance : TPl Try.prog 18 [(0, 1)] := ⟨_, Try.underlying18, fun w => by simp [List.mapM_cons]⟩
instance : TFd Try.prog 18 0 0 17 := ⟨_, _, Try.underlying18, rfl, rfl, rfl, fun w => ⟨0, Try.sizeOf17 w⟩⟩
instance : TZ Try.prog 18 (.agg #[.pointer none]) := ⟨Try.zeroValue18⟩
instance : TZL Try.prog 18 [.pointer none] := ⟨_, Try.zeroValue18, rfl⟩
instance : TIn Try.prog 18 1 8 (.agg #[.pointer none]) := ⟨_, rfl, rfl, rfl, rfl, rfl, by decide⟩
instance : TSz Try.prog 19 1 := ⟨Try.sizeOf19⟩
instance : TAgg Try.prog 19 true := ⟨Try.isAgg19⟩
instance : TPl Try.prog 19 [(0, 1)] := ⟨_, Try.underlying19, fun w => by simp [List.mapM_cons]⟩
instance : TFd Try.prog 19 0 0 17 := ⟨_, _, Try.underlying19, rfl, rfl, rfl, fun w => ⟨0, Try.sizeOf17 w⟩⟩
instance : TZ Try.prog 19 (.agg #[.pointer none]) := ⟨Try.zeroValue19⟩
instance : TZL Try.prog 19 [.pointer none] := ⟨_, Try.zeroValue19, rfl⟩
instance : TIn Try.prog 19 1 8 (.agg #[.pointer none]) := ⟨_, rfl, rfl, rfl, rfl, rfl, by decide⟩
instance : TSz Try.prog 20 1 := ⟨Try.sizeOf20⟩
instance : TAgg Try.prog 20 false := ⟨Try.isAgg20⟩
instance : TZ Try.prog 20 (.nilIface) := ⟨Try.zeroValue20⟩
instance : TZL Try.prog 20 [.nilIface] := ⟨_, Try.zeroValue20, rfl⟩
instance : TIn Try.prog 20 1 16 (.nilIface) := ⟨_, rfl, rfl, rfl, rfl, rfl, by decide⟩
instance : TSz Try.prog 21 1 := ⟨Try.sizeOf21⟩
instance : TAgg Try.prog 21 false := ⟨Try.isAgg21⟩
instance : TIt Try.prog 21 .i32 := ⟨Try.underlying21⟩
instance : TZ Try.prog 21 (.int .i32 0) := ⟨Try.zeroValue21⟩
instance : TZL Try.prog 21 [.int .i32 0] := ⟨_, Try.zeroValue21, rfl⟩
instance : TIn Try.prog 21 1 4 (.int .i32 0) := ⟨_, rfl, rfl, rfl, rfl, rfl, by decide⟩
instance : TSz Try.prog 22 1 := ⟨Try.sizeOf22⟩
instance : TAgg Try.prog 22 false := ⟨Try.isAgg22⟩
instance : TSl Try.prog 22 3 := ⟨Try.underlying22⟩
instance : TZ Try.prog 22 (.slice none 0 0) := ⟨Try.zeroValue22⟩
instance : TZL Try.prog 22 [.slice none 0 0] := ⟨_, Try.zeroValue22, rfl⟩
instance : TIn Try.prog 22 1 24 (.slice none 0 0) := ⟨_, rfl, rfl, rfl, rfl, rfl, by decide⟩
instance : TSz Try.prog 23 1 := ⟨Try.sizeOf23⟩
instance : TAgg Try.prog 23 false := ⟨Try.isAgg23⟩
instance : TPt Try.prog 23 := ⟨_, Try.underlying23⟩
instance : TZ Try.prog 23 (.pointer none) := ⟨Try.zeroValue23⟩
instance : TZL Try.prog 23 [.pointer none] := ⟨_, Try.zeroValue23, rfl⟩
instance : TIn Try.prog 23 1 8 (.pointer none) := ⟨_, rfl, rfl, rfl, rfl, rfl, by decide⟩
instance : TSz Try.prog 24 1 := ⟨Try.sizeOf24⟩
instance : TAgg Try.prog 24 false := ⟨Try.isAgg24⟩
instance : TZ Try.prog 24 (.nilFunc) := ⟨Try.zeroValue24⟩
instance : TZL Try.prog 24 [.nilFunc] := ⟨_, Try.zeroValue24, rfl⟩
instance : TIn Try.prog 24 1 8 (.nilFunc) := ⟨_, rfl, rfl, rfl, rfl, rfl, by decide⟩
instance : TSz Try.prog 25 1 := ⟨Try.sizeOf25⟩
instance : TAgg Try.prog 25 false := ⟨Try.isAgg25⟩
instance : TZ Try.prog 25 (.nilFunc) := ⟨Try.zeroValue25⟩
instance : TZL Try.prog 25 [.nilFunc] := ⟨_, Try.zeroValue25, rfl⟩
instance : TIn Try.prog 25 1 8 (.nilFunc) := ⟨_, rfl, rfl, rfl, rfl, rfl, by decide⟩
instance : TSz Try.prog 26 1 := ⟨Try.sizeOf26⟩
instance : TAgg Try.prog 26 false := ⟨Try.isAgg26⟩
instance : TIt Try.prog 26 .i64 := ⟨Try.underlying26⟩
instance : TZ Try.prog 26 (.int .i64 0) := ⟨Try.zeroValue26⟩
instance : TZL Try.prog 26 [.int .i64 0] := ⟨_, Try.zeroValue26, rfl⟩
instance : TIn Try.prog 26 1 8 (.int .i64 0) := ⟨_, rfl, rfl, rfl, rfl, rfl, by decide⟩
instance : TSz Try.prog 27 1 := ⟨Try.sizeOf27⟩
instance : TAgg Try.prog 27 false := ⟨Try.isAgg27⟩
instance : TZ Try.prog 27 (.nilFunc) := ⟨Try.zeroValue27⟩
instance : TZL Try.prog 27 [.nilFunc] := ⟨_, Try.zeroValue27, rfl⟩
instance : TIn Try.prog 27 1 8 (.nilFunc) := ⟨_, rfl, rfl, rfl, rfl, rfl, by decide⟩
instance : TSz Try.prog 28 1 := ⟨Try.sizeOf28⟩
instance : TAgg Try.prog 28 false := ⟨Try.isAgg28⟩
instance : TIt Try.prog 28 .i64 := ⟨Try.underlying28⟩
instance : TZ Try.prog 28 (.int .i64 0) := ⟨Try.zeroValue28⟩
instance : TZL Try.prog 28 [.int .i64 0] := ⟨_, Try.zeroValue28, rfl⟩
instance : TIn Try.prog 28 1 8 (.int .i64 0) := ⟨_, rfl, rfl, rfl, rfl, rfl, by decide⟩
instance : TSz Try.prog 29 3 := ⟨Try.sizeOf29⟩
instance : TAgg Try.prog 29 true := ⟨Try.isAgg29⟩
instance : TPl Try.prog 29 [(0, 1), (1, 1), (2, 1)] := ⟨_, Try.underlying29, fun w => by simp [List.mapM_cons]⟩
instance : TFd Try.prog 29 0 0 3 := ⟨_, _, Try.underlying29, rfl, rfl, rfl, fun w => ⟨0, Try.sizeOf3 w⟩⟩
instance : TFd Try.prog 29 1 1 3 := ⟨_, _, Try.underlying29, rfl, rfl, rfl, fun w => ⟨0, Try.sizeOf3 w⟩⟩
instance : TFd Try.prog 29 2 2 3 := ⟨_, _, Try.underlying29, rfl, rfl, rfl, fun w => ⟨0, Try.sizeOf3 w⟩⟩
instance : TZ Try.prog 29 (.agg #[.int .i64 0, .int .i64 0, .int .i64 0]) := ⟨Try.zeroValue29⟩
instance : TZL Try.prog 29 [.int .i64 0, .int .i64 0, .int .i64 0] := ⟨_, Try.zeroValue29, rfl⟩
instance : TIn Try.prog 29 3 24 (.agg #[.int .i64 0, .int .i64 0, .int .i64 0]) := ⟨_, rfl, rfl, rfl, rfl, rfl, by decide⟩
instance : TSz Try.prog 30 3 := ⟨Try.sizeOf30⟩
instance : TAgg Try.prog 30 true := ⟨Try.isAgg30⟩
instance : TPl Try.prog 30 [(0, 1), (1, 1), (2, 1)] := ⟨_, Try.underlying30, fun w => by simp [List.mapM_cons]⟩
instance : TFd Try.prog 30 0 0 3 := ⟨_, _, Try.underlying30, rfl, rfl, rfl, fun w => ⟨0, Try.sizeOf3 w⟩⟩
instance : TFd Try.prog 30 1 1 3 := ⟨_, _, Try.underlying30, rfl, rfl, rfl, fun w => ⟨0, Try.sizeOf3 w⟩⟩
instance : TFd Try.prog 30 2 2 3 := ⟨_, _, Try.underlying30, rfl, rfl, rfl, fun w => ⟨0, Try.sizeOf3 w⟩⟩
instance : TZ Try.prog 30 (.agg #[.int .i64 0, .int .i64 0, .int .i64 0]) := ⟨Try.zeroValue30⟩
instance : TZL Try.prog 30 [.int .i64 0, .int .i64 0, .int .i64 0] := ⟨_, Try.zeroValue30, rfl⟩
instance : TIn Try.prog 30 3 24 (.agg #[.int .i64 0, .int .i64 0, .int .i64 0]) := ⟨_, rfl, rfl, rfl, rfl, rfl, by decide⟩
instance : TSz Try.prog 31 1 := ⟨Try.sizeOf31⟩
instance : TAgg Try.prog 31 false := ⟨Try.isAgg31⟩
instance : TSl Try.prog 31 9 := ⟨Try.underlying31⟩
instance : TZ Try.prog 31 (.slice none 0 0) := ⟨Try.zeroValue31⟩
instance : TZL Try.prog 31 [.slice none 0 0] := ⟨_, Try.zeroValue31, rfl⟩
instance : TIn Try.prog 31 1 24 (.slice none 0 0) := ⟨_, rfl, rfl, rfl, rfl, rfl, by decide⟩
instance : TSz Try.prog 32 3 := ⟨Try.sizeOf32⟩
instance : TAgg Try.prog 32 true := ⟨Try.isAgg32⟩
instance : TPl Try.prog 32 [(0, 1), (1, 1), (2, 1)] := ⟨_, Try.underlying32, fun w => by simp [List.mapM_cons]⟩
instance : TFd Try.prog 32 0 0 3 := ⟨_, _, Try.underlying32, rfl, rfl, rfl, fun w => ⟨0, Try.sizeOf3 w⟩⟩
instance : TFd Try.prog 32 1 1 31 := ⟨_, _, Try.underlying32, rfl, rfl, rfl, fun w => ⟨0, Try.sizeOf31 w⟩⟩
instance : TFd Try.prog 32 2 2 31 := ⟨_, _, Try.underlying32, rfl, rfl, rfl, fun w => ⟨0, Try.sizeOf31 w⟩⟩
instance : TZ Try.prog 32 (.agg #[.int .i64 0, .slice none 0 0, .slice none 0 0]) := ⟨Try.zeroValue32⟩
instance : TZL Try.prog 32 [.int .i64 0, .slice none 0 0, .slice none 0 0] := ⟨_, Try.zeroValue32, rfl⟩
instance : TIn Try.prog 32 3 56 (.agg #[.int .i64 0, .slice none 0 0, .slice none 0 0]) := ⟨_, rfl, rfl, rfl, rfl, rfl, by decide⟩
instance : TSz Try.prog 33 3 := ⟨Try.sizeOf33⟩
instance : TAgg Try.prog 33 true := ⟨Try.isAgg33⟩
instance : TPl Try.prog 33 [(0, 1), (1, 1), (2, 1)] := ⟨_, Try.underlying33, fun w => by simp [List.mapM_cons]⟩
instance : TFd Try.prog 33 0 0 3 := ⟨_, _, Try.underlying33, rfl, rfl, rfl, fun w => ⟨0, Try.sizeOf3 w⟩⟩
instance : TFd Try.prog 33 1 1 31 := ⟨_, _, Try.underlying33, rfl, rfl, rfl, fun w => ⟨0, Try.sizeOf31 w⟩⟩
instance : TFd Try.prog 33 2 2 31 := ⟨_, _, Try.underlying33, rfl, rfl, rfl, fun w => ⟨0, Try.sizeOf31 w⟩⟩
instance : TZ Try.prog 33 (.agg #[.int .i64 0, .slice none 0 0, .slice none 0 0]) := ⟨Try.zeroValue33⟩
instance : TZL Try.prog 33 [.int .i64 0, .slice none 0 0, .slice none 0 0] := ⟨_, Try.zeroValue33, rfl⟩
instance : TIn Try.prog 33 3 56 (.agg #[.int .i64 0, .slice none 0 0, .slice none 0 0]) := ⟨_, rfl, rfl, rfl, rfl, rfl, by decide⟩
instance : TSz Try.prog 34 1 := ⟨Try.sizeOf34⟩
instance : TAgg Try.prog 34 false := ⟨Try.isAgg34⟩
instance : TIt Try.prog 34 .i64 := ⟨Try.underlying34⟩
instance : TZ Try.prog 34 (.int .i64 0) := ⟨Try.zeroValue34⟩
instance : TZL Try.prog 34 [.int .i64 0] := ⟨_, Try.zeroValue34, rfl⟩
instance : TIn Try.prog 34 1 8 (.int .i64 0) := ⟨_, rfl, rfl, rfl, rfl, rfl, by decide⟩
instance : TSz Try.prog 35 2 := ⟨Try.sizeOf35⟩
instance : TAgg Try.prog 35 true := ⟨Try.isAgg35⟩
instance : TPl Try.prog 35 [(0, 1), (1, 1)] := ⟨_, Try.underlying35, fun w => by simp [List.mapM_cons]⟩
instance : TFd Try.prog 35 0 0 3 := ⟨_, _, Try.underlying35, rfl, rfl, rfl, fun w => ⟨0, Try.sizeOf3 w⟩⟩
instance : TFd Try.prog 35 1 1 22 := ⟨_, _, Try.underlying35, rfl, rfl, rfl, fun w => ⟨0, Try.sizeOf22 w⟩⟩
instance : TZ Try.prog 35 (.agg #[.int .i64 0, .slice none 0 0]) := ⟨Try.zeroValue35⟩
instance : TZL Try.prog 35 [.int .i64 0, .slice none 0 0] := ⟨_, Try.zeroValue35, rfl⟩
instance : TIn Try.prog 35 2 32 (.agg #[.int .i64 0, .slice none 0 0]) := ⟨_, rfl, rfl, rfl, rfl, rfl, by decide⟩
instance : TSz Try.prog 36 2 := ⟨Try.sizeOf36⟩
instance : TAgg Try.prog 36 true := ⟨Try.isAgg36⟩
instance : TPl Try.prog 36 [(0, 1), (1, 1)] := ⟨_, Try.underlying36, fun w => by simp [List.mapM_cons]⟩
instance : TFd Try.prog 36 0 0 3 := ⟨_, _, Try.underlying36, rfl, rfl, rfl, fun w => ⟨0, Try.sizeOf3 w⟩⟩
instance : TFd Try.prog 36 1 1 22 := ⟨_, _, Try.underlying36, rfl, rfl, rfl, fun w => ⟨0, Try.sizeOf22 w⟩⟩
instance : TZ Try.prog 36 (.agg #[.int .i64 0, .slice none 0 0]) := ⟨Try.zeroValue36⟩
instance : TZL Try.prog 36 [.int .i64 0, .slice none 0 0] := ⟨_, Try.zeroValue36, rfl⟩
instance : TIn Try.prog 36 2 32 (.agg #[.int .i64 0, .slice none 0 0]) := ⟨_, rfl, rfl, rfl, rfl, rfl, by decide⟩
instance : TSz Try.prog 37 4 := ⟨Try.sizeOf37⟩
instance : TAgg Try.prog 37 true := ⟨Try.isAgg37⟩
instance : TPl Try.prog 37 [(0, 1), (1, 1), (2, 2)] := ⟨_, Try.underlying37, fun w => by simp [List.mapM_cons]⟩
instance : TFd Try.prog 37 0 0 34 := ⟨_, _, Try.underlying37, rfl, rfl, rfl, fun w => ⟨0, Try.sizeOf34 w⟩⟩
instance : TFd Try.prog 37 1 1 3 := ⟨_, _, Try.underlying37, rfl, rfl, rfl, fun w => ⟨0, Try.sizeOf3 w⟩⟩
instance : TFd Try.prog 37 2 2 36 := ⟨_, _, Try.underlying37, rfl, rfl, rfl, fun w => ⟨1, Try.sizeOf36 w⟩⟩
instance : TZ Try.prog 37 (.agg #[.int .i64 0, .int .i64 0, .int .i64 0, .slice none 0 0]) := ⟨Try.zeroValue37⟩
instance : TZL Try.prog 37 [.int .i64 0, .int .i64 0, .int .i64 0, .slice none 0 0] := ⟨_, Try.zeroValue37, rfl⟩
instance : TIn Try.prog 37 4 48 (.agg #[.int .i64 0, .int .i64 0, .int .i64 0, .slice none 0 0]) := ⟨_, rfl, rfl, rfl, rfl, rfl, by decide⟩
instance : TSz Try.prog 38 4 := ⟨Try.sizeOf38⟩
instance : TAgg Try.prog 38 true := ⟨Try.isAgg38⟩
instance : TPl Try.prog 38 [(0, 1), (1, 1), (2, 2)] := ⟨_, Try.underlying38, fun w => by simp [List.mapM_cons]⟩
instance : TFd Try.prog 38 0 0 34 := ⟨_, _, Try.underlying38, rfl, rfl, rfl, fun w => ⟨0, Try.sizeOf34 w⟩⟩
instance : TFd Try.prog 38 1 1 3 := ⟨_, _, Try.underlying38, rfl, rfl, rfl, fun w => ⟨0, Try.sizeOf3 w⟩⟩
instance : TFd Try.prog 38 2 2 36 := ⟨_, _, Try.underlying38, rfl, rfl, rfl, fun w => ⟨1, Try.sizeOf36 w⟩⟩
instance : TZ Try.prog 38 (.agg #[.int .i64 0, .int .i64 0, .int .i64 0, .slice none 0 0]) := ⟨Try.zeroValue38⟩
instance : TZL Try.prog 38 [.int .i64 0, .int .i64 0, .int .i64 0, .slice none 0 0] := ⟨_, Try.zeroValue38, rfl⟩
instance : TIn Try.prog 38 4 48 (.agg #[.int .i64 0, .int .i64 0, .int .i64 0, .slice none 0 0]) := ⟨_, rfl, rfl, rfl, rfl, rfl, by decide⟩
instance : TSz Try.prog 39 4 := ⟨Try.sizeOf39⟩
instance : TAgg Try.prog 39 true := ⟨Try.isAgg39⟩
instance : TPl Try.prog 39 [(0, 1), (1, 1), (2, 2)] := ⟨_, Try.underlying39, fun w => by simp [List.mapM_cons]⟩
instance : TFd Try.prog 39 0 0 26 := ⟨_, _, Try.underlying39, rfl, rfl, rfl, fun w => ⟨0, Try.sizeOf26 w⟩⟩
instance : TFd Try.prog 39 1 1 3 := ⟨_, _, Try.underlying39, rfl, rfl, rfl, fun w => ⟨0, Try.sizeOf3 w⟩⟩
instance : TFd Try.prog 39 2 2 36 := ⟨_, _, Try.underlying39, rfl, rfl, rfl, fun w => ⟨1, Try.sizeOf36 w⟩⟩
instance : TZ Try.prog 39 (.agg #[.int .i64 0, .int .i64 0, .int .i64 0, .slice none 0 0]) := ⟨Try.zeroValue39⟩
instance : TZL Try.prog 39 [.int .i64 0, .int .i64 0, .int .i64 0, .slice none 0 0] := ⟨_, Try.zeroValue39, rfl⟩
instance : TIn Try.prog 39 4 48 (.agg #[.int .i64 0, .int .i64 0, .int .i64 0, .slice none 0 0]) := ⟨_, rfl, rfl, rfl, rfl, rfl, by decide⟩
instance : TSz Try.prog 40 4 := ⟨Try.sizeOf40⟩
instance : TAgg Try.prog 40 true := ⟨Try.isAgg40⟩
instance : TPl Try.prog 40 [(0, 1), (1, 1), (2, 2)] := ⟨_, Try.underlying40, fun w => by simp [List.mapM_cons]⟩
instance : TFd Try.prog 40 0 0 26 := ⟨_, _, Try.underlying40, rfl, rfl, rfl, fun w => ⟨0, Try.sizeOf26 w⟩⟩
instance : TFd Try.prog 40 1 1 3 := ⟨_, _, Try.underlying40, rfl, rfl, rfl, fun w => ⟨0, Try.sizeOf3 w⟩⟩
instance : TFd Try.prog 40 2 2 36 := ⟨_, _, Try.underlying40, rfl, rfl, rfl, fun w => ⟨1, Try.sizeOf36 w⟩⟩
instance : TZ Try.prog 40 (.agg #[.int .i64 0, .int .i64 0, .int .i64 0, .slice none 0 0]) := ⟨Try.zeroValue40⟩
instance : TZL Try.prog 40 [.int .i64 0, .int .i64 0, .int .i64 0, .slice none 0 0] := ⟨_, Try.zeroValue40, rfl⟩
instance : TIn Try.prog 40 4 48 (.agg #[.int .i64 0, .int .i64 0, .int .i64 0, .slice none 0 0]) := ⟨_, rfl, rfl, rfl, rfl, rfl, by decide⟩
instance : TSz Try.prog 41 19 := ⟨Try.sizeOf41⟩
instance : TAgg Try.prog 41 true := ⟨Try.isAgg41⟩
instance : TPl Try.prog 41 [(0, 1), (1, 1), (2, 1), (3, 3), (6, 3), (9, 1), (10, 1), (11, 4), (15, 4)] := ⟨_, Try.underlying41, fun w => by simp [List.mapM_cons]⟩
instance : TFd Try.prog 41 0 0 3 := ⟨_, _, Try.underlying41, rfl, rfl, rfl, fun w => ⟨0, Try.sizeOf3 w⟩⟩
instance : TFd Try.prog 41 1 1 3 := ⟨_, _, Try.underlying41, rfl, rfl, rfl, fun w => ⟨0, Try.sizeOf3 w⟩⟩
instance : TFd Try.prog 41 2 2 28 := ⟨_, _, Try.underlying41, rfl, rfl, rfl, fun w => ⟨0, Try.sizeOf28 w⟩⟩
instance : TFd Try.prog 41 3 3 30 := ⟨_, _, Try.underlying41, rfl, rfl, rfl, fun w => ⟨2, Try.sizeOf30 w⟩⟩
instance : TFd Try.prog 41 4 6 33 := ⟨_, _, Try.underlying41, rfl, rfl, rfl, fun w => ⟨2, Try.sizeOf33 w⟩⟩
instance : TFd Try.prog 41 5 9 4 := ⟨_, _, Try.underlying41, rfl, rfl, rfl, fun w => ⟨0, Try.sizeOf4 w⟩⟩
instance : TFd Try.prog 41 6 10 3 := ⟨_, _, Try.underlying41, rfl, rfl, rfl, fun w => ⟨0, Try.sizeOf3 w⟩⟩
instance : TFd Try.prog 41 7 11 38 := ⟨_, _, Try.underlying41, rfl, rfl, rfl, fun w => ⟨3, Try.sizeOf38 w⟩⟩
instance : TFd Try.prog 41 8 15 40 := ⟨_, _, Try.underlying41, rfl, rfl, rfl, fun w => ⟨3, Try.sizeOf40 w⟩⟩
instance : TZ Try.prog 41 (.agg #[.int .i64 0, .int .i64 0, .int .i64 0, .int .i64 0, .int .i64 0, .int .i64 0, .int .i64 0, .slice none 0 0, .slice none 0 0, .bool false, .int .i64 0, .int .i64 0, .int .i64 0, .int .i64 0, .slice none 0 0, .int .i64 0, .int .i64 0, .int .i64 0, .slice none 0 0]) := ⟨Try.zeroValue41⟩
instance : TZL Try.prog 41 [.int .i64 0, .int .i64 0, .int .i64 0, .int .i64 0, .int .i64 0, .int .i64 0, .int .i64 0, .slice none 0 0, .slice none 0 0, .bool false, .int .i64 0, .int .i64 0, .int .i64 0, .int .i64 0, .slice none 0 0, .int .i64 0, .int .i64 0, .int .i64 0, .slice none 0 0] := ⟨_, Try.zeroValue41, rfl⟩
instance : TIn Try.prog 41 19 216 (.agg #[.int .i64 0, .int .i64 0, .int .i64 0, .int .i64 0, .int .i64 0, .int .i64 0, .int .i64 0, .slice none 0 0, .slice none 0 0, .bool false, .int .i64 0, .int .i64 0, .int .i64 0, .int .i64 0, .slice none 0 0, .int .i64 0, .int .i64 0, .int .i64 0, .slice none 0 0]) := ⟨_, rfl, rfl, rfl, rfl, rfl, by decide⟩
instance : TSz Try.prog 42 19 := ⟨Try.sizeOf42⟩
instance : TAgg Try.prog 42 true := ⟨Try.isAgg42⟩
instance : TPl Try.prog 42 [(0, 1), (1, 1), (2, 1), (3, 3), (6, 3), (9, 1), (10, 1), (11, 4), (15, 4)] := ⟨_, Try.underlying42, fun w => by simp [List.mapM_cons]⟩
instance : TFd Try.prog 42 0 0 3 := ⟨_, _, Try.underlying42, rfl, rfl, rfl, fun w => ⟨0, Try.sizeOf3 w⟩⟩
instance : TFd Try.prog 42 1 1 3 := ⟨_, _, Try.underlying42, rfl, rfl, rfl, fun w => ⟨0, Try.sizeOf3 w⟩⟩
instance : TFd Try.prog 42 2 2 28 := ⟨_, _, Try.underlying42, rfl, rfl, rfl, fun w => ⟨0, Try.sizeOf28 w⟩⟩
instance : TFd Try.prog 42 3 3 30 := ⟨_, _, Try.underlying42, rfl, rfl, rfl, fun w => ⟨2, Try.sizeOf30 w⟩⟩
instance : TFd Try.prog 42 4 6 33 := ⟨_, _, Try.underlying42, rfl, rfl, rfl, fun w => ⟨2, Try.sizeOf33 w⟩⟩
instance : TFd Try.prog 42 5 9 4 := ⟨_, _, Try.underlying42, rfl, rfl, rfl, fun w => ⟨0, Try.sizeOf4 w⟩⟩
instance : TFd Try.prog 42 6 10 3 := ⟨_, _, Try.underlying42, rfl, rfl, rfl, fun w => ⟨0, Try.sizeOf3 w⟩⟩
instance : TFd Try.prog 42 7 11 38 := ⟨_, _, Try.underlying42, rfl, rfl, rfl, fun w => ⟨3, Try.sizeOf38 w⟩⟩
instance : TFd Try.prog 42 8 15 40 := ⟨_, _, Try.underlying42, rfl, rfl, rfl, fun w => ⟨3, Try.sizeOf40 w⟩⟩
instance : TZ Try.prog 42 (.agg #[.int .i64 0, .int .i64 0, .int .i64 0, .int .i64 0, .int .i64 0, .int .i64 0, .int .i64 0, .slice none 0 0, .slice none 0 0, .bool false, .int .i64 0, .int .i64 0, .int .i64 0, .int .i64 0, .slice none 0 0, .int .i64 0, .int .i64 0, .int .i64 0, .slice none 0 0]) := ⟨Try.zeroValue42⟩
instance : TZL Try.prog 42 [.int .i64 0, .int .i64 0, .int .i64 0, .int .i64 0, .int .i64 0, .int .i64 0, .int .i64 0, .slice none 0 0, .slice none 0 0, .bool false, .int .i64 0, .int .i64 0, .int .i64 0, .int .i64 0, .slice none 0 0, .int .i64 0, .int .i64 0, .int .i64 0, .slice none 0 0] := ⟨_, Try.zeroValue42, rfl⟩
instance : TIn Try.prog 42 19 216 (.agg #[.int .i64 0, .int .i64 0, .int .i64 0, .int .i64 0, .int .i64 0, .int .i64 0, .int .i64 0, .slice none 0 0, .slice none 0 0, .bool false, .int .i64 0, .int .i64 0, .int .i64 0, .int .i64 0, .slice none 0 0, .int .i64 0, .int .i64 0, .int .i64 0, .slice none 0 0]) := ⟨_, rfl, rfl, rfl, rfl, rfl, by decide⟩
instance : TSz Try.prog 43 1 := ⟨Try.sizeOf43⟩
instance : TAgg Try.prog 43 false := ⟨Try.isAgg43⟩
instance : TIt Try.prog 43 .u64 := ⟨Try.underlying43⟩
instance : TZ Try.prog 43 (.int .u64 0) := ⟨Try.zeroValue43⟩
instance : TZL Try.prog 43 [.int .u64 0] := ⟨_, Try.zeroValue43, rfl⟩
instance : TIn Try.prog 43 1 8 (.int .u64 0) := ⟨_, rfl, rfl, rfl, rfl, rfl, by decide⟩
instance : TSz Try.prog 44 1 := ⟨Try.sizeOf44⟩
instance : TAgg Try.prog 44 false := ⟨Try.isAgg44⟩
instance : TZ Try.prog 44 (.nilFunc) := ⟨Try.zeroValue44⟩
instance : TZL Try.prog 44 [.nilFunc] := ⟨_, Try.zeroValue44, rfl⟩
instance : TIn Try.prog 44 1 8 (.nilFunc) := ⟨_, rfl, rfl, rfl, rfl, rfl, by decide⟩
instance : TSz Try.prog 45 1 := ⟨Try.sizeOf45⟩
instance : TAgg Try.prog 45 false := ⟨Try.isAgg45⟩
instance : TZ Try.prog 45 (.nilFunc) := ⟨Try.zeroValue45⟩
instance : TZL Try.prog 45 [.nilFunc] := ⟨_, Try.zeroValue45, rfl⟩
instance : TIn Try.prog 45 1 8 (.nilFunc) := ⟨_, rfl, rfl, rfl, rfl, rfl, by decide⟩
instance : TSz Try.prog 47 1 := ⟨Try.sizeOf47⟩
instance : TAgg Try.prog 47 false := ⟨Try.isAgg47⟩
instance : TZ Try.prog 47 (.nilFunc) := ⟨Try.zeroValue47⟩
instance : TZL Try.prog 47 [.nilFunc] := ⟨_, Try.zeroValue47, rfl⟩
instance : TIn Try.prog 47 1 8 (.nilFunc) := ⟨_, rfl, rfl, rfl, rfl, rfl, by decide⟩
instance : TSz Try.prog 48 1 := ⟨Try.sizeOf48⟩
instance : TAgg Try.prog 48 false := ⟨Try.isAgg48⟩
instance : TZ Try.prog 48 (.nilFunc) := ⟨Try.zeroValue48⟩
instance : TZL Try.prog 48 [.nilFunc] := ⟨_, Try.zeroValue48, rfl⟩
instance : TIn Try.prog 48 1 8 (.nilFunc) := ⟨_, rfl, rfl, rfl, rfl, rfl, by decide⟩
instance : TSz Try.prog 49 1 := ⟨Try.sizeOf49⟩
instance : TAgg Try.prog 49 false := ⟨Try.isAgg49⟩
instance : TZ Try.prog 49 (.nilFunc) := ⟨Try.zeroValue49⟩
instance : TZL Try.prog 49 [.nilFunc] := ⟨_, Try.zeroValue49, rfl⟩
instance : TIn Try.prog 49 1 8 (.nilFunc) := ⟨_, rfl, rfl, rfl, rfl, rfl, by decide⟩
instance : TSz Try.prog 50 1 := ⟨Try.sizeOf50⟩
instance : TAgg Try.prog 50 false := ⟨Try.isAgg50⟩
instance : TZ Try.prog 50 (.nilFunc) := ⟨Try.zeroValue50⟩
instance : TZL Try.prog 50 [.nilFunc] := ⟨_, Try.zeroValue50, rfl⟩
instance : TIn Try.prog 50 1 8 (.nilFunc) := ⟨_, rfl, rfl, rfl, rfl, rfl, by decide⟩
instance : TSz Try.prog 52 1 := ⟨Try.sizeOf52⟩
instance : TAgg Try.prog 52 false := ⟨Try.isAgg52⟩
instance : TZ Try.prog 52 (.nilFunc) := ⟨Try.zeroValue52⟩
instance : TZL Try.prog 52 [.nilFunc] := ⟨_, Try.zeroValue52, rfl⟩
instance : TIn Try.prog 52 1 8 (.nilFunc) := ⟨_, rfl, rfl, rfl, rfl, rfl, by decide⟩
instance : TSz Try.prog 53 1 := ⟨Try.sizeOf53⟩
instance : TAgg Try.prog 53 false := ⟨Try.isAgg53⟩
instance : TZ Try.prog 53 (.nilFunc) := ⟨Try.zeroValue53⟩
instance : TZL Try.prog 53 [.nilFunc] := ⟨_, Try.zeroValue53, rfl⟩
instance : TIn Try.prog 53 1 8 (.nilFunc) := ⟨_, rfl, rfl, rfl, rfl, rfl, by decide⟩
instance : TSz Try.prog 54 1 := ⟨Try.sizeOf54⟩
instance : TAgg Try.prog 54 false := ⟨Try.isAgg54⟩
instance : TZ Try.prog 54 (.nilFunc) := ⟨Try.zeroValue54⟩
instance : TZL Try.prog 54 [.nilFunc] := ⟨_, Try.zeroValue54, rfl⟩
instance : TIn Try.prog 54 1 8 (.nilFunc) := ⟨_, rfl, rfl, rfl, rfl, rfl, by decide⟩
instance : TSz Try.prog 55 1 := ⟨Try.sizeOf55⟩
instance : TAgg Try.prog 55 false := ⟨Try.isAgg55⟩
instance : TSl Try.prog 55 60 := ⟨Try.underlying55⟩
instance : TZ Try.prog 55 (.slice none 0 0) := ⟨Try.zeroValue55⟩
instance : TZL Try.prog 55 [.slice none 0 0] := ⟨_, Try.zeroValue55, rfl⟩
instance : TIn Try.prog 55 1 24 (.slice none 0 0) := ⟨_, rfl, rfl, rfl, rfl, rfl, by decide⟩
instance : TSz Try.prog 56 1 := ⟨Try.sizeOf56⟩
instance : TAgg Try.prog 56 false := ⟨Try.isAgg56⟩
instance : TSl Try.prog 56 42 := ⟨Try.underlying56⟩
instance : TZ Try.prog 56 (.slice none 0 0) := ⟨Try.zeroValue56⟩
instance : TZL Try.prog 56 [.slice none 0 0] := ⟨_, Try.zeroValue56, rfl⟩
instance : TIn Try.prog 56 1 24 (.slice none 0 0) := ⟨_, rfl, rfl, rfl, rfl, rfl, by decide⟩
instance : TSz Try.prog 58 1 := ⟨Try.sizeOf58⟩
instance : TAgg Try.prog 58 false := ⟨Try.isAgg58⟩
instance : TZ Try.prog 58 (.nilFunc) := ⟨Try.zeroValue58⟩
instance : TZL Try.prog 58 [.nilFunc] := ⟨_, Try.zeroValue58, rfl⟩
instance : TIn Try.prog 58 1 8 (.nilFunc) := ⟨_, rfl, rfl, rfl, rfl, rfl, by decide⟩
instance : TSz Try.prog 59 21 := ⟨Try.sizeOf59⟩
instance : TAgg Try.prog 59 true := ⟨Try.isAgg59⟩
instance : TPl Try.prog 59 [(0, 1), (1, 1), (2, 19)] := ⟨_, Try.underlying59, fun w => by simp [List.mapM_cons]⟩
instance : TFd Try.prog 59 0 0 3 := ⟨_, _, Try.underlying59, rfl, rfl, rfl, fun w => ⟨0, Try.sizeOf3 w⟩⟩
instance : TFd Try.prog 59 1 1 3 := ⟨_, _, Try.underlying59, rfl, rfl, rfl, fun w => ⟨0, Try.sizeOf3 w⟩⟩
instance : TFd Try.prog 59 2 2 42 := ⟨_, _, Try.underlying59, rfl, rfl, rfl, fun w => ⟨18, Try.sizeOf42 w⟩⟩
instance : TZ Try.prog 59 (.agg #[.int .i64 0, .int .i64 0, .int .i64 0, .int .i64 0, .int .i64 0, .int .i64 0, .int .i64 0, .int .i64 0, .int .i64 0, .slice none 0 0, .slice none 0 0, .bool false, .int .i64 0, .int .i64 0, .int .i64 0, .int .i64 0, .slice none 0 0, .int .i64 0, .int .i64 0, .int .i64 0, .slice none 0 0]) := ⟨Try.zeroValue59⟩
instance : TZL Try.prog 59 [.int .i64 0, .int .i64 0, .int .i64 0, .int .i64 0, .int .i64 0, .int .i64 0, .int .i64 0, .int .i64 0, .int .i64 0, .slice none 0 0, .slice none 0 0, .bool false, .int .i64 0, .int .i64 0, .int .i64 0, .int .i64 0, .slice none 0 0, .int .i64 0, .int .i64 0, .int .i64 0, .slice none 0 0] := ⟨_, Try.zeroValue59, rfl⟩
instance : TIn Try.prog 59 21 232 (.agg #[.int .i64 0, .int .i64 0, .int .i64 0, .int .i64 0, .int .i64 0, .int .i64 0, .int .i64 0, .int .i64 0, .int .i64 0, .slice none 0 0, .slice none 0 0, .bool false, .int .i64 0, .int .i64 0, .int .i64 0, .int .i64 0, .slice none 0 0, .int .i64 0, .int .i64 0, .int .i64 0, .slice none 0 0]) := ⟨_, rfl, rfl, rfl, rfl, rfl, by decide⟩
instance : TSz Try.prog 60 21 := ⟨Try.sizeOf60⟩
instance : TAgg Try.prog 60 true := ⟨Try.isAgg60⟩
instance : TPl Try.prog 60 [(0, 1), (1, 1), (2, 19)] := ⟨_, Try.underlying60, fun w => by simp [List.mapM_cons]⟩
instance : TFd Try.prog 60 0 0 3 := ⟨_, _, Try.underlying60, rfl, rfl, rfl, fun w => ⟨0, Try.sizeOf3 w⟩⟩
instance : TFd Try.prog 60 1 1 3 := ⟨_, _, Try.underlying60, rfl, rfl, rfl, fun w => ⟨0, Try.sizeOf3 w⟩⟩
instance : TFd Try.prog 60 2 2 42 := ⟨_, _, Try.underlying60, rfl, rfl, rfl, fun w => ⟨18, Try.sizeOf42 w⟩⟩
instance : TZ Try.prog 60 (.agg #[.int .i64 0, .int .i64 0, .int .i64 0, .int .i64 0, .int .i64 0, .int .i64 0, .int .i64 0, .int .i64 0, .int .i64 0, .slice none 0 0, .slice none 0 0, .bool false, .int .i64 0, .int .i64 0, .int .i64 0, .int .i64 0, .slice none 0 0, .int .i64 0, .int .i64 0, .int .i64 0, .slice none 0 0]) := ⟨Try.zeroValue60⟩
instance : TZL Try.prog 60 [.int .i64 0, .int .i64 0, .int .i64 0, .int .i64 0, .int .i64 0, .int .i64 0, .int .i64 0, .int .i64 0, .int .i64 0, .slice none 0 0, .slice none 0 0, .bool false, .int .i64 0, .int .i64 0, .int .i64 0, .int .i64 0, .slice none 0 0, .int .i64 0, .int .i64 0, .int .i64 0, .slice none 0 0] := ⟨_, Try.zeroValue60, rfl⟩
instance : TIn Try.prog 60 21 232 (.agg #[.int .i64 0, .int .i64 0, .int .i64 0, .int .i64 0, .int .i64 0, .int .i64 0, .int .i64 0, .int .i64 0, .int .i64 0, .slice none 0 0, .slice none 0 0, .bool false, .int .i64 0, .int .i64 0, .int .i64 0, .int .i64 0, .slice none 0 0, .int .i64 0, .int .i64 0, .int .i64 0, .slice none 0 0]) := ⟨_, rfl, rfl, rfl, rfl, rfl, by decide⟩
instance : TSz Try.prog 61 1 := ⟨Try.sizeOf61⟩
instance : TAgg Try.prog 61 false := ⟨Try.isAgg61⟩
instance : TZ Try.prog 61 (.nilFunc) := ⟨Try.zeroValue61⟩
instance : TZL Try.prog 61 [.nilFunc] := ⟨_, Try.zeroValue61, rfl⟩
instance : TIn Try.prog 61 1 8 (.nilFunc) := ⟨_, rfl, rfl, rfl, rfl, rfl, by decide⟩
instance : TSz Try.prog 62 1 := ⟨Try.sizeOf62⟩
instance : TAgg Try.prog 62 false := ⟨Try.isAgg62⟩
instance : TZ Try.prog 62 (.nilFunc) := ⟨Try.zeroValue62⟩
instance : TZL Try.prog 62 [.nilFunc] := ⟨_, Try.zeroValue62, rfl⟩
instance : TIn Try.prog 62 1 8 (.nilFunc) := ⟨_, rfl, rfl, rfl, rfl, rfl, by decide⟩
instance : TSz Try.prog 63 1 := ⟨Try.sizeOf63⟩
instance : TAgg Try.prog 63 false := ⟨Try.isAgg63⟩
instance : TZ Try.prog 63 (.nilFunc) := ⟨Try.zeroValue63⟩
instance : TZL Try.prog 63 [.nilFunc] := ⟨_, Try.zeroValue63, rfl⟩
instance : TIn Try.prog 63 1 8 (.nilFunc) := ⟨_, rfl, rfl, rfl, rfl, rfl, by decide⟩
instance : TSz Try.prog 64 1 := ⟨Try.sizeOf64⟩
instance : TAgg Try.prog 64 true := ⟨Try.isAgg64⟩
instance : TPl Try.prog 64 [(0, 1)] := ⟨_, Try.underlying64, fun w => by simp [List.mapM_cons]⟩
instance : TFd Try.prog 64 0 0 56 := ⟨_, _, Try.underlying64, rfl, rfl, rfl, fun w => ⟨0, Try.sizeOf56 w⟩⟩
instance : TZ Try.prog 64 (.agg #[.slice none 0 0]) := ⟨Try.zeroValue64⟩
instance : TZL Try.prog 64 [.slice none 0 0] := ⟨_, Try.zeroValue64, rfl⟩
instance : TIn Try.prog 64 1 24 (.agg #[.slice none 0 0]) := ⟨_, rfl, rfl, rfl, rfl, rfl, by decide⟩
instance : TSz Try.prog 65 1 := ⟨Try.sizeOf65⟩
instance : TAgg Try.prog 65 true := ⟨Try.isAgg65⟩
instance : TPl Try.prog 65 [(0, 1)] := ⟨_, Try.underlying65, fun w => by simp [List.mapM_cons]⟩
instance : TFd Try.prog 65 0 0 56 := ⟨_, _, Try.underlying65, rfl, rfl, rfl, fun w => ⟨0, Try.sizeOf56 w⟩⟩
instance : TZ Try.prog 65 (.agg #[.slice none 0 0]) := ⟨Try.zeroValue65⟩
instance : TZL Try.prog 65 [.slice none 0 0] := ⟨_, Try.zeroValue65, rfl⟩
instance : TIn Try.prog 65 1 24 (.agg #[.slice none 0 0]) := ⟨_, rfl, rfl, rfl, rfl, rfl, by decide⟩
instance : TSz Try.prog 66 1 := ⟨Try.sizeOf66⟩
instance : TAgg Try.prog 66 false := ⟨Try.isAgg66⟩
instance : TZ Try.prog 66 (.nilFunc) := ⟨Try.zeroValue66⟩
instance : TZL Try.prog 66 [.nilFunc] := ⟨_, Try.zeroValue66, rfl⟩
instance : TIn Try.prog 66 1 8 (.nilFunc) := ⟨_, rfl, rfl, rfl, rfl, rfl, by decide⟩
instance : TSz Try.prog 67 1 := ⟨Try.sizeOf67⟩
instance : TAgg Try.prog 67 false := ⟨Try.isAgg67⟩
instance : TZ Try.prog 67 (.nilFunc) := ⟨Try.zeroValue67⟩
instance : TZL Try.prog 67 [.nilFunc] := ⟨_, Try.zeroValue67, rfl⟩
instance : TIn Try.prog 67 1 8 (.nilFunc) := ⟨_, rfl, rfl, rfl, rfl, rfl, by decide⟩
instance : TSz Try.prog 68 1 := ⟨Try.sizeOf68⟩
instance : TAgg Try.prog 68 false := ⟨Try.isAgg68⟩
instance : TZ Try.prog 68 (.nilFunc) := ⟨Try.zeroValue68⟩
instance : TZL Try.prog 68 [.nilFunc] := ⟨_, Try.zeroValue68, rfl⟩
instance : TIn Try.prog 68 1 8 (.nilFunc) := ⟨_, rfl, rfl, rfl, rfl, rfl, by decide⟩
instance : TSz Try.prog 69 1 := ⟨Try.sizeOf69⟩
instance : TAgg Try.prog 69 false := ⟨Try.isAgg69⟩
instance : TZ Try.prog 69 (.nilFunc) := ⟨Try.zeroValue69⟩
instance : TZL Try.prog 69 [.nilFunc] := ⟨_, Try.zeroValue69, rfl⟩
instance : TIn Try.prog 69 1 8 (.nilFunc) := ⟨_, rfl, rfl, rfl, rfl, rfl, by decide⟩
instance : TSz Try.prog 71 1 := ⟨Try.sizeOf71⟩
instance : TAgg Try.prog 71 false := ⟨Try.isAgg71⟩
instance : TZ Try.prog 71 (.nilFunc) := ⟨Try.zeroValue71⟩
instance : TZL Try.prog 71 [.nilFunc] := ⟨_, Try.zeroValue71, rfl⟩
instance : TIn Try.prog 71 1 8 (.nilFunc) := ⟨_, rfl, rfl, rfl, rfl, rfl, by decide⟩
instance : TSz Try.prog 73 1 := ⟨Try.sizeOf73⟩
instance : TAgg Try.prog 73 false := ⟨Try.isAgg73⟩
instance : TZ Try.prog 73 (.nilFunc) := ⟨Try.zeroValue73⟩
instance : TZL Try.prog 73 [.nilFunc] := ⟨_, Try.zeroValue73, rfl⟩
instance : TIn Try.prog 73 1 8 (.nilFunc) := ⟨_, rfl, rfl, rfl, rfl, rfl, by decide⟩
instance : TSz Try.prog 74 1 := ⟨Try.sizeOf74⟩
instance : TAgg Try.prog 74 false := ⟨Try.isAgg74⟩
instance : TZ Try.prog 74 (.nilFunc) := ⟨Try.zeroValue74⟩
instance : TZL Try.prog 74 [.nilFunc] := ⟨_, Try.zeroValue74, rfl⟩
instance : TIn Try.prog 74 1 8 (.nilFunc) := ⟨_, rfl, rfl, rfl, rfl, rfl, by decide⟩
instance : TSz Try.prog 75 1 := ⟨Try.sizeOf75⟩
instance : TAgg Try.prog 75 false := ⟨Try.isAgg75⟩
instance : TZ Try.prog 75 (.nilFunc) := ⟨Try.zeroValue75⟩
instance : TZL Try.prog 75 [.nilFunc] := ⟨_, Try.zeroValue75, rfl⟩
instance : TIn Try.prog 75 1 8 (.nilFunc) := ⟨_, rfl, rfl, rfl, rfl, rfl, by decide⟩
instance : TSz Try.prog 76 1 := ⟨Try.sizeOf76⟩
instance : TAgg Try.prog 76 false := ⟨Try.isAgg76⟩
instance : TZ Try.prog 76 (.nilFunc) := ⟨Try.zeroValue76⟩
instance : TZL Try.prog 76 [.nilFunc] := ⟨_, Try.zeroValue76, rfl⟩
instance : TIn Try.prog 76 1 8 (.nilFunc) := ⟨_, rfl, rfl, rfl, rfl, rfl, by decide⟩
instance : TSz Try.prog 77 1 := ⟨Try.sizeOf77⟩
instance : TAgg Try.prog 77 false := ⟨Try.isAgg77⟩
instance : TZ Try.prog 77 (.nilFunc) := ⟨Try.zeroValue77⟩
instance : TZL Try.prog 77 [.nilFunc] := ⟨_, Try.zeroValue77, rfl⟩
instance : TIn Try.prog 77 1 8 (.nilFunc) := ⟨_, rfl, rfl, rfl, rfl, rfl, by decide⟩
instance : TSz Try.prog 78 1 := ⟨Try.sizeOf78⟩
instance : TAgg Try.prog 78 false := ⟨Try.isAgg78⟩
instance : TZ Try.prog 78 (.nilFunc) := ⟨Try.zeroValue78⟩
instance : TZL Try.prog 78 [.nilFunc] := ⟨_, Try.zeroValue78, rfl⟩
instance : TIn Try.prog 78 1 8 (.nilFunc) := ⟨_, rfl, rfl, rfl, rfl, rfl, by decide⟩
instance : TSz Try.prog 79 1 := ⟨Try.sizeOf79⟩
instance : TAgg Try.prog 79 false := ⟨Try.isAgg79⟩
instance : TZ Try.prog 79 (.nilFunc) := ⟨Try.zeroValue79⟩
instance : TZL Try.prog 79 [.nilFunc] := ⟨_, Try.zeroValue79, rfl⟩
instance : TIn Try.prog 79 1 8 (.nilFunc) := ⟨_, rfl, rfl, rfl, rfl, rfl, by decide⟩
instance : TSz Try.prog 80 1 := ⟨Try.sizeOf80⟩
instance : TAgg Try.prog 80 false := ⟨Try.isAgg80⟩
instance : TZ Try.prog 80 (.nilFunc) := ⟨Try.zeroValue80⟩
instance : TZL Try.prog 80 [.nilFunc] := ⟨_, Try.zeroValue80, rfl⟩
instance : TIn Try.prog 80 1 8 (.nilFunc) := ⟨_, rfl, rfl, rfl, rfl, rfl, by decide⟩
instance : TSz Try.prog 81 1 := ⟨Try.sizeOf81⟩
instance : TAgg Try.prog 81 false := ⟨Try.isAgg81⟩
instance : TZ Try.prog 81 (.nilFunc) := ⟨Try.zeroValue81⟩
instance : TZL Try.prog 81 [.nilFunc] := ⟨_, Try.zeroValue81, rfl⟩
instance : TIn Try.prog 81 1 8 (.nilFunc) := ⟨_, rfl, rfl, rfl, rfl, rfl, by decide⟩
instance : TSz Try.prog 82 1 := ⟨Try.sizeOf82⟩
instance : TAgg Try.prog 82 false := ⟨Try.isAgg82⟩
instance : TZ Try.prog 82 (.nilFunc) := ⟨Try.zeroValue82⟩
instance : TZL Try.prog 82 [.nilFunc] := ⟨_, Try.zeroValue82, rfl⟩
instance : TIn Try.prog 82 1 8 (.nilFunc) := ⟨_, rfl, rfl, rfl, rfl, rfl, by decide⟩
instance : TSz Try.prog 83 4 := ⟨Try.sizeOf83⟩
instance : TAgg Try.prog 83 true := ⟨Try.isAgg83⟩
instance : TPl Try.prog 83 [(0, 1), (1, 1), (2, 1), (3, 1)] := ⟨_, Try.underlying83, fun w => by simp [List.mapM_cons]⟩
instance : TFd Try.prog 83 0 0 17 := ⟨_, _, Try.underlying83, rfl, rfl, rfl, fun w => ⟨0, Try.sizeOf17 w⟩⟩
instance : TFd Try.prog 83 1 1 17 := ⟨_, _, Try.underlying83, rfl, rfl, rfl, fun w => ⟨0, Try.sizeOf17 w⟩⟩
instance : TFd Try.prog 83 2 2 17 := ⟨_, _, Try.underlying83, rfl, rfl, rfl, fun w => ⟨0, Try.sizeOf17 w⟩⟩
instance : TFd Try.prog 83 3 3 9 := ⟨_, _, Try.underlying83, rfl, rfl, rfl, fun w => ⟨0, Try.sizeOf9 w⟩⟩
instance : TZ Try.prog 83 (.agg #[.pointer none, .pointer none, .pointer none, .string ⟨#[]⟩]) := ⟨Try.zeroValue83⟩
instance : TZL Try.prog 83 [.pointer none, .pointer none, .pointer none, .string ⟨#[]⟩] := ⟨_, Try.zeroValue83, rfl⟩
instance : TIn Try.prog 83 4 40 (.agg #[.pointer none, .pointer none, .pointer none, .string ⟨#[]⟩]) := ⟨_, rfl, rfl, rfl, rfl, rfl, by decide⟩
instance : TSz Try.prog 84 4 := ⟨Try.sizeOf84⟩
instance : TAgg Try.prog 84 true := ⟨Try.isAgg84⟩
instance : TPl Try.prog 84 [(0, 1), (1, 1), (2, 1), (3, 1)] := ⟨_, Try.underlying84, fun w => by simp [List.mapM_cons]⟩
instance : TFd Try.prog 84 0 0 17 := ⟨_, _, Try.underlying84, rfl, rfl, rfl, fun w => ⟨0, Try.sizeOf17 w⟩⟩
instance : TFd Try.prog 84 1 1 17 := ⟨_, _, Try.underlying84, rfl, rfl, rfl, fun w => ⟨0, Try.sizeOf17 w⟩⟩
instance : TFd Try.prog 84 2 2 17 := ⟨_, _, Try.underlying84, rfl, rfl, rfl, fun w => ⟨0, Try.sizeOf17 w⟩⟩
instance : TFd Try.prog 84 3 3 9 := ⟨_, _, Try.underlying84, rfl, rfl, rfl, fun w => ⟨0, Try.sizeOf9 w⟩⟩
instance : TZ Try.prog 84 (.agg #[.pointer none, .pointer none, .pointer none, .string ⟨#[]⟩]) := ⟨Try.zeroValue84⟩
instance : TZL Try.prog 84 [.pointer none, .pointer none, .pointer none, .string ⟨#[]⟩] := ⟨_, Try.zeroValue84, rfl⟩
instance : TIn Try.prog 84 4 40 (.agg #[.pointer none, .pointer none, .pointer none, .string ⟨#[]⟩]) := ⟨_, rfl, rfl, rfl, rfl, rfl, by decide⟩
instance : TSz Try.prog 85 0 := ⟨Try.sizeOf85⟩
instance : TAgg Try.prog 85 true := ⟨Try.isAgg85⟩
instance : TSz Try.prog 86 0 := ⟨Try.sizeOf86⟩
instance : TAgg Try.prog 86 true := ⟨Try.isAgg86⟩
instance : TPl Try.prog 86 [(0, 0)] := ⟨_, Try.underlying86, fun w => by simp [List.mapM_cons]⟩
instance : TSz Try.prog 87 0 := ⟨Try.sizeOf87⟩
instance : TAgg Try.prog 87 true := ⟨Try.isAgg87⟩
instance : TPl Try.prog 87 [(0, 0)] := ⟨_, Try.underlying87, fun w => by simp [List.mapM_cons]⟩
instance : TSz Try.prog 88 1 := ⟨Try.sizeOf88⟩
instance : TAgg Try.prog 88 false := ⟨Try.isAgg88⟩
instance : TIt Try.prog 88 .u32 := ⟨Try.underlying88⟩
instance : TZ Try.prog 88 (.int .u32 0) := ⟨Try.zeroValue88⟩
instance : TZL Try.prog 88 [.int .u32 0] := ⟨_, Try.zeroValue88, rfl⟩
instance : TIn Try.prog 88 1 4 (.int .u32 0) := ⟨_, rfl, rfl, rfl, rfl, rfl, by decide⟩
instance : TSz Try.prog 89 1 := ⟨Try.sizeOf89⟩
instance : TAgg Try.prog 89 false := ⟨Try.isAgg89⟩
instance : TIt Try.prog 89 .u8 := ⟨Try.underlying89⟩
instance : TZ Try.prog 89 (.int .u8 0) := ⟨Try.zeroValue89⟩
instance : TZL Try.prog 89 [.int .u8 0] := ⟨_, Try.zeroValue89, rfl⟩
instance : TIn Try.prog 89 1 1 (.int .u8 0) := ⟨_, rfl, rfl, rfl, rfl, rfl, by decide⟩
instance : TSz Try.prog 90 1 := ⟨Try.sizeOf90⟩
instance : TAgg Try.prog 90 false := ⟨Try.isAgg90⟩
instance : TIt Try.prog 90 .u8 := ⟨Try.underlying90⟩
instance : TZ Try.prog 90 (.int .u8 0) := ⟨Try.zeroValue90⟩
instance : TZL Try.prog 90 [.int .u8 0] := ⟨_, Try.zeroValue90, rfl⟩
instance : TIn Try.prog 90 1 1 (.int .u8 0) := ⟨_, rfl, rfl, rfl, rfl, rfl, by decide⟩
instance : TSz Try.prog 91 1 := ⟨Try.sizeOf91⟩
instance : TAgg Try.prog 91 false := ⟨Try.isAgg91⟩
instance : TZ Try.prog 91 (.nilFunc) := ⟨Try.zeroValue91⟩
instance : TZL Try.prog 91 [.nilFunc] := ⟨_, Try.zeroValue91, rfl⟩
instance : TIn Try.prog 91 1 8 (.nilFunc) := ⟨_, rfl, rfl, rfl, rfl, rfl, by decide⟩
instance : TSz Try.prog 92 1 := ⟨Try.sizeOf92⟩
instance : TAgg Try.prog 92 false := ⟨Try.isAgg92⟩
instance : TPt Try.prog 92 := ⟨_, Try.underlying92⟩
instance : TZ Try.prog 92 (.pointer none) := ⟨Try.zeroValue92⟩
instance : TZL Try.prog 92 [.pointer none] := ⟨_, Try.zeroValue92, rfl⟩
instance : TIn Try.prog 92 1 8 (.pointer none) := ⟨_, rfl, rfl, rfl, rfl, rfl, by decide⟩
instance : TSz Try.prog 93 1 := ⟨Try.sizeOf93⟩
instance : TAgg Try.prog 93 false := ⟨Try.isAgg93⟩
instance : TIt Try.prog 93 .i32 := ⟨Try.underlying93⟩
instance : TZ Try.prog 93 (.int .i32 0) := ⟨Try.zeroValue93⟩
instance : TZL Try.prog 93 [.int .i32 0] := ⟨_, Try.zeroValue93, rfl⟩
instance : TIn Try.prog 93 1 4 (.int .i32 0) := ⟨_, rfl, rfl, rfl, rfl, rfl, by decide⟩
instance : TSz Try.prog 94 1 := ⟨Try.sizeOf94⟩
instance : TAgg Try.prog 94 false := ⟨Try.isAgg94⟩
instance : TIt Try.prog 94 .i32 := ⟨Try.underlying94⟩
instance : TZ Try.prog 94 (.int .i32 0) := ⟨Try.zeroValue94⟩
instance : TZL Try.prog 94 [.int .i32 0] := ⟨_, Try.zeroValue94, rfl⟩
instance : TIn Try.prog 94 1 4 (.int .i32 0) := ⟨_, rfl, rfl, rfl, rfl, rfl, by decide⟩
instance : TSz Try.prog 95 11 := ⟨Try.sizeOf95⟩
instance : TAgg Try.prog 95 true := ⟨Try.isAgg95⟩
instance : TPl Try.prog 95 [(0, 1), (1, 1), (2, 1), (3, 1), (4, 1), (5, 1), (6, 1), (7, 1), (8, 1), (9, 1), (10, 1)] := ⟨_, Try.underlying95, fun w => by simp [List.mapM_cons]⟩
instance : TFd Try.prog 95 0 0 12 := ⟨_, _, Try.underlying95, rfl, rfl, rfl, fun w => ⟨0, Try.sizeOf12 w⟩⟩
instance : TFd Try.prog 95 1 1 12 := ⟨_, _, Try.underlying95, rfl, rfl, rfl, fun w => ⟨0, Try.sizeOf12 w⟩⟩
instance : TFd Try.prog 95 2 2 88 := ⟨_, _, Try.underlying95, rfl, rfl, rfl, fun w => ⟨0, Try.sizeOf88 w⟩⟩
instance : TFd Try.prog 95 3 3 89 := ⟨_, _, Try.underlying95, rfl, rfl, rfl, fun w => ⟨0, Try.sizeOf89 w⟩⟩
instance : TFd Try.prog 95 4 4 5 := ⟨_, _, Try.underlying95, rfl, rfl, rfl, fun w => ⟨0, Try.sizeOf5 w⟩⟩
instance : TFd Try.prog 95 5 5 5 := ⟨_, _, Try.underlying95, rfl, rfl, rfl, fun w => ⟨0, Try.sizeOf5 w⟩⟩
instance : TFd Try.prog 95 6 6 90 := ⟨_, _, Try.underlying95, rfl, rfl, rfl, fun w => ⟨0, Try.sizeOf90 w⟩⟩
instance : TFd Try.prog 95 7 7 91 := ⟨_, _, Try.underlying95, rfl, rfl, rfl, fun w => ⟨0, Try.sizeOf91 w⟩⟩
instance : TFd Try.prog 95 8 8 92 := ⟨_, _, Try.underlying95, rfl, rfl, rfl, fun w => ⟨0, Try.sizeOf92 w⟩⟩
instance : TFd Try.prog 95 9 9 93 := ⟨_, _, Try.underlying95, rfl, rfl, rfl, fun w => ⟨0, Try.sizeOf93 w⟩⟩
instance : TFd Try.prog 95 10 10 94 := ⟨_, _, Try.underlying95, rfl, rfl, rfl, fun w => ⟨0, Try.sizeOf94 w⟩⟩
instance : TZ Try.prog 95 (.agg #[.int .u64 0, .int .u64 0, .int .u32 0, .int .u8 0, .int .u8 0, .int .u8 0, .int .u8 0, .nilFunc, .pointer none, .int .i32 0, .int .i32 0]) := ⟨Try.zeroValue95⟩
instance : TZL Try.prog 95 [.int .u64 0, .int .u64 0, .int .u32 0, .int .u8 0, .int .u8 0, .int .u8 0, .int .u8 0, .nilFunc, .pointer none, .int .i32 0, .int .i32 0] := ⟨_, Try.zeroValue95, rfl⟩
instance : TIn Try.prog 95 11 48 (.agg #[.int .u64 0, .int .u64 0, .int .u32 0, .int .u8 0, .int .u8 0, .int .u8 0, .int .u8 0, .nilFunc, .pointer none, .int .i32 0, .int .i32 0]) := ⟨_, rfl, rfl, rfl, rfl, rfl, by decide⟩
instance : TSz Try.prog 96 11 := ⟨Try.sizeOf96⟩
instance : TAgg Try.prog 96 true := ⟨Try.isAgg96⟩
instance : TPl Try.prog 96 [(0, 1), (1, 1), (2, 1), (3, 1), (4, 1), (5, 1), (6, 1), (7, 1), (8, 1), (9, 1), (10, 1)] := ⟨_, Try.underlying96, fun w => by simp [List.mapM_cons]⟩
instance : TFd Try.prog 96 0 0 12 := ⟨_, _, Try.underlying96, rfl, rfl, rfl, fun w => ⟨0, Try.sizeOf12 w⟩⟩
instance : TFd Try.prog 96 1 1 12 := ⟨_, _, Try.underlying96, rfl, rfl, rfl, fun w => ⟨0, Try.sizeOf12 w⟩⟩
instance : TFd Try.prog 96 2 2 88 := ⟨_, _, Try.underlying96, rfl, rfl, rfl, fun w => ⟨0, Try.sizeOf88 w⟩⟩
instance : TFd Try.prog 96 3 3 89 := ⟨_, _, Try.underlying96, rfl, rfl, rfl, fun w => ⟨0, Try.sizeOf89 w⟩⟩
instance : TFd Try.prog 96 4 4 5 := ⟨_, _, Try.underlying96, rfl, rfl, rfl, fun w => ⟨0, Try.sizeOf5 w⟩⟩
instance : TFd Try.prog 96 5 5 5 := ⟨_, _, Try.underlying96, rfl, rfl, rfl, fun w => ⟨0, Try.sizeOf5 w⟩⟩
instance : TFd Try.prog 96 6 6 90 := ⟨_, _, Try.underlying96, rfl, rfl, rfl, fun w => ⟨0, Try.sizeOf90 w⟩⟩
instance : TFd Try.prog 96 7 7 91 := ⟨_, _, Try.underlying96, rfl, rfl, rfl, fun w => ⟨0, Try.sizeOf91 w⟩⟩
instance : TFd Try.prog 96 8 8 92 := ⟨_, _, Try.underlying96, rfl, rfl, rfl, fun w => ⟨0, Try.sizeOf92 w⟩⟩
instance : TFd Try.prog 96 9 9 93 := ⟨_, _, Try.underlying96, rfl, rfl, rfl, fun w => ⟨0, Try.sizeOf93 w⟩⟩
instance : TFd Try.prog 96 10 10 94 := ⟨_, _, Try.underlying96, rfl, rfl, rfl, fun w => ⟨0, Try.sizeOf94 w⟩⟩
instance : TZ Try.prog 96 (.agg #[.int .u64 0, .int .u64 0, .int .u32 0, .int .u8 0, .int .u8 0, .int .u8 0, .int .u8 0, .nilFunc, .pointer none, .int .i32 0, .int .i32 0]) := ⟨Try.zeroValue96⟩
instance : TZL Try.prog 96 [.int .u64 0, .int .u64 0, .int .u32 0, .int .u8 0, .int .u8 0, .int .u8 0, .int .u8 0, .nilFunc, .pointer none, .int .i32 0, .int .i32 0] := ⟨_, Try.zeroValue96, rfl⟩
instance : TIn Try.prog 96 11 48 (.agg #[.int .u64 0, .int .u64 0, .int .u32 0, .int .u8 0, .int .u8 0, .int .u8 0, .int .u8 0, .nilFunc, .pointer none, .int .i32 0, .int .i32 0]) := ⟨_, rfl, rfl, rfl, rfl, rfl, by decide⟩
instance : TSz Try.prog 97 1 := ⟨Try.sizeOf97⟩
instance : TAgg Try.prog 97 false := ⟨Try.isAgg97⟩
instance : TFn Try.prog 3 := ⟨Try.call3⟩
instance : TBody Try.prog 3 Try.f3 (Try.f3.body.getD .skip) 94 := ⟨Try.func3, rfl, Try.ntmps3⟩
instance : TFn Try.prog 4 := ⟨Try.call4⟩
instance : TBody Try.prog 4 Try.f4 (Try.f4.body.getD .skip) 53 := ⟨Try.func4, rfl, Try.ntmps4⟩
instance : TFn Try.prog 5 := ⟨Try.call5⟩
instance : TBody Try.prog 5 Try.f5 (Try.f5.body.getD .skip) 67 := ⟨Try.func5, rfl, Try.ntmps5⟩
instance : TFn Try.prog 6 := ⟨Try.call6⟩
instance : TBody Try.prog 6 Try.f6 (Try.f6.body.getD .skip) 71 := ⟨Try.func6, rfl, Try.ntmps6⟩
instance : TFn Try.prog 7 := ⟨Try.call7⟩
instance : TBody Try.prog 7 Try.f7 (Try.f7.body.getD .skip) 3 := ⟨Try.func7, rfl, Try.ntmps7⟩
instance : TFn Try.prog 8 := ⟨Try.call8⟩
instance : TBody Try.prog 8 Try.f8 (Try.f8.body.getD .skip) 47 := ⟨Try.func8, rfl, Try.ntmps8⟩
instance : TFn Try.prog 9 := ⟨Try.call9⟩
instance : TBody Try.prog 9 Try.f9 (Try.f9.body.getD .skip) 22 := ⟨Try.func9, rfl, Try.ntmps9⟩
instance : TFn Try.prog 10 := ⟨Try.call10⟩
instance : TBody Try.prog 10 Try.f10 (Try.f10.body.getD .skip) 18 := ⟨Try.func10, rfl, Try.ntmps10⟩
instance : TFn Try.prog 11 := ⟨Try.call11⟩
instance : TBody Try.prog 11 Try.f11 (Try.f11.body.getD .skip) 8 := ⟨Try.func11, rfl, Try.ntmps11⟩
instance : TFn Try.prog 12 := ⟨Try.call12⟩
instance : TBody Try.prog 12 Try.f12 (Try.f12.body.getD .skip) 29 := ⟨Try.func12, rfl, Try.ntmps12⟩
instance : TFn Try.prog 13 := ⟨Try.call13⟩
instance : TBody Try.prog 13 Try.f13 (Try.f13.body.getD .skip) 36 := ⟨Try.func13, rfl, Try.ntmps13⟩
instance : TFn Try.prog 14 := ⟨Try.call14⟩
instance : TBody Try.prog 14 Try.f14 (Try.f14.body.getD .skip) 62 := ⟨Try.func14, rfl, Try.ntmps14⟩
instance : TFn Try.prog 15 := ⟨Try.call15⟩
instance : TBody Try.prog 15 Try.f15 (Try.f15.body.getD .skip) 26 := ⟨Try.func15, rfl, Try.ntmps15⟩
instance : TFn Try.prog 16 := ⟨Try.call16⟩
instance : TBody Try.prog 16 Try.f16 (Try.f16.body.getD .skip) 66 := ⟨Try.func16, rfl, Try.ntmps16⟩
instance : TFn Try.prog 17 := ⟨Try.call17⟩
instance : TBody Try.prog 17 Try.f17 (Try.f17.body.getD .skip) 157 := ⟨Try.func17, rfl, Try.ntmps17⟩
instance : TFn Try.prog 18 := ⟨Try.call18⟩
instance : TBody Try.prog 18 Try.f18 (Try.f18.body.getD .skip) 14 := ⟨Try.func18, rfl, Try.ntmps18⟩
instance : TFn Try.prog 19 := ⟨Try.call19⟩
instance : TBody Try.prog 19 Try.f19 (Try.f19.body.getD .skip) 27 := ⟨Try.func19, rfl, Try.ntmps19⟩
instance : TFn Try.prog 20 := ⟨Try.call20⟩
instance : TBody Try.prog 20 Try.f20 (Try.f20.body.getD .skip) 32 := ⟨Try.func20, rfl, Try.ntmps20⟩
instance : TFn Try.prog 21 := ⟨Try.call21⟩
instance : TBody Try.prog 21 Try.f21 (Try.f21.body.getD .skip) 33 := ⟨Try.func21, rfl, Try.ntmps21⟩
instance : TFn Try.prog 22 := ⟨Try.call22⟩
instance : TBody Try.prog 22 Try.f22 (Try.f22.body.getD .skip) 24 := ⟨Try.func22, rfl, Try.ntmps22⟩
instance : TFn Try.prog 23 := ⟨Try.call23⟩
instance : TBody Try.prog 23 Try.f23 (Try.f23.body.getD .skip) 24 := ⟨Try.func23, rfl, Try.ntmps23⟩
instance : TFn Try.prog 24 := ⟨Try.call24⟩
instance : TBody Try.prog 24 Try.f24 (Try.f24.body.getD .skip) 24 := ⟨Try.func24, rfl, Try.ntmps24⟩
instance : TFn Try.prog 25 := ⟨Try.call25⟩
instance : TBody Try.prog 25 Try.f25 (Try.f25.body.getD .skip) 16 := ⟨Try.func25, rfl, Try.ntmps25⟩
instance : TFn Try.prog 26 := ⟨Try.call26⟩
instance : TBody Try.prog 26 Try.f26 (Try.f26.body.getD .skip) 33 := ⟨Try.func26, rfl, Try.ntmps26⟩
instance : TFn Try.prog 27 := ⟨Try.call27⟩
instance : TBody Try.prog 27 Try.f27 (Try.f27.body.getD .skip) 23 := ⟨Try.func27, rfl, Try.ntmps27⟩
instance : TFn Try.prog 28 := ⟨Try.call28⟩
instance : TBody Try.prog 28 Try.f28 (Try.f28.body.getD .skip) 34 := ⟨Try.func28, rfl, Try.ntmps28⟩
instance : TFn Try.prog 29 := ⟨Try.call29⟩
instance : TBody Try.prog 29 Try.f29 (Try.f29.body.getD .skip) 42 := ⟨Try.func29, rfl, Try.ntmps29⟩
instance : TFn Try.prog 30 := ⟨Try.call30⟩
instance : TBody Try.prog 30 Try.f30 (Try.f30.body.getD .skip) 8 := ⟨Try.func30, rfl, Try.ntmps30⟩
instance : TFn Try.prog 31 := ⟨Try.call31⟩
instance : TBody Try.prog 31 Try.f31 (Try.f31.body.getD .skip) 8 := ⟨Try.func31, rfl, Try.ntmps31⟩
instance : TFn Try.prog 32 := ⟨Try.call32⟩
instance : TBody Try.prog 32 Try.f32 (Try.f32.body.getD .skip) 8 := ⟨Try.func32, rfl, Try.ntmps32⟩
instance : TFn Try.prog 33 := ⟨Try.call33⟩
instance : TBody Try.prog 33 Try.f33 (Try.f33.body.getD .skip) 26 := ⟨Try.func33, rfl, Try.ntmps33⟩
instance : TFn Try.prog 34 := ⟨Try.call34⟩
instance : TBody Try.prog 34 Try.f34 (Try.f34.body.getD .skip) 17 := ⟨Try.func34, rfl, Try.ntmps34⟩
instance : TFn Try.prog 35 := ⟨Try.call35⟩
instance : TBody Try.prog 35 Try.f35 (Try.f35.body.getD .skip) 19 := ⟨Try.func35, rfl, Try.ntmps35⟩
instance : TFn Try.prog 36 := ⟨Try.call36⟩
instance : TBody Try.prog 36 Try.f36 (Try.f36.body.getD .skip) 26 := ⟨Try.func36, rfl, Try.ntmps36⟩
instance : TMix Try.prog := ⟨rfl⟩
end Go.Proofs.Ytlbpaokehdiinaa
