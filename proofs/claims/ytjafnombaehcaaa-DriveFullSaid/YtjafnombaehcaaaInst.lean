/- Written by program (gen_inst.py) for this seat: what the walk asks of its types and functions. -/
import Derived.Test.YtjafnombaehcaaaKB
import Derived.Test.YtjafnombaehcaaaProg
set_option maxRecDepth 100000
namespace Go.Proofs.Ytjafnombaehcaaa
open Go Go.Sx Go.Proofs
instance : TSz Try.prog 1 1 := ⟨Try.sizeOf1⟩
instance : TAgg Try.prog 1 false := ⟨Try.isAgg1⟩
instance : TZ Try.prog 1 (.nilFunc) := ⟨Try.zeroValue1⟩
instance : TZL Try.prog 1 [.nilFunc] := ⟨_, Try.zeroValue1, rfl⟩
instance : TIn Try.prog 1 1 8 (.nilFunc) := ⟨_, rfl, rfl, rfl, rfl, rfl, by decide⟩
instance : TSz Try.prog 2 1 := ⟨Try.sizeOf2⟩
instance : TAgg Try.prog 2 false := ⟨Try.isAgg2⟩
instance : TIt Try.prog 2 .i64 := ⟨Try.underlying2⟩
instance : TZ Try.prog 2 (.int .i64 0) := ⟨Try.zeroValue2⟩
instance : TZL Try.prog 2 [.int .i64 0] := ⟨_, Try.zeroValue2, rfl⟩
instance : TIn Try.prog 2 1 8 (.int .i64 0) := ⟨_, rfl, rfl, rfl, rfl, rfl, by decide⟩
instance : TSz Try.prog 3 1 := ⟨Try.sizeOf3⟩
instance : TAgg Try.prog 3 false := ⟨Try.isAgg3⟩
instance : TIt Try.prog 3 .i64 := ⟨Try.underlying3⟩
instance : TZ Try.prog 3 (.int .i64 0) := ⟨Try.zeroValue3⟩
instance : TZL Try.prog 3 [.int .i64 0] := ⟨_, Try.zeroValue3, rfl⟩
instance : TIn Try.prog 3 1 8 (.int .i64 0) := ⟨_, rfl, rfl, rfl, rfl, rfl, by decide⟩
instance : TSz Try.prog 4 1 := ⟨Try.sizeOf4⟩
instance : TAgg Try.prog 4 false := ⟨Try.isAgg4⟩
instance : TBo Try.prog 4 := ⟨Try.underlying4⟩
instance : TZ Try.prog 4 (.bool false) := ⟨Try.zeroValue4⟩
instance : TZL Try.prog 4 [.bool false] := ⟨_, Try.zeroValue4, rfl⟩
instance : TIn Try.prog 4 1 1 (.bool false) := ⟨_, rfl, rfl, rfl, rfl, rfl, by decide⟩
instance : TSz Try.prog 5 1 := ⟨Try.sizeOf5⟩
instance : TAgg Try.prog 5 false := ⟨Try.isAgg5⟩
instance : TIt Try.prog 5 .u8 := ⟨Try.underlying5⟩
instance : TZ Try.prog 5 (.int .u8 0) := ⟨Try.zeroValue5⟩
instance : TZL Try.prog 5 [.int .u8 0] := ⟨_, Try.zeroValue5, rfl⟩
instance : TIn Try.prog 5 1 1 (.int .u8 0) := ⟨_, rfl, rfl, rfl, rfl, rfl, by decide⟩
instance : TSz Try.prog 6 1 := ⟨Try.sizeOf6⟩
instance : TAgg Try.prog 6 false := ⟨Try.isAgg6⟩
instance : TIt Try.prog 6 .u8 := ⟨Try.underlying6⟩
instance : TZ Try.prog 6 (.int .u8 0) := ⟨Try.zeroValue6⟩
instance : TZL Try.prog 6 [.int .u8 0] := ⟨_, Try.zeroValue6, rfl⟩
instance : TIn Try.prog 6 1 1 (.int .u8 0) := ⟨_, rfl, rfl, rfl, rfl, rfl, by decide⟩
instance : TSz Try.prog 7 4 := ⟨Try.sizeOf7⟩
instance : TAgg Try.prog 7 true := ⟨Try.isAgg7⟩
instance : TPl Try.prog 7 [(0, 1), (1, 1), (2, 1), (3, 1)] := ⟨_, Try.underlying7, fun w => by simp [List.mapM_cons]⟩
instance : TFd Try.prog 7 0 0 2 := ⟨_, _, Try.underlying7, rfl, rfl, rfl, fun w => ⟨0, Try.sizeOf2 w⟩⟩
instance : TFd Try.prog 7 1 1 3 := ⟨_, _, Try.underlying7, rfl, rfl, rfl, fun w => ⟨0, Try.sizeOf3 w⟩⟩
instance : TFd Try.prog 7 2 2 4 := ⟨_, _, Try.underlying7, rfl, rfl, rfl, fun w => ⟨0, Try.sizeOf4 w⟩⟩
instance : TFd Try.prog 7 3 3 6 := ⟨_, _, Try.underlying7, rfl, rfl, rfl, fun w => ⟨0, Try.sizeOf6 w⟩⟩
instance : TZ Try.prog 7 (.agg #[.int .i64 0, .int .i64 0, .bool false, .int .u8 0]) := ⟨Try.zeroValue7⟩
instance : TZL Try.prog 7 [.int .i64 0, .int .i64 0, .bool false, .int .u8 0] := ⟨_, Try.zeroValue7, rfl⟩
instance : TIn Try.prog 7 4 24 (.agg #[.int .i64 0, .int .i64 0, .bool false, .int .u8 0]) := ⟨_, rfl, rfl, rfl, rfl, rfl, by decide⟩
instance : TSz Try.prog 8 4 := ⟨Try.sizeOf8⟩
instance : TAgg Try.prog 8 true := ⟨Try.isAgg8⟩
instance : TPl Try.prog 8 [(0, 1), (1, 1), (2, 1), (3, 1)] := ⟨_, Try.underlying8, fun w => by simp [List.mapM_cons]⟩
instance : TFd Try.prog 8 0 0 2 := ⟨_, _, Try.underlying8, rfl, rfl, rfl, fun w => ⟨0, Try.sizeOf2 w⟩⟩
instance : TFd Try.prog 8 1 1 3 := ⟨_, _, Try.underlying8, rfl, rfl, rfl, fun w => ⟨0, Try.sizeOf3 w⟩⟩
instance : TFd Try.prog 8 2 2 4 := ⟨_, _, Try.underlying8, rfl, rfl, rfl, fun w => ⟨0, Try.sizeOf4 w⟩⟩
instance : TFd Try.prog 8 3 3 6 := ⟨_, _, Try.underlying8, rfl, rfl, rfl, fun w => ⟨0, Try.sizeOf6 w⟩⟩
instance : TZ Try.prog 8 (.agg #[.int .i64 0, .int .i64 0, .bool false, .int .u8 0]) := ⟨Try.zeroValue8⟩
instance : TZL Try.prog 8 [.int .i64 0, .int .i64 0, .bool false, .int .u8 0] := ⟨_, Try.zeroValue8, rfl⟩
instance : TIn Try.prog 8 4 24 (.agg #[.int .i64 0, .int .i64 0, .bool false, .int .u8 0]) := ⟨_, rfl, rfl, rfl, rfl, rfl, by decide⟩
instance : TSz Try.prog 9 1 := ⟨Try.sizeOf9⟩
instance : TAgg Try.prog 9 false := ⟨Try.isAgg9⟩
instance : TSt Try.prog 9 := ⟨Try.underlying9⟩
instance : TZ Try.prog 9 (.string ⟨#[]⟩) := ⟨Try.zeroValue9⟩
instance : TZL Try.prog 9 [.string ⟨#[]⟩] := ⟨_, Try.zeroValue9, rfl⟩
instance : TIn Try.prog 9 1 16 (.string ⟨#[]⟩) := ⟨_, rfl, rfl, rfl, rfl, rfl, by decide⟩
instance : TSz Try.prog 10 1 := ⟨Try.sizeOf10⟩
instance : TAgg Try.prog 10 false := ⟨Try.isAgg10⟩
instance : TSt Try.prog 10 := ⟨Try.underlying10⟩
instance : TZ Try.prog 10 (.string ⟨#[]⟩) := ⟨Try.zeroValue10⟩
instance : TZL Try.prog 10 [.string ⟨#[]⟩] := ⟨_, Try.zeroValue10, rfl⟩
instance : TIn Try.prog 10 1 16 (.string ⟨#[]⟩) := ⟨_, rfl, rfl, rfl, rfl, rfl, by decide⟩
instance : TSz Try.prog 11 1 := ⟨Try.sizeOf11⟩
instance : TAgg Try.prog 11 false := ⟨Try.isAgg11⟩
instance : TSt Try.prog 11 := ⟨Try.underlying11⟩
instance : TZ Try.prog 11 (.string ⟨#[]⟩) := ⟨Try.zeroValue11⟩
instance : TZL Try.prog 11 [.string ⟨#[]⟩] := ⟨_, Try.zeroValue11, rfl⟩
instance : TIn Try.prog 11 1 16 (.string ⟨#[]⟩) := ⟨_, rfl, rfl, rfl, rfl, rfl, by decide⟩
instance : TSz Try.prog 12 1 := ⟨Try.sizeOf12⟩
instance : TAgg Try.prog 12 false := ⟨Try.isAgg12⟩
instance : TIt Try.prog 12 .u64 := ⟨Try.underlying12⟩
instance : TZ Try.prog 12 (.int .u64 0) := ⟨Try.zeroValue12⟩
instance : TZL Try.prog 12 [.int .u64 0] := ⟨_, Try.zeroValue12, rfl⟩
instance : TIn Try.prog 12 1 8 (.int .u64 0) := ⟨_, rfl, rfl, rfl, rfl, rfl, by decide⟩
instance : TSz Try.prog 13 2 := ⟨Try.sizeOf13⟩
instance : TAgg Try.prog 13 true := ⟨Try.isAgg13⟩
instance : TPl Try.prog 13 [(0, 1), (1, 1)] := ⟨_, Try.underlying13, fun w => by simp [List.mapM_cons]⟩
instance : TFd Try.prog 13 0 0 9 := ⟨_, _, Try.underlying13, rfl, rfl, rfl, fun w => ⟨0, Try.sizeOf9 w⟩⟩
instance : TFd Try.prog 13 1 1 12 := ⟨_, _, Try.underlying13, rfl, rfl, rfl, fun w => ⟨0, Try.sizeOf12 w⟩⟩
instance : TZ Try.prog 13 (.agg #[.string ⟨#[]⟩, .int .u64 0]) := ⟨Try.zeroValue13⟩
instance : TZL Try.prog 13 [.string ⟨#[]⟩, .int .u64 0] := ⟨_, Try.zeroValue13, rfl⟩
instance : TIn Try.prog 13 2 24 (.agg #[.string ⟨#[]⟩, .int .u64 0]) := ⟨_, rfl, rfl, rfl, rfl, rfl, by decide⟩
instance : TSz Try.prog 14 2 := ⟨Try.sizeOf14⟩
instance : TAgg Try.prog 14 true := ⟨Try.isAgg14⟩
instance : TPl Try.prog 14 [(0, 1), (1, 1)] := ⟨_, Try.underlying14, fun w => by simp [List.mapM_cons]⟩
instance : TFd Try.prog 14 0 0 9 := ⟨_, _, Try.underlying14, rfl, rfl, rfl, fun w => ⟨0, Try.sizeOf9 w⟩⟩
instance : TFd Try.prog 14 1 1 12 := ⟨_, _, Try.underlying14, rfl, rfl, rfl, fun w => ⟨0, Try.sizeOf12 w⟩⟩
instance : TZ Try.prog 14 (.agg #[.string ⟨#[]⟩, .int .u64 0]) := ⟨Try.zeroValue14⟩
instance : TZL Try.prog 14 [.string ⟨#[]⟩, .int .u64 0] := ⟨_, Try.zeroValue14, rfl⟩
instance : TIn Try.prog 14 2 24 (.agg #[.string ⟨#[]⟩, .int .u64 0]) := ⟨_, rfl, rfl, rfl, rfl, rfl, by decide⟩
instance : TSz Try.prog 15 1 := ⟨Try.sizeOf15⟩
instance : TAgg Try.prog 15 false := ⟨Try.isAgg15⟩
instance : TPt Try.prog 15 := ⟨_, Try.underlying15⟩
instance : TZ Try.prog 15 (.pointer none) := ⟨Try.zeroValue15⟩
instance : TZL Try.prog 15 [.pointer none] := ⟨_, Try.zeroValue15, rfl⟩
instance : TIn Try.prog 15 1 8 (.pointer none) := ⟨_, rfl, rfl, rfl, rfl, rfl, by decide⟩
instance : TSz Try.prog 16 1 := ⟨Try.sizeOf16⟩
instance : TAgg Try.prog 16 false := ⟨Try.isAgg16⟩
instance : TPt Try.prog 16 := ⟨_, Try.underlying16⟩
instance : TZ Try.prog 16 (.pointer none) := ⟨Try.zeroValue16⟩
instance : TZL Try.prog 16 [.pointer none] := ⟨_, Try.zeroValue16, rfl⟩
instance : TIn Try.prog 16 1 8 (.pointer none) := ⟨_, rfl, rfl, rfl, rfl, rfl, by decide⟩
instance : TSz Try.prog 17 1 := ⟨Try.sizeOf17⟩
instance : TAgg Try.prog 17 false := ⟨Try.isAgg17⟩
instance : TPt Try.prog 17 := ⟨_, Try.underlying17⟩
instance : TZ Try.prog 17 (.pointer none) := ⟨Try.zeroValue17⟩
instance : TZL Try.prog 17 [.pointer none] := ⟨_, Try.zeroValue17, rfl⟩
instance : TIn Try.prog 17 1 8 (.pointer none) := ⟨_, rfl, rfl, rfl, rfl, rfl, by decide⟩
instance : TSz Try.prog 18 1 := ⟨Try.sizeOf18⟩
instance : TAgg Try.prog 18 true := ⟨Try.isAgg18⟩
instance : TPl Try.prog 18 [(0, 1)] := ⟨_, Try.underlying18, fun w => by simp [List.mapM_cons]⟩
instance : TFd Try.prog 18 0 0 17 := ⟨_, _, Try.underlying18, rfl, rfl, rfl, fun w => ⟨0, Try.sizeOf17 w⟩⟩
instance : TZ Try.prog 18 (.agg #[.pointer none]) := ⟨Try.zeroValue18⟩
instance : TZL Try.prog 18 [.pointer none] := ⟨_, Try.zeroValue18, rfl⟩
instance : TIn Try.prog 18 1 8 (.agg #[.pointer none]) := ⟨_, rfl, rfl, rfl, rfl, rfl, by decide⟩
instance : TSz Try.prog 19 1 := ⟨Try.sizeOf19⟩
instance : TAgg Try.prog 19 true := ⟨Try.isAgg19⟩
instance : TPl Try.prog 19 [(0, 1)] := ⟨_, Try.underlying19, fun w => by simp [List.mapM_cons]⟩
instance : TFd Try.prog 19 0 0 17 := ⟨_, _, Try.underlying19, rfl, rfl, rfl, fun w => ⟨0, Try.sizeOf17 w⟩⟩
instance : TZ Try.prog 19 (.agg #[.pointer none]) := ⟨Try.zeroValue19⟩
instance : TZL Try.prog 19 [.pointer none] := ⟨_, Try.zeroValue19, rfl⟩
instance : TIn Try.prog 19 1 8 (.agg #[.pointer none]) := ⟨_, rfl, rfl, rfl, rfl, rfl, by decide⟩
instance : TSz Try.prog 20 1 := ⟨Try.sizeOf20⟩
instance : TAgg Try.prog 20 false := ⟨Try.isAgg20⟩
instance : TZ Try.prog 20 (.nilIface) := ⟨Try.zeroValue20⟩
instance : TZL Try.prog 20 [.nilIface] := ⟨_, Try.zeroValue20, rfl⟩
instance : TIn Try.prog 20 1 16 (.nilIface) := ⟨_, rfl, rfl, rfl, rfl, rfl, by decide⟩
instance : TSz Try.prog 21 1 := ⟨Try.sizeOf21⟩
instance : TAgg Try.prog 21 false := ⟨Try.isAgg21⟩
instance : TIt Try.prog 21 .i32 := ⟨Try.underlying21⟩
instance : TZ Try.prog 21 (.int .i32 0) := ⟨Try.zeroValue21⟩
instance : TZL Try.prog 21 [.int .i32 0] := ⟨_, Try.zeroValue21, rfl⟩
instance : TIn Try.prog 21 1 4 (.int .i32 0) := ⟨_, rfl, rfl, rfl, rfl, rfl, by decide⟩
instance : TSz Try.prog 22 1 := ⟨Try.sizeOf22⟩
instance : TAgg Try.prog 22 false := ⟨Try.isAgg22⟩
instance : TZ Try.prog 22 (.nilFunc) := ⟨Try.zeroValue22⟩
instance : TZL Try.prog 22 [.nilFunc] := ⟨_, Try.zeroValue22, rfl⟩
instance : TIn Try.prog 22 1 8 (.nilFunc) := ⟨_, rfl, rfl, rfl, rfl, rfl, by decide⟩
instance : TSz Try.prog 23 1 := ⟨Try.sizeOf23⟩
instance : TAgg Try.prog 23 false := ⟨Try.isAgg23⟩
instance : TIt Try.prog 23 .u64 := ⟨Try.underlying23⟩
instance : TZ Try.prog 23 (.int .u64 0) := ⟨Try.zeroValue23⟩
instance : TZL Try.prog 23 [.int .u64 0] := ⟨_, Try.zeroValue23, rfl⟩
instance : TIn Try.prog 23 1 8 (.int .u64 0) := ⟨_, rfl, rfl, rfl, rfl, rfl, by decide⟩
instance : TSz Try.prog 24 1 := ⟨Try.sizeOf24⟩
instance : TAgg Try.prog 24 false := ⟨Try.isAgg24⟩
instance : TPt Try.prog 24 := ⟨_, Try.underlying24⟩
instance : TZ Try.prog 24 (.pointer none) := ⟨Try.zeroValue24⟩
instance : TZL Try.prog 24 [.pointer none] := ⟨_, Try.zeroValue24, rfl⟩
instance : TIn Try.prog 24 1 8 (.pointer none) := ⟨_, rfl, rfl, rfl, rfl, rfl, by decide⟩
instance : TSz Try.prog 25 1 := ⟨Try.sizeOf25⟩
instance : TAgg Try.prog 25 false := ⟨Try.isAgg25⟩
instance : TZ Try.prog 25 (.nilFunc) := ⟨Try.zeroValue25⟩
instance : TZL Try.prog 25 [.nilFunc] := ⟨_, Try.zeroValue25, rfl⟩
instance : TIn Try.prog 25 1 8 (.nilFunc) := ⟨_, rfl, rfl, rfl, rfl, rfl, by decide⟩
instance : TSz Try.prog 26 1 := ⟨Try.sizeOf26⟩
instance : TAgg Try.prog 26 false := ⟨Try.isAgg26⟩
instance : TIt Try.prog 26 .i64 := ⟨Try.underlying26⟩
instance : TZ Try.prog 26 (.int .i64 0) := ⟨Try.zeroValue26⟩
instance : TZL Try.prog 26 [.int .i64 0] := ⟨_, Try.zeroValue26, rfl⟩
instance : TIn Try.prog 26 1 8 (.int .i64 0) := ⟨_, rfl, rfl, rfl, rfl, rfl, by decide⟩
instance : TSz Try.prog 27 1 := ⟨Try.sizeOf27⟩
instance : TAgg Try.prog 27 false := ⟨Try.isAgg27⟩
instance : TZ Try.prog 27 (.nilFunc) := ⟨Try.zeroValue27⟩
instance : TZL Try.prog 27 [.nilFunc] := ⟨_, Try.zeroValue27, rfl⟩
instance : TIn Try.prog 27 1 8 (.nilFunc) := ⟨_, rfl, rfl, rfl, rfl, rfl, by decide⟩
instance : TSz Try.prog 28 1 := ⟨Try.sizeOf28⟩
instance : TAgg Try.prog 28 false := ⟨Try.isAgg28⟩
instance : TSl Try.prog 28 5 := ⟨Try.underlying28⟩
instance : TZ Try.prog 28 (.slice none 0 0) := ⟨Try.zeroValue28⟩
instance : TZL Try.prog 28 [.slice none 0 0] := ⟨_, Try.zeroValue28, rfl⟩
instance : TIn Try.prog 28 1 24 (.slice none 0 0) := ⟨_, rfl, rfl, rfl, rfl, rfl, by decide⟩
instance : TSz Try.prog 29 1 := ⟨Try.sizeOf29⟩
instance : TAgg Try.prog 29 false := ⟨Try.isAgg29⟩
instance : TZ Try.prog 29 (.nilFunc) := ⟨Try.zeroValue29⟩
instance : TZL Try.prog 29 [.nilFunc] := ⟨_, Try.zeroValue29, rfl⟩
instance : TIn Try.prog 29 1 8 (.nilFunc) := ⟨_, rfl, rfl, rfl, rfl, rfl, by decide⟩
instance : TSz Try.prog 30 1 := ⟨Try.sizeOf30⟩
instance : TAgg Try.prog 30 false := ⟨Try.isAgg30⟩
instance : TZ Try.prog 30 (.nilFunc) := ⟨Try.zeroValue30⟩
instance : TZL Try.prog 30 [.nilFunc] := ⟨_, Try.zeroValue30, rfl⟩
instance : TIn Try.prog 30 1 8 (.nilFunc) := ⟨_, rfl, rfl, rfl, rfl, rfl, by decide⟩
instance : TSz Try.prog 31 1 := ⟨Try.sizeOf31⟩
instance : TAgg Try.prog 31 false := ⟨Try.isAgg31⟩
instance : TZ Try.prog 31 (.nilFunc) := ⟨Try.zeroValue31⟩
instance : TZL Try.prog 31 [.nilFunc] := ⟨_, Try.zeroValue31, rfl⟩
instance : TIn Try.prog 31 1 8 (.nilFunc) := ⟨_, rfl, rfl, rfl, rfl, rfl, by decide⟩
instance : TSz Try.prog 32 1 := ⟨Try.sizeOf32⟩
instance : TAgg Try.prog 32 false := ⟨Try.isAgg32⟩
instance : TSl Try.prog 32 9 := ⟨Try.underlying32⟩
instance : TZ Try.prog 32 (.slice none 0 0) := ⟨Try.zeroValue32⟩
instance : TZL Try.prog 32 [.slice none 0 0] := ⟨_, Try.zeroValue32, rfl⟩
instance : TIn Try.prog 32 1 24 (.slice none 0 0) := ⟨_, rfl, rfl, rfl, rfl, rfl, by decide⟩
instance : TSz Try.prog 33 1 := ⟨Try.sizeOf33⟩
instance : TAgg Try.prog 33 false := ⟨Try.isAgg33⟩
instance : TZ Try.prog 33 (.nilFunc) := ⟨Try.zeroValue33⟩
instance : TZL Try.prog 33 [.nilFunc] := ⟨_, Try.zeroValue33, rfl⟩
instance : TIn Try.prog 33 1 8 (.nilFunc) := ⟨_, rfl, rfl, rfl, rfl, rfl, by decide⟩
instance : TSz Try.prog 34 1 := ⟨Try.sizeOf34⟩
instance : TAgg Try.prog 34 false := ⟨Try.isAgg34⟩
instance : TZ Try.prog 34 (.nilFunc) := ⟨Try.zeroValue34⟩
instance : TZL Try.prog 34 [.nilFunc] := ⟨_, Try.zeroValue34, rfl⟩
instance : TIn Try.prog 34 1 8 (.nilFunc) := ⟨_, rfl, rfl, rfl, rfl, rfl, by decide⟩
instance : TSz Try.prog 35 1 := ⟨Try.sizeOf35⟩
instance : TAgg Try.prog 35 false := ⟨Try.isAgg35⟩
instance : TSl Try.prog 35 50 := ⟨Try.underlying35⟩
instance : TZ Try.prog 35 (.slice none 0 0) := ⟨Try.zeroValue35⟩
instance : TZL Try.prog 35 [.slice none 0 0] := ⟨_, Try.zeroValue35, rfl⟩
instance : TIn Try.prog 35 1 24 (.slice none 0 0) := ⟨_, rfl, rfl, rfl, rfl, rfl, by decide⟩
instance : TSz Try.prog 36 1 := ⟨Try.sizeOf36⟩
instance : TAgg Try.prog 36 false := ⟨Try.isAgg36⟩
instance : TSl Try.prog 36 75 := ⟨Try.underlying36⟩
instance : TZ Try.prog 36 (.slice none 0 0) := ⟨Try.zeroValue36⟩
instance : TZL Try.prog 36 [.slice none 0 0] := ⟨_, Try.zeroValue36, rfl⟩
instance : TIn Try.prog 36 1 24 (.slice none 0 0) := ⟨_, rfl, rfl, rfl, rfl, rfl, by decide⟩
instance : TSz Try.prog 37 4 := ⟨Try.sizeOf37⟩
instance : TAgg Try.prog 37 true := ⟨Try.isAgg37⟩
instance : TPl Try.prog 37 [(0, 1), (1, 1), (2, 1), (3, 1)] := ⟨_, Try.underlying37, fun w => by simp [List.mapM_cons]⟩
instance : TFd Try.prog 37 0 0 36 := ⟨_, _, Try.underlying37, rfl, rfl, rfl, fun w => ⟨0, Try.sizeOf36 w⟩⟩
instance : TFd Try.prog 37 1 1 3 := ⟨_, _, Try.underlying37, rfl, rfl, rfl, fun w => ⟨0, Try.sizeOf3 w⟩⟩
instance : TFd Try.prog 37 2 2 4 := ⟨_, _, Try.underlying37, rfl, rfl, rfl, fun w => ⟨0, Try.sizeOf4 w⟩⟩
instance : TFd Try.prog 37 3 3 3 := ⟨_, _, Try.underlying37, rfl, rfl, rfl, fun w => ⟨0, Try.sizeOf3 w⟩⟩
instance : TZ Try.prog 37 (.agg #[.slice none 0 0, .int .i64 0, .bool false, .int .i64 0]) := ⟨Try.zeroValue37⟩
instance : TZL Try.prog 37 [.slice none 0 0, .int .i64 0, .bool false, .int .i64 0] := ⟨_, Try.zeroValue37, rfl⟩
instance : TIn Try.prog 37 4 48 (.agg #[.slice none 0 0, .int .i64 0, .bool false, .int .i64 0]) := ⟨_, rfl, rfl, rfl, rfl, rfl, by decide⟩
instance : TSz Try.prog 38 4 := ⟨Try.sizeOf38⟩
instance : TAgg Try.prog 38 true := ⟨Try.isAgg38⟩
instance : TPl Try.prog 38 [(0, 1), (1, 1), (2, 1), (3, 1)] := ⟨_, Try.underlying38, fun w => by simp [List.mapM_cons]⟩
instance : TFd Try.prog 38 0 0 36 := ⟨_, _, Try.underlying38, rfl, rfl, rfl, fun w => ⟨0, Try.sizeOf36 w⟩⟩
instance : TFd Try.prog 38 1 1 3 := ⟨_, _, Try.underlying38, rfl, rfl, rfl, fun w => ⟨0, Try.sizeOf3 w⟩⟩
instance : TFd Try.prog 38 2 2 4 := ⟨_, _, Try.underlying38, rfl, rfl, rfl, fun w => ⟨0, Try.sizeOf4 w⟩⟩
instance : TFd Try.prog 38 3 3 3 := ⟨_, _, Try.underlying38, rfl, rfl, rfl, fun w => ⟨0, Try.sizeOf3 w⟩⟩
instance : TZ Try.prog 38 (.agg #[.slice none 0 0, .int .i64 0, .bool false, .int .i64 0]) := ⟨Try.zeroValue38⟩
instance : TZL Try.prog 38 [.slice none 0 0, .int .i64 0, .bool false, .int .i64 0] := ⟨_, Try.zeroValue38, rfl⟩
instance : TIn Try.prog 38 4 48 (.agg #[.slice none 0 0, .int .i64 0, .bool false, .int .i64 0]) := ⟨_, rfl, rfl, rfl, rfl, rfl, by decide⟩
instance : TSz Try.prog 40 1 := ⟨Try.sizeOf40⟩
instance : TAgg Try.prog 40 false := ⟨Try.isAgg40⟩
instance : TZ Try.prog 40 (.nilFunc) := ⟨Try.zeroValue40⟩
instance : TZL Try.prog 40 [.nilFunc] := ⟨_, Try.zeroValue40, rfl⟩
instance : TIn Try.prog 40 1 8 (.nilFunc) := ⟨_, rfl, rfl, rfl, rfl, rfl, by decide⟩
instance : TSz Try.prog 41 1 := ⟨Try.sizeOf41⟩
instance : TAgg Try.prog 41 false := ⟨Try.isAgg41⟩
instance : TZ Try.prog 41 (.nilFunc) := ⟨Try.zeroValue41⟩
instance : TZL Try.prog 41 [.nilFunc] := ⟨_, Try.zeroValue41, rfl⟩
instance : TIn Try.prog 41 1 8 (.nilFunc) := ⟨_, rfl, rfl, rfl, rfl, rfl, by decide⟩
instance : TSz Try.prog 42 1 := ⟨Try.sizeOf42⟩
instance : TAgg Try.prog 42 false := ⟨Try.isAgg42⟩
instance : TSl Try.prog 42 44 := ⟨Try.underlying42⟩
instance : TZ Try.prog 42 (.slice none 0 0) := ⟨Try.zeroValue42⟩
instance : TZL Try.prog 42 [.slice none 0 0] := ⟨_, Try.zeroValue42, rfl⟩
instance : TIn Try.prog 42 1 24 (.slice none 0 0) := ⟨_, rfl, rfl, rfl, rfl, rfl, by decide⟩
instance : TSz Try.prog 43 1 := ⟨Try.sizeOf43⟩
instance : TAgg Try.prog 43 false := ⟨Try.isAgg43⟩
instance : TZ Try.prog 43 (.nilFunc) := ⟨Try.zeroValue43⟩
instance : TZL Try.prog 43 [.nilFunc] := ⟨_, Try.zeroValue43, rfl⟩
instance : TIn Try.prog 43 1 8 (.nilFunc) := ⟨_, rfl, rfl, rfl, rfl, rfl, by decide⟩
instance : TSz Try.prog 44 1 := ⟨Try.sizeOf44⟩
instance : TAgg Try.prog 44 false := ⟨Try.isAgg44⟩
instance : TSl Try.prog 44 3 := ⟨Try.underlying44⟩
instance : TZ Try.prog 44 (.slice none 0 0) := ⟨Try.zeroValue44⟩
instance : TZL Try.prog 44 [.slice none 0 0] := ⟨_, Try.zeroValue44, rfl⟩
instance : TIn Try.prog 44 1 24 (.slice none 0 0) := ⟨_, rfl, rfl, rfl, rfl, rfl, by decide⟩
instance : TSz Try.prog 45 1 := ⟨Try.sizeOf45⟩
instance : TAgg Try.prog 45 false := ⟨Try.isAgg45⟩
instance : TZ Try.prog 45 (.nilFunc) := ⟨Try.zeroValue45⟩
instance : TZL Try.prog 45 [.nilFunc] := ⟨_, Try.zeroValue45, rfl⟩
instance : TIn Try.prog 45 1 8 (.nilFunc) := ⟨_, rfl, rfl, rfl, rfl, rfl, by decide⟩
instance : TSz Try.prog 46 1 := ⟨Try.sizeOf46⟩
instance : TAgg Try.prog 46 false := ⟨Try.isAgg46⟩
instance : TZ Try.prog 46 (.nilFunc) := ⟨Try.zeroValue46⟩
instance : TZL Try.prog 46 [.nilFunc] := ⟨_, Try.zeroValue46, rfl⟩
instance : TIn Try.prog 46 1 8 (.nilFunc) := ⟨_, rfl, rfl, rfl, rfl, rfl, by decide⟩
instance : TSz Try.prog 47 1 := ⟨Try.sizeOf47⟩
instance : TAgg Try.prog 47 false := ⟨Try.isAgg47⟩
instance : TZ Try.prog 47 (.nilFunc) := ⟨Try.zeroValue47⟩
instance : TZL Try.prog 47 [.nilFunc] := ⟨_, Try.zeroValue47, rfl⟩
instance : TIn Try.prog 47 1 8 (.nilFunc) := ⟨_, rfl, rfl, rfl, rfl, rfl, by decide⟩
instance : TSz Try.prog 48 1 := ⟨Try.sizeOf48⟩
instance : TAgg Try.prog 48 false := ⟨Try.isAgg48⟩
instance : TZ Try.prog 48 (.nilFunc) := ⟨Try.zeroValue48⟩
instance : TZL Try.prog 48 [.nilFunc] := ⟨_, Try.zeroValue48, rfl⟩
instance : TIn Try.prog 48 1 8 (.nilFunc) := ⟨_, rfl, rfl, rfl, rfl, rfl, by decide⟩
instance : TSz Try.prog 49 6 := ⟨Try.sizeOf49⟩
instance : TAgg Try.prog 49 true := ⟨Try.isAgg49⟩
instance : TPl Try.prog 49 [(0, 1), (1, 1), (2, 1), (3, 1), (4, 1), (5, 1)] := ⟨_, Try.underlying49, fun w => by simp [List.mapM_cons]⟩
instance : TFd Try.prog 49 0 0 3 := ⟨_, _, Try.underlying49, rfl, rfl, rfl, fun w => ⟨0, Try.sizeOf3 w⟩⟩
instance : TFd Try.prog 49 1 1 9 := ⟨_, _, Try.underlying49, rfl, rfl, rfl, fun w => ⟨0, Try.sizeOf9 w⟩⟩
instance : TFd Try.prog 49 2 2 9 := ⟨_, _, Try.underlying49, rfl, rfl, rfl, fun w => ⟨0, Try.sizeOf9 w⟩⟩
instance : TFd Try.prog 49 3 3 28 := ⟨_, _, Try.underlying49, rfl, rfl, rfl, fun w => ⟨0, Try.sizeOf28 w⟩⟩
instance : TFd Try.prog 49 4 4 3 := ⟨_, _, Try.underlying49, rfl, rfl, rfl, fun w => ⟨0, Try.sizeOf3 w⟩⟩
instance : TFd Try.prog 49 5 5 44 := ⟨_, _, Try.underlying49, rfl, rfl, rfl, fun w => ⟨0, Try.sizeOf44 w⟩⟩
instance : TZ Try.prog 49 (.agg #[.int .i64 0, .string ⟨#[]⟩, .string ⟨#[]⟩, .slice none 0 0, .int .i64 0, .slice none 0 0]) := ⟨Try.zeroValue49⟩
instance : TZL Try.prog 49 [.int .i64 0, .string ⟨#[]⟩, .string ⟨#[]⟩, .slice none 0 0, .int .i64 0, .slice none 0 0] := ⟨_, Try.zeroValue49, rfl⟩
instance : TIn Try.prog 49 6 96 (.agg #[.int .i64 0, .string ⟨#[]⟩, .string ⟨#[]⟩, .slice none 0 0, .int .i64 0, .slice none 0 0]) := ⟨_, rfl, rfl, rfl, rfl, rfl, by decide⟩
instance : TSz Try.prog 50 6 := ⟨Try.sizeOf50⟩
instance : TAgg Try.prog 50 true := ⟨Try.isAgg50⟩
instance : TPl Try.prog 50 [(0, 1), (1, 1), (2, 1), (3, 1), (4, 1), (5, 1)] := ⟨_, Try.underlying50, fun w => by simp [List.mapM_cons]⟩
instance : TFd Try.prog 50 0 0 3 := ⟨_, _, Try.underlying50, rfl, rfl, rfl, fun w => ⟨0, Try.sizeOf3 w⟩⟩
instance : TFd Try.prog 50 1 1 9 := ⟨_, _, Try.underlying50, rfl, rfl, rfl, fun w => ⟨0, Try.sizeOf9 w⟩⟩
instance : TFd Try.prog 50 2 2 9 := ⟨_, _, Try.underlying50, rfl, rfl, rfl, fun w => ⟨0, Try.sizeOf9 w⟩⟩
instance : TFd Try.prog 50 3 3 28 := ⟨_, _, Try.underlying50, rfl, rfl, rfl, fun w => ⟨0, Try.sizeOf28 w⟩⟩
instance : TFd Try.prog 50 4 4 3 := ⟨_, _, Try.underlying50, rfl, rfl, rfl, fun w => ⟨0, Try.sizeOf3 w⟩⟩
instance : TFd Try.prog 50 5 5 44 := ⟨_, _, Try.underlying50, rfl, rfl, rfl, fun w => ⟨0, Try.sizeOf44 w⟩⟩
instance : TZ Try.prog 50 (.agg #[.int .i64 0, .string ⟨#[]⟩, .string ⟨#[]⟩, .slice none 0 0, .int .i64 0, .slice none 0 0]) := ⟨Try.zeroValue50⟩
instance : TZL Try.prog 50 [.int .i64 0, .string ⟨#[]⟩, .string ⟨#[]⟩, .slice none 0 0, .int .i64 0, .slice none 0 0] := ⟨_, Try.zeroValue50, rfl⟩
instance : TIn Try.prog 50 6 96 (.agg #[.int .i64 0, .string ⟨#[]⟩, .string ⟨#[]⟩, .slice none 0 0, .int .i64 0, .slice none 0 0]) := ⟨_, rfl, rfl, rfl, rfl, rfl, by decide⟩
instance : TSz Try.prog 51 1 := ⟨Try.sizeOf51⟩
instance : TAgg Try.prog 51 false := ⟨Try.isAgg51⟩
instance : TZ Try.prog 51 (.nilFunc) := ⟨Try.zeroValue51⟩
instance : TZL Try.prog 51 [.nilFunc] := ⟨_, Try.zeroValue51, rfl⟩
instance : TIn Try.prog 51 1 8 (.nilFunc) := ⟨_, rfl, rfl, rfl, rfl, rfl, by decide⟩
instance : TSz Try.prog 52 1 := ⟨Try.sizeOf52⟩
instance : TAgg Try.prog 52 false := ⟨Try.isAgg52⟩
instance : TZ Try.prog 52 (.nilFunc) := ⟨Try.zeroValue52⟩
instance : TZL Try.prog 52 [.nilFunc] := ⟨_, Try.zeroValue52, rfl⟩
instance : TIn Try.prog 52 1 8 (.nilFunc) := ⟨_, rfl, rfl, rfl, rfl, rfl, by decide⟩
instance : TSz Try.prog 53 1 := ⟨Try.sizeOf53⟩
instance : TAgg Try.prog 53 false := ⟨Try.isAgg53⟩
instance : TZ Try.prog 53 (.nilFunc) := ⟨Try.zeroValue53⟩
instance : TZL Try.prog 53 [.nilFunc] := ⟨_, Try.zeroValue53, rfl⟩
instance : TIn Try.prog 53 1 8 (.nilFunc) := ⟨_, rfl, rfl, rfl, rfl, rfl, by decide⟩
instance : TSz Try.prog 55 1 := ⟨Try.sizeOf55⟩
instance : TAgg Try.prog 55 false := ⟨Try.isAgg55⟩
instance : TZ Try.prog 55 (.nilFunc) := ⟨Try.zeroValue55⟩
instance : TZL Try.prog 55 [.nilFunc] := ⟨_, Try.zeroValue55, rfl⟩
instance : TIn Try.prog 55 1 8 (.nilFunc) := ⟨_, rfl, rfl, rfl, rfl, rfl, by decide⟩
instance : TSz Try.prog 57 1 := ⟨Try.sizeOf57⟩
instance : TAgg Try.prog 57 false := ⟨Try.isAgg57⟩
instance : TZ Try.prog 57 (.nilFunc) := ⟨Try.zeroValue57⟩
instance : TZL Try.prog 57 [.nilFunc] := ⟨_, Try.zeroValue57, rfl⟩
instance : TIn Try.prog 57 1 8 (.nilFunc) := ⟨_, rfl, rfl, rfl, rfl, rfl, by decide⟩
instance : TSz Try.prog 58 1 := ⟨Try.sizeOf58⟩
instance : TAgg Try.prog 58 false := ⟨Try.isAgg58⟩
instance : TZ Try.prog 58 (.nilFunc) := ⟨Try.zeroValue58⟩
instance : TZL Try.prog 58 [.nilFunc] := ⟨_, Try.zeroValue58, rfl⟩
instance : TIn Try.prog 58 1 8 (.nilFunc) := ⟨_, rfl, rfl, rfl, rfl, rfl, by decide⟩
instance : TSz Try.prog 59 1 := ⟨Try.sizeOf59⟩
instance : TAgg Try.prog 59 false := ⟨Try.isAgg59⟩
instance : TMap Try.prog 59 9 62 := ⟨Try.underlying59⟩
instance : TZ Try.prog 59 (.map none) := ⟨Try.zeroValue59⟩
instance : TZL Try.prog 59 [.map none] := ⟨_, Try.zeroValue59, rfl⟩
instance : TIn Try.prog 59 1 8 (.map none) := ⟨_, rfl, rfl, rfl, rfl, rfl, by decide⟩
instance : TSz Try.prog 60 4 := ⟨Try.sizeOf60⟩
instance : TAgg Try.prog 60 true := ⟨Try.isAgg60⟩
instance : TPl Try.prog 60 [(0, 1), (1, 1), (2, 1), (3, 1)] := ⟨_, Try.underlying60, fun w => by simp [List.mapM_cons]⟩
instance : TFd Try.prog 60 0 0 59 := ⟨_, _, Try.underlying60, rfl, rfl, rfl, fun w => ⟨0, Try.sizeOf59 w⟩⟩
instance : TFd Try.prog 60 1 1 3 := ⟨_, _, Try.underlying60, rfl, rfl, rfl, fun w => ⟨0, Try.sizeOf3 w⟩⟩
instance : TFd Try.prog 60 2 2 4 := ⟨_, _, Try.underlying60, rfl, rfl, rfl, fun w => ⟨0, Try.sizeOf4 w⟩⟩
instance : TFd Try.prog 60 3 3 3 := ⟨_, _, Try.underlying60, rfl, rfl, rfl, fun w => ⟨0, Try.sizeOf3 w⟩⟩
instance : TZ Try.prog 60 (.agg #[.map none, .int .i64 0, .bool false, .int .i64 0]) := ⟨Try.zeroValue60⟩
instance : TZL Try.prog 60 [.map none, .int .i64 0, .bool false, .int .i64 0] := ⟨_, Try.zeroValue60, rfl⟩
instance : TIn Try.prog 60 4 32 (.agg #[.map none, .int .i64 0, .bool false, .int .i64 0]) := ⟨_, rfl, rfl, rfl, rfl, rfl, by decide⟩
instance : TSz Try.prog 61 4 := ⟨Try.sizeOf61⟩
instance : TAgg Try.prog 61 true := ⟨Try.isAgg61⟩
instance : TPl Try.prog 61 [(0, 1), (1, 1), (2, 1), (3, 1)] := ⟨_, Try.underlying61, fun w => by simp [List.mapM_cons]⟩
instance : TFd Try.prog 61 0 0 59 := ⟨_, _, Try.underlying61, rfl, rfl, rfl, fun w => ⟨0, Try.sizeOf59 w⟩⟩
instance : TFd Try.prog 61 1 1 3 := ⟨_, _, Try.underlying61, rfl, rfl, rfl, fun w => ⟨0, Try.sizeOf3 w⟩⟩
instance : TFd Try.prog 61 2 2 4 := ⟨_, _, Try.underlying61, rfl, rfl, rfl, fun w => ⟨0, Try.sizeOf4 w⟩⟩
instance : TFd Try.prog 61 3 3 3 := ⟨_, _, Try.underlying61, rfl, rfl, rfl, fun w => ⟨0, Try.sizeOf3 w⟩⟩
instance : TZ Try.prog 61 (.agg #[.map none, .int .i64 0, .bool false, .int .i64 0]) := ⟨Try.zeroValue61⟩
instance : TZL Try.prog 61 [.map none, .int .i64 0, .bool false, .int .i64 0] := ⟨_, Try.zeroValue61, rfl⟩
instance : TIn Try.prog 61 4 32 (.agg #[.map none, .int .i64 0, .bool false, .int .i64 0]) := ⟨_, rfl, rfl, rfl, rfl, rfl, by decide⟩
instance : TSz Try.prog 62 1 := ⟨Try.sizeOf62⟩
instance : TAgg Try.prog 62 false := ⟨Try.isAgg62⟩
instance : TPt Try.prog 62 := ⟨_, Try.underlying62⟩
instance : TZ Try.prog 62 (.pointer none) := ⟨Try.zeroValue62⟩
instance : TZL Try.prog 62 [.pointer none] := ⟨_, Try.zeroValue62, rfl⟩
instance : TIn Try.prog 62 1 8 (.pointer none) := ⟨_, rfl, rfl, rfl, rfl, rfl, by decide⟩
instance : TSz Try.prog 64 1 := ⟨Try.sizeOf64⟩
instance : TAgg Try.prog 64 false := ⟨Try.isAgg64⟩
instance : TZ Try.prog 64 (.nilFunc) := ⟨Try.zeroValue64⟩
instance : TZL Try.prog 64 [.nilFunc] := ⟨_, Try.zeroValue64, rfl⟩
instance : TIn Try.prog 64 1 8 (.nilFunc) := ⟨_, rfl, rfl, rfl, rfl, rfl, by decide⟩
instance : TSz Try.prog 65 1 := ⟨Try.sizeOf65⟩
instance : TAgg Try.prog 65 false := ⟨Try.isAgg65⟩
instance : TZ Try.prog 65 (.nilFunc) := ⟨Try.zeroValue65⟩
instance : TZL Try.prog 65 [.nilFunc] := ⟨_, Try.zeroValue65, rfl⟩
instance : TIn Try.prog 65 1 8 (.nilFunc) := ⟨_, rfl, rfl, rfl, rfl, rfl, by decide⟩
instance : TSz Try.prog 66 2 := ⟨Try.sizeOf66⟩
instance : TAgg Try.prog 66 true := ⟨Try.isAgg66⟩
instance : TPl Try.prog 66 [(0, 1), (1, 1)] := ⟨_, Try.underlying66, fun w => by simp [List.mapM_cons]⟩
instance : TFd Try.prog 66 0 0 28 := ⟨_, _, Try.underlying66, rfl, rfl, rfl, fun w => ⟨0, Try.sizeOf28 w⟩⟩
instance : TFd Try.prog 66 1 1 3 := ⟨_, _, Try.underlying66, rfl, rfl, rfl, fun w => ⟨0, Try.sizeOf3 w⟩⟩
instance : TZ Try.prog 66 (.agg #[.slice none 0 0, .int .i64 0]) := ⟨Try.zeroValue66⟩
instance : TZL Try.prog 66 [.slice none 0 0, .int .i64 0] := ⟨_, Try.zeroValue66, rfl⟩
instance : TIn Try.prog 66 2 32 (.agg #[.slice none 0 0, .int .i64 0]) := ⟨_, rfl, rfl, rfl, rfl, rfl, by decide⟩
instance : TSz Try.prog 67 2 := ⟨Try.sizeOf67⟩
instance : TAgg Try.prog 67 true := ⟨Try.isAgg67⟩
instance : TPl Try.prog 67 [(0, 1), (1, 1)] := ⟨_, Try.underlying67, fun w => by simp [List.mapM_cons]⟩
instance : TFd Try.prog 67 0 0 28 := ⟨_, _, Try.underlying67, rfl, rfl, rfl, fun w => ⟨0, Try.sizeOf28 w⟩⟩
instance : TFd Try.prog 67 1 1 3 := ⟨_, _, Try.underlying67, rfl, rfl, rfl, fun w => ⟨0, Try.sizeOf3 w⟩⟩
instance : TZ Try.prog 67 (.agg #[.slice none 0 0, .int .i64 0]) := ⟨Try.zeroValue67⟩
instance : TZL Try.prog 67 [.slice none 0 0, .int .i64 0] := ⟨_, Try.zeroValue67, rfl⟩
instance : TIn Try.prog 67 2 32 (.agg #[.slice none 0 0, .int .i64 0]) := ⟨_, rfl, rfl, rfl, rfl, rfl, by decide⟩
instance : TSz Try.prog 68 1 := ⟨Try.sizeOf68⟩
instance : TAgg Try.prog 68 false := ⟨Try.isAgg68⟩
instance : TZ Try.prog 68 (.nilFunc) := ⟨Try.zeroValue68⟩
instance : TZL Try.prog 68 [.nilFunc] := ⟨_, Try.zeroValue68, rfl⟩
instance : TIn Try.prog 68 1 8 (.nilFunc) := ⟨_, rfl, rfl, rfl, rfl, rfl, by decide⟩
instance : TSz Try.prog 69 1 := ⟨Try.sizeOf69⟩
instance : TAgg Try.prog 69 false := ⟨Try.isAgg69⟩
instance : TZ Try.prog 69 (.nilFunc) := ⟨Try.zeroValue69⟩
instance : TZL Try.prog 69 [.nilFunc] := ⟨_, Try.zeroValue69, rfl⟩
instance : TIn Try.prog 69 1 8 (.nilFunc) := ⟨_, rfl, rfl, rfl, rfl, rfl, by decide⟩
instance : TSz Try.prog 70 1 := ⟨Try.sizeOf70⟩
instance : TAgg Try.prog 70 false := ⟨Try.isAgg70⟩
instance : TZ Try.prog 70 (.nilFunc) := ⟨Try.zeroValue70⟩
instance : TZL Try.prog 70 [.nilFunc] := ⟨_, Try.zeroValue70, rfl⟩
instance : TIn Try.prog 70 1 8 (.nilFunc) := ⟨_, rfl, rfl, rfl, rfl, rfl, by decide⟩
instance : TSz Try.prog 71 1 := ⟨Try.sizeOf71⟩
instance : TAgg Try.prog 71 false := ⟨Try.isAgg71⟩
instance : TZ Try.prog 71 (.nilFunc) := ⟨Try.zeroValue71⟩
instance : TZL Try.prog 71 [.nilFunc] := ⟨_, Try.zeroValue71, rfl⟩
instance : TIn Try.prog 71 1 8 (.nilFunc) := ⟨_, rfl, rfl, rfl, rfl, rfl, by decide⟩
instance : TSz Try.prog 72 1 := ⟨Try.sizeOf72⟩
instance : TAgg Try.prog 72 false := ⟨Try.isAgg72⟩
instance : TZ Try.prog 72 (.nilFunc) := ⟨Try.zeroValue72⟩
instance : TZL Try.prog 72 [.nilFunc] := ⟨_, Try.zeroValue72, rfl⟩
instance : TIn Try.prog 72 1 8 (.nilFunc) := ⟨_, rfl, rfl, rfl, rfl, rfl, by decide⟩
instance : TSz Try.prog 73 1 := ⟨Try.sizeOf73⟩
instance : TAgg Try.prog 73 false := ⟨Try.isAgg73⟩
instance : TZ Try.prog 73 (.nilFunc) := ⟨Try.zeroValue73⟩
instance : TZL Try.prog 73 [.nilFunc] := ⟨_, Try.zeroValue73, rfl⟩
instance : TIn Try.prog 73 1 8 (.nilFunc) := ⟨_, rfl, rfl, rfl, rfl, rfl, by decide⟩
instance : TSz Try.prog 74 3 := ⟨Try.sizeOf74⟩
instance : TAgg Try.prog 74 true := ⟨Try.isAgg74⟩
instance : TPl Try.prog 74 [(0, 1), (1, 1), (2, 1)] := ⟨_, Try.underlying74, fun w => by simp [List.mapM_cons]⟩
instance : TFd Try.prog 74 0 0 9 := ⟨_, _, Try.underlying74, rfl, rfl, rfl, fun w => ⟨0, Try.sizeOf9 w⟩⟩
instance : TFd Try.prog 74 1 1 9 := ⟨_, _, Try.underlying74, rfl, rfl, rfl, fun w => ⟨0, Try.sizeOf9 w⟩⟩
instance : TFd Try.prog 74 2 2 3 := ⟨_, _, Try.underlying74, rfl, rfl, rfl, fun w => ⟨0, Try.sizeOf3 w⟩⟩
instance : TZ Try.prog 74 (.agg #[.string ⟨#[]⟩, .string ⟨#[]⟩, .int .i64 0]) := ⟨Try.zeroValue74⟩
instance : TZL Try.prog 74 [.string ⟨#[]⟩, .string ⟨#[]⟩, .int .i64 0] := ⟨_, Try.zeroValue74, rfl⟩
instance : TIn Try.prog 74 3 40 (.agg #[.string ⟨#[]⟩, .string ⟨#[]⟩, .int .i64 0]) := ⟨_, rfl, rfl, rfl, rfl, rfl, by decide⟩
instance : TSz Try.prog 75 3 := ⟨Try.sizeOf75⟩
instance : TAgg Try.prog 75 true := ⟨Try.isAgg75⟩
instance : TPl Try.prog 75 [(0, 1), (1, 1), (2, 1)] := ⟨_, Try.underlying75, fun w => by simp [List.mapM_cons]⟩
instance : TFd Try.prog 75 0 0 9 := ⟨_, _, Try.underlying75, rfl, rfl, rfl, fun w => ⟨0, Try.sizeOf9 w⟩⟩
instance : TFd Try.prog 75 1 1 9 := ⟨_, _, Try.underlying75, rfl, rfl, rfl, fun w => ⟨0, Try.sizeOf9 w⟩⟩
instance : TFd Try.prog 75 2 2 3 := ⟨_, _, Try.underlying75, rfl, rfl, rfl, fun w => ⟨0, Try.sizeOf3 w⟩⟩
instance : TZ Try.prog 75 (.agg #[.string ⟨#[]⟩, .string ⟨#[]⟩, .int .i64 0]) := ⟨Try.zeroValue75⟩
instance : TZL Try.prog 75 [.string ⟨#[]⟩, .string ⟨#[]⟩, .int .i64 0] := ⟨_, Try.zeroValue75, rfl⟩
instance : TIn Try.prog 75 3 40 (.agg #[.string ⟨#[]⟩, .string ⟨#[]⟩, .int .i64 0]) := ⟨_, rfl, rfl, rfl, rfl, rfl, by decide⟩
instance : TSz Try.prog 76 1 := ⟨Try.sizeOf76⟩
instance : TAgg Try.prog 76 false := ⟨Try.isAgg76⟩
instance : TZ Try.prog 76 (.nilFunc) := ⟨Try.zeroValue76⟩
instance : TZL Try.prog 76 [.nilFunc] := ⟨_, Try.zeroValue76, rfl⟩
instance : TIn Try.prog 76 1 8 (.nilFunc) := ⟨_, rfl, rfl, rfl, rfl, rfl, by decide⟩
instance : TSz Try.prog 77 1 := ⟨Try.sizeOf77⟩
instance : TAgg Try.prog 77 false := ⟨Try.isAgg77⟩
instance : TZ Try.prog 77 (.nilFunc) := ⟨Try.zeroValue77⟩
instance : TZL Try.prog 77 [.nilFunc] := ⟨_, Try.zeroValue77, rfl⟩
instance : TIn Try.prog 77 1 8 (.nilFunc) := ⟨_, rfl, rfl, rfl, rfl, rfl, by decide⟩
instance : TSz Try.prog 78 1 := ⟨Try.sizeOf78⟩
instance : TAgg Try.prog 78 false := ⟨Try.isAgg78⟩
instance : TZ Try.prog 78 (.nilFunc) := ⟨Try.zeroValue78⟩
instance : TZL Try.prog 78 [.nilFunc] := ⟨_, Try.zeroValue78, rfl⟩
instance : TIn Try.prog 78 1 8 (.nilFunc) := ⟨_, rfl, rfl, rfl, rfl, rfl, by decide⟩
instance : TSz Try.prog 79 1 := ⟨Try.sizeOf79⟩
instance : TAgg Try.prog 79 false := ⟨Try.isAgg79⟩
instance : TZ Try.prog 79 (.nilFunc) := ⟨Try.zeroValue79⟩
instance : TZL Try.prog 79 [.nilFunc] := ⟨_, Try.zeroValue79, rfl⟩
instance : TIn Try.prog 79 1 8 (.nilFunc) := ⟨_, rfl, rfl, rfl, rfl, rfl, by decide⟩
instance : TSz Try.prog 80 1 := ⟨Try.sizeOf80⟩
instance : TAgg Try.prog 80 false := ⟨Try.isAgg80⟩
instance : TZ Try.prog 80 (.nilFunc) := ⟨Try.zeroValue80⟩
instance : TZL Try.prog 80 [.nilFunc] := ⟨_, Try.zeroValue80, rfl⟩
instance : TIn Try.prog 80 1 8 (.nilFunc) := ⟨_, rfl, rfl, rfl, rfl, rfl, by decide⟩
instance : TSz Try.prog 81 1 := ⟨Try.sizeOf81⟩
instance : TAgg Try.prog 81 false := ⟨Try.isAgg81⟩
instance : TZ Try.prog 81 (.nilFunc) := ⟨Try.zeroValue81⟩
instance : TZL Try.prog 81 [.nilFunc] := ⟨_, Try.zeroValue81, rfl⟩
instance : TIn Try.prog 81 1 8 (.nilFunc) := ⟨_, rfl, rfl, rfl, rfl, rfl, by decide⟩
instance : TSz Try.prog 82 1 := ⟨Try.sizeOf82⟩
instance : TAgg Try.prog 82 false := ⟨Try.isAgg82⟩
instance : TZ Try.prog 82 (.nilFunc) := ⟨Try.zeroValue82⟩
instance : TZL Try.prog 82 [.nilFunc] := ⟨_, Try.zeroValue82, rfl⟩
instance : TIn Try.prog 82 1 8 (.nilFunc) := ⟨_, rfl, rfl, rfl, rfl, rfl, by decide⟩
instance : TSz Try.prog 83 1 := ⟨Try.sizeOf83⟩
instance : TAgg Try.prog 83 false := ⟨Try.isAgg83⟩
instance : TZ Try.prog 83 (.nilFunc) := ⟨Try.zeroValue83⟩
instance : TZL Try.prog 83 [.nilFunc] := ⟨_, Try.zeroValue83, rfl⟩
instance : TIn Try.prog 83 1 8 (.nilFunc) := ⟨_, rfl, rfl, rfl, rfl, rfl, by decide⟩
instance : TSz Try.prog 84 1 := ⟨Try.sizeOf84⟩
instance : TAgg Try.prog 84 false := ⟨Try.isAgg84⟩
instance : TZ Try.prog 84 (.nilFunc) := ⟨Try.zeroValue84⟩
instance : TZL Try.prog 84 [.nilFunc] := ⟨_, Try.zeroValue84, rfl⟩
instance : TIn Try.prog 84 1 8 (.nilFunc) := ⟨_, rfl, rfl, rfl, rfl, rfl, by decide⟩
instance : TSz Try.prog 85 1 := ⟨Try.sizeOf85⟩
instance : TAgg Try.prog 85 false := ⟨Try.isAgg85⟩
instance : TZ Try.prog 85 (.nilFunc) := ⟨Try.zeroValue85⟩
instance : TZL Try.prog 85 [.nilFunc] := ⟨_, Try.zeroValue85, rfl⟩
instance : TIn Try.prog 85 1 8 (.nilFunc) := ⟨_, rfl, rfl, rfl, rfl, rfl, by decide⟩
instance : TSz Try.prog 86 1 := ⟨Try.sizeOf86⟩
instance : TAgg Try.prog 86 false := ⟨Try.isAgg86⟩
instance : TZ Try.prog 86 (.nilFunc) := ⟨Try.zeroValue86⟩
instance : TZL Try.prog 86 [.nilFunc] := ⟨_, Try.zeroValue86, rfl⟩
instance : TIn Try.prog 86 1 8 (.nilFunc) := ⟨_, rfl, rfl, rfl, rfl, rfl, by decide⟩
instance : TSz Try.prog 87 1 := ⟨Try.sizeOf87⟩
instance : TAgg Try.prog 87 false := ⟨Try.isAgg87⟩
instance : TZ Try.prog 87 (.nilFunc) := ⟨Try.zeroValue87⟩
instance : TZL Try.prog 87 [.nilFunc] := ⟨_, Try.zeroValue87, rfl⟩
instance : TIn Try.prog 87 1 8 (.nilFunc) := ⟨_, rfl, rfl, rfl, rfl, rfl, by decide⟩
instance : TSz Try.prog 88 1 := ⟨Try.sizeOf88⟩
instance : TAgg Try.prog 88 false := ⟨Try.isAgg88⟩
instance : TZ Try.prog 88 (.nilFunc) := ⟨Try.zeroValue88⟩
instance : TZL Try.prog 88 [.nilFunc] := ⟨_, Try.zeroValue88, rfl⟩
instance : TIn Try.prog 88 1 8 (.nilFunc) := ⟨_, rfl, rfl, rfl, rfl, rfl, by decide⟩
instance : TSz Try.prog 89 1 := ⟨Try.sizeOf89⟩
instance : TAgg Try.prog 89 false := ⟨Try.isAgg89⟩
instance : TZ Try.prog 89 (.nilFunc) := ⟨Try.zeroValue89⟩
instance : TZL Try.prog 89 [.nilFunc] := ⟨_, Try.zeroValue89, rfl⟩
instance : TIn Try.prog 89 1 8 (.nilFunc) := ⟨_, rfl, rfl, rfl, rfl, rfl, by decide⟩
instance : TSz Try.prog 90 1 := ⟨Try.sizeOf90⟩
instance : TAgg Try.prog 90 false := ⟨Try.isAgg90⟩
instance : TZ Try.prog 90 (.nilFunc) := ⟨Try.zeroValue90⟩
instance : TZL Try.prog 90 [.nilFunc] := ⟨_, Try.zeroValue90, rfl⟩
instance : TIn Try.prog 90 1 8 (.nilFunc) := ⟨_, rfl, rfl, rfl, rfl, rfl, by decide⟩
instance : TSz Try.prog 91 1 := ⟨Try.sizeOf91⟩
instance : TAgg Try.prog 91 false := ⟨Try.isAgg91⟩
instance : TIt Try.prog 91 .i64 := ⟨Try.underlying91⟩
instance : TZ Try.prog 91 (.int .i64 0) := ⟨Try.zeroValue91⟩
instance : TZL Try.prog 91 [.int .i64 0] := ⟨_, Try.zeroValue91, rfl⟩
instance : TIn Try.prog 91 1 8 (.int .i64 0) := ⟨_, rfl, rfl, rfl, rfl, rfl, by decide⟩
instance : TSz Try.prog 93 1 := ⟨Try.sizeOf93⟩
instance : TAgg Try.prog 93 false := ⟨Try.isAgg93⟩
instance : TZ Try.prog 93 (.nilFunc) := ⟨Try.zeroValue93⟩
instance : TZL Try.prog 93 [.nilFunc] := ⟨_, Try.zeroValue93, rfl⟩
instance : TIn Try.prog 93 1 8 (.nilFunc) := ⟨_, rfl, rfl, rfl, rfl, rfl, by decide⟩
instance : TSz Try.prog 94 1 := ⟨Try.sizeOf94⟩
instance : TAgg Try.prog 94 false := ⟨Try.isAgg94⟩
instance : TZ Try.prog 94 (.nilFunc) := ⟨Try.zeroValue94⟩
instance : TZL Try.prog 94 [.nilFunc] := ⟨_, Try.zeroValue94, rfl⟩
instance : TIn Try.prog 94 1 8 (.nilFunc) := ⟨_, rfl, rfl, rfl, rfl, rfl, by decide⟩
instance : TSz Try.prog 95 1 := ⟨Try.sizeOf95⟩
instance : TAgg Try.prog 95 false := ⟨Try.isAgg95⟩
instance : TZ Try.prog 95 (.nilFunc) := ⟨Try.zeroValue95⟩
instance : TZL Try.prog 95 [.nilFunc] := ⟨_, Try.zeroValue95, rfl⟩
instance : TIn Try.prog 95 1 8 (.nilFunc) := ⟨_, rfl, rfl, rfl, rfl, rfl, by decide⟩
instance : TSz Try.prog 96 1 := ⟨Try.sizeOf96⟩
instance : TAgg Try.prog 96 false := ⟨Try.isAgg96⟩
instance : TZ Try.prog 96 (.nilFunc) := ⟨Try.zeroValue96⟩
instance : TZL Try.prog 96 [.nilFunc] := ⟨_, Try.zeroValue96, rfl⟩
instance : TIn Try.prog 96 1 8 (.nilFunc) := ⟨_, rfl, rfl, rfl, rfl, rfl, by decide⟩
instance : TSz Try.prog 98 1 := ⟨Try.sizeOf98⟩
instance : TAgg Try.prog 98 false := ⟨Try.isAgg98⟩
instance : TZ Try.prog 98 (.nilFunc) := ⟨Try.zeroValue98⟩
instance : TZL Try.prog 98 [.nilFunc] := ⟨_, Try.zeroValue98, rfl⟩
instance : TIn Try.prog 98 1 8 (.nilFunc) := ⟨_, rfl, rfl, rfl, rfl, rfl, by decide⟩
instance : TSz Try.prog 99 1 := ⟨Try.sizeOf99⟩
instance : TAgg Try.prog 99 false := ⟨Try.isAgg99⟩
instance : TZ Try.prog 99 (.nilFunc) := ⟨Try.zeroValue99⟩
instance : TZL Try.prog 99 [.nilFunc] := ⟨_, Try.zeroValue99, rfl⟩
instance : TIn Try.prog 99 1 8 (.nilFunc) := ⟨_, rfl, rfl, rfl, rfl, rfl, by decide⟩
instance : TSz Try.prog 100 1 := ⟨Try.sizeOf100⟩
instance : TAgg Try.prog 100 false := ⟨Try.isAgg100⟩
instance : TIt Try.prog 100 .u32 := ⟨Try.underlying100⟩
instance : TZ Try.prog 100 (.int .u32 0) := ⟨Try.zeroValue100⟩
instance : TZL Try.prog 100 [.int .u32 0] := ⟨_, Try.zeroValue100, rfl⟩
instance : TIn Try.prog 100 1 4 (.int .u32 0) := ⟨_, rfl, rfl, rfl, rfl, rfl, by decide⟩
instance : TSz Try.prog 101 1 := ⟨Try.sizeOf101⟩
instance : TAgg Try.prog 101 false := ⟨Try.isAgg101⟩
instance : TZ Try.prog 101 (.nilFunc) := ⟨Try.zeroValue101⟩
instance : TZL Try.prog 101 [.nilFunc] := ⟨_, Try.zeroValue101, rfl⟩
instance : TIn Try.prog 101 1 8 (.nilFunc) := ⟨_, rfl, rfl, rfl, rfl, rfl, by decide⟩
instance : TSz Try.prog 102 1 := ⟨Try.sizeOf102⟩
instance : TAgg Try.prog 102 false := ⟨Try.isAgg102⟩
instance : TIt Try.prog 102 .u64 := ⟨Try.underlying102⟩
instance : TZ Try.prog 102 (.int .u64 0) := ⟨Try.zeroValue102⟩
instance : TZL Try.prog 102 [.int .u64 0] := ⟨_, Try.zeroValue102, rfl⟩
instance : TIn Try.prog 102 1 8 (.int .u64 0) := ⟨_, rfl, rfl, rfl, rfl, rfl, by decide⟩
instance : TSz Try.prog 103 1 := ⟨Try.sizeOf103⟩
instance : TAgg Try.prog 103 false := ⟨Try.isAgg103⟩
instance : TIt Try.prog 103 .u64 := ⟨Try.underlying103⟩
instance : TZ Try.prog 103 (.int .u64 0) := ⟨Try.zeroValue103⟩
instance : TZL Try.prog 103 [.int .u64 0] := ⟨_, Try.zeroValue103, rfl⟩
instance : TIn Try.prog 103 1 8 (.int .u64 0) := ⟨_, rfl, rfl, rfl, rfl, rfl, by decide⟩
instance : TSz Try.prog 104 1 := ⟨Try.sizeOf104⟩
instance : TAgg Try.prog 104 false := ⟨Try.isAgg104⟩
instance : TZ Try.prog 104 (.nilFunc) := ⟨Try.zeroValue104⟩
instance : TZL Try.prog 104 [.nilFunc] := ⟨_, Try.zeroValue104, rfl⟩
instance : TIn Try.prog 104 1 8 (.nilFunc) := ⟨_, rfl, rfl, rfl, rfl, rfl, by decide⟩
instance : TSz Try.prog 105 1 := ⟨Try.sizeOf105⟩
instance : TAgg Try.prog 105 false := ⟨Try.isAgg105⟩
instance : TZ Try.prog 105 (.nilFunc) := ⟨Try.zeroValue105⟩
instance : TZL Try.prog 105 [.nilFunc] := ⟨_, Try.zeroValue105, rfl⟩
instance : TIn Try.prog 105 1 8 (.nilFunc) := ⟨_, rfl, rfl, rfl, rfl, rfl, by decide⟩
instance : TSz Try.prog 106 1 := ⟨Try.sizeOf106⟩
instance : TAgg Try.prog 106 false := ⟨Try.isAgg106⟩
instance : TZ Try.prog 106 (.nilFunc) := ⟨Try.zeroValue106⟩
instance : TZL Try.prog 106 [.nilFunc] := ⟨_, Try.zeroValue106, rfl⟩
instance : TIn Try.prog 106 1 8 (.nilFunc) := ⟨_, rfl, rfl, rfl, rfl, rfl, by decide⟩
instance : TSz Try.prog 107 1 := ⟨Try.sizeOf107⟩
instance : TAgg Try.prog 107 false := ⟨Try.isAgg107⟩
instance : TPt Try.prog 107 := ⟨_, Try.underlying107⟩
instance : TZ Try.prog 107 (.pointer none) := ⟨Try.zeroValue107⟩
instance : TZL Try.prog 107 [.pointer none] := ⟨_, Try.zeroValue107, rfl⟩
instance : TIn Try.prog 107 1 8 (.pointer none) := ⟨_, rfl, rfl, rfl, rfl, rfl, by decide⟩
instance : TSz Try.prog 108 1 := ⟨Try.sizeOf108⟩
instance : TAgg Try.prog 108 false := ⟨Try.isAgg108⟩
instance : TZ Try.prog 108 (.nilFunc) := ⟨Try.zeroValue108⟩
instance : TZL Try.prog 108 [.nilFunc] := ⟨_, Try.zeroValue108, rfl⟩
instance : TIn Try.prog 108 1 8 (.nilFunc) := ⟨_, rfl, rfl, rfl, rfl, rfl, by decide⟩
instance : TSz Try.prog 109 1 := ⟨Try.sizeOf109⟩
instance : TAgg Try.prog 109 false := ⟨Try.isAgg109⟩
instance : TPt Try.prog 109 := ⟨_, Try.underlying109⟩
instance : TZ Try.prog 109 (.pointer none) := ⟨Try.zeroValue109⟩
instance : TZL Try.prog 109 [.pointer none] := ⟨_, Try.zeroValue109, rfl⟩
instance : TIn Try.prog 109 1 8 (.pointer none) := ⟨_, rfl, rfl, rfl, rfl, rfl, by decide⟩
instance : TSz Try.prog 111 1 := ⟨Try.sizeOf111⟩
instance : TAgg Try.prog 111 false := ⟨Try.isAgg111⟩
instance : TZ Try.prog 111 (.nilFunc) := ⟨Try.zeroValue111⟩
instance : TZL Try.prog 111 [.nilFunc] := ⟨_, Try.zeroValue111, rfl⟩
instance : TIn Try.prog 111 1 8 (.nilFunc) := ⟨_, rfl, rfl, rfl, rfl, rfl, by decide⟩
instance : TSz Try.prog 112 1 := ⟨Try.sizeOf112⟩
instance : TAgg Try.prog 112 false := ⟨Try.isAgg112⟩
instance : TZ Try.prog 112 (.nilFunc) := ⟨Try.zeroValue112⟩
instance : TZL Try.prog 112 [.nilFunc] := ⟨_, Try.zeroValue112, rfl⟩
instance : TIn Try.prog 112 1 8 (.nilFunc) := ⟨_, rfl, rfl, rfl, rfl, rfl, by decide⟩
instance : TSz Try.prog 113 4 := ⟨Try.sizeOf113⟩
instance : TAgg Try.prog 113 true := ⟨Try.isAgg113⟩
instance : TPl Try.prog 113 [(0, 1), (1, 1), (2, 1), (3, 1)] := ⟨_, Try.underlying113, fun w => by simp [List.mapM_cons]⟩
instance : TFd Try.prog 113 0 0 17 := ⟨_, _, Try.underlying113, rfl, rfl, rfl, fun w => ⟨0, Try.sizeOf17 w⟩⟩
instance : TFd Try.prog 113 1 1 17 := ⟨_, _, Try.underlying113, rfl, rfl, rfl, fun w => ⟨0, Try.sizeOf17 w⟩⟩
instance : TFd Try.prog 113 2 2 17 := ⟨_, _, Try.underlying113, rfl, rfl, rfl, fun w => ⟨0, Try.sizeOf17 w⟩⟩
instance : TFd Try.prog 113 3 3 9 := ⟨_, _, Try.underlying113, rfl, rfl, rfl, fun w => ⟨0, Try.sizeOf9 w⟩⟩
instance : TZ Try.prog 113 (.agg #[.pointer none, .pointer none, .pointer none, .string ⟨#[]⟩]) := ⟨Try.zeroValue113⟩
instance : TZL Try.prog 113 [.pointer none, .pointer none, .pointer none, .string ⟨#[]⟩] := ⟨_, Try.zeroValue113, rfl⟩
instance : TIn Try.prog 113 4 40 (.agg #[.pointer none, .pointer none, .pointer none, .string ⟨#[]⟩]) := ⟨_, rfl, rfl, rfl, rfl, rfl, by decide⟩
instance : TSz Try.prog 114 4 := ⟨Try.sizeOf114⟩
instance : TAgg Try.prog 114 true := ⟨Try.isAgg114⟩
instance : TPl Try.prog 114 [(0, 1), (1, 1), (2, 1), (3, 1)] := ⟨_, Try.underlying114, fun w => by simp [List.mapM_cons]⟩
instance : TFd Try.prog 114 0 0 17 := ⟨_, _, Try.underlying114, rfl, rfl, rfl, fun w => ⟨0, Try.sizeOf17 w⟩⟩
instance : TFd Try.prog 114 1 1 17 := ⟨_, _, Try.underlying114, rfl, rfl, rfl, fun w => ⟨0, Try.sizeOf17 w⟩⟩
instance : TFd Try.prog 114 2 2 17 := ⟨_, _, Try.underlying114, rfl, rfl, rfl, fun w => ⟨0, Try.sizeOf17 w⟩⟩
instance : TFd Try.prog 114 3 3 9 := ⟨_, _, Try.underlying114, rfl, rfl, rfl, fun w => ⟨0, Try.sizeOf9 w⟩⟩
instance : TZ Try.prog 114 (.agg #[.pointer none, .pointer none, .pointer none, .string ⟨#[]⟩]) := ⟨Try.zeroValue114⟩
instance : TZL Try.prog 114 [.pointer none, .pointer none, .pointer none, .string ⟨#[]⟩] := ⟨_, Try.zeroValue114, rfl⟩
instance : TIn Try.prog 114 4 40 (.agg #[.pointer none, .pointer none, .pointer none, .string ⟨#[]⟩]) := ⟨_, rfl, rfl, rfl, rfl, rfl, by decide⟩
instance : TSz Try.prog 115 0 := ⟨Try.sizeOf115⟩
instance : TAgg Try.prog 115 true := ⟨Try.isAgg115⟩
instance : TSz Try.prog 116 0 := ⟨Try.sizeOf116⟩
instance : TAgg Try.prog 116 true := ⟨Try.isAgg116⟩
instance : TPl Try.prog 116 [(0, 0)] := ⟨_, Try.underlying116, fun w => by simp [List.mapM_cons]⟩
instance : TSz Try.prog 117 0 := ⟨Try.sizeOf117⟩
instance : TAgg Try.prog 117 true := ⟨Try.isAgg117⟩
instance : TPl Try.prog 117 [(0, 0)] := ⟨_, Try.underlying117, fun w => by simp [List.mapM_cons]⟩
instance : TSz Try.prog 118 1 := ⟨Try.sizeOf118⟩
instance : TAgg Try.prog 118 false := ⟨Try.isAgg118⟩
instance : TIt Try.prog 118 .u8 := ⟨Try.underlying118⟩
instance : TZ Try.prog 118 (.int .u8 0) := ⟨Try.zeroValue118⟩
instance : TZL Try.prog 118 [.int .u8 0] := ⟨_, Try.zeroValue118, rfl⟩
instance : TIn Try.prog 118 1 1 (.int .u8 0) := ⟨_, rfl, rfl, rfl, rfl, rfl, by decide⟩
instance : TSz Try.prog 119 1 := ⟨Try.sizeOf119⟩
instance : TAgg Try.prog 119 false := ⟨Try.isAgg119⟩
instance : TIt Try.prog 119 .u8 := ⟨Try.underlying119⟩
instance : TZ Try.prog 119 (.int .u8 0) := ⟨Try.zeroValue119⟩
instance : TZL Try.prog 119 [.int .u8 0] := ⟨_, Try.zeroValue119, rfl⟩
instance : TIn Try.prog 119 1 1 (.int .u8 0) := ⟨_, rfl, rfl, rfl, rfl, rfl, by decide⟩
instance : TSz Try.prog 120 1 := ⟨Try.sizeOf120⟩
instance : TAgg Try.prog 120 false := ⟨Try.isAgg120⟩
instance : TZ Try.prog 120 (.nilFunc) := ⟨Try.zeroValue120⟩
instance : TZL Try.prog 120 [.nilFunc] := ⟨_, Try.zeroValue120, rfl⟩
instance : TIn Try.prog 120 1 8 (.nilFunc) := ⟨_, rfl, rfl, rfl, rfl, rfl, by decide⟩
instance : TSz Try.prog 121 1 := ⟨Try.sizeOf121⟩
instance : TAgg Try.prog 121 false := ⟨Try.isAgg121⟩
instance : TPt Try.prog 121 := ⟨_, Try.underlying121⟩
instance : TZ Try.prog 121 (.pointer none) := ⟨Try.zeroValue121⟩
instance : TZL Try.prog 121 [.pointer none] := ⟨_, Try.zeroValue121, rfl⟩
instance : TIn Try.prog 121 1 8 (.pointer none) := ⟨_, rfl, rfl, rfl, rfl, rfl, by decide⟩
instance : TSz Try.prog 122 1 := ⟨Try.sizeOf122⟩
instance : TAgg Try.prog 122 false := ⟨Try.isAgg122⟩
instance : TIt Try.prog 122 .i32 := ⟨Try.underlying122⟩
instance : TZ Try.prog 122 (.int .i32 0) := ⟨Try.zeroValue122⟩
instance : TZL Try.prog 122 [.int .i32 0] := ⟨_, Try.zeroValue122, rfl⟩
instance : TIn Try.prog 122 1 4 (.int .i32 0) := ⟨_, rfl, rfl, rfl, rfl, rfl, by decide⟩
instance : TSz Try.prog 123 1 := ⟨Try.sizeOf123⟩
instance : TAgg Try.prog 123 false := ⟨Try.isAgg123⟩
instance : TIt Try.prog 123 .i32 := ⟨Try.underlying123⟩
instance : TZ Try.prog 123 (.int .i32 0) := ⟨Try.zeroValue123⟩
instance : TZL Try.prog 123 [.int .i32 0] := ⟨_, Try.zeroValue123, rfl⟩
instance : TIn Try.prog 123 1 4 (.int .i32 0) := ⟨_, rfl, rfl, rfl, rfl, rfl, by decide⟩
instance : TSz Try.prog 124 11 := ⟨Try.sizeOf124⟩
instance : TAgg Try.prog 124 true := ⟨Try.isAgg124⟩
instance : TPl Try.prog 124 [(0, 1), (1, 1), (2, 1), (3, 1), (4, 1), (5, 1), (6, 1), (7, 1), (8, 1), (9, 1), (10, 1)] := ⟨_, Try.underlying124, fun w => by simp [List.mapM_cons]⟩
instance : TFd Try.prog 124 0 0 12 := ⟨_, _, Try.underlying124, rfl, rfl, rfl, fun w => ⟨0, Try.sizeOf12 w⟩⟩
instance : TFd Try.prog 124 1 1 12 := ⟨_, _, Try.underlying124, rfl, rfl, rfl, fun w => ⟨0, Try.sizeOf12 w⟩⟩
instance : TFd Try.prog 124 2 2 100 := ⟨_, _, Try.underlying124, rfl, rfl, rfl, fun w => ⟨0, Try.sizeOf100 w⟩⟩
instance : TFd Try.prog 124 3 3 118 := ⟨_, _, Try.underlying124, rfl, rfl, rfl, fun w => ⟨0, Try.sizeOf118 w⟩⟩
instance : TFd Try.prog 124 4 4 5 := ⟨_, _, Try.underlying124, rfl, rfl, rfl, fun w => ⟨0, Try.sizeOf5 w⟩⟩
instance : TFd Try.prog 124 5 5 5 := ⟨_, _, Try.underlying124, rfl, rfl, rfl, fun w => ⟨0, Try.sizeOf5 w⟩⟩
instance : TFd Try.prog 124 6 6 119 := ⟨_, _, Try.underlying124, rfl, rfl, rfl, fun w => ⟨0, Try.sizeOf119 w⟩⟩
instance : TFd Try.prog 124 7 7 120 := ⟨_, _, Try.underlying124, rfl, rfl, rfl, fun w => ⟨0, Try.sizeOf120 w⟩⟩
instance : TFd Try.prog 124 8 8 121 := ⟨_, _, Try.underlying124, rfl, rfl, rfl, fun w => ⟨0, Try.sizeOf121 w⟩⟩
instance : TFd Try.prog 124 9 9 122 := ⟨_, _, Try.underlying124, rfl, rfl, rfl, fun w => ⟨0, Try.sizeOf122 w⟩⟩
instance : TFd Try.prog 124 10 10 123 := ⟨_, _, Try.underlying124, rfl, rfl, rfl, fun w => ⟨0, Try.sizeOf123 w⟩⟩
instance : TZ Try.prog 124 (.agg #[.int .u64 0, .int .u64 0, .int .u32 0, .int .u8 0, .int .u8 0, .int .u8 0, .int .u8 0, .nilFunc, .pointer none, .int .i32 0, .int .i32 0]) := ⟨Try.zeroValue124⟩
instance : TZL Try.prog 124 [.int .u64 0, .int .u64 0, .int .u32 0, .int .u8 0, .int .u8 0, .int .u8 0, .int .u8 0, .nilFunc, .pointer none, .int .i32 0, .int .i32 0] := ⟨_, Try.zeroValue124, rfl⟩
instance : TIn Try.prog 124 11 48 (.agg #[.int .u64 0, .int .u64 0, .int .u32 0, .int .u8 0, .int .u8 0, .int .u8 0, .int .u8 0, .nilFunc, .pointer none, .int .i32 0, .int .i32 0]) := ⟨_, rfl, rfl, rfl, rfl, rfl, by decide⟩
instance : TSz Try.prog 125 11 := ⟨Try.sizeOf125⟩
instance : TAgg Try.prog 125 true := ⟨Try.isAgg125⟩
instance : TPl Try.prog 125 [(0, 1), (1, 1), (2, 1), (3, 1), (4, 1), (5, 1), (6, 1), (7, 1), (8, 1), (9, 1), (10, 1)] := ⟨_, Try.underlying125, fun w => by simp [List.mapM_cons]⟩
instance : TFd Try.prog 125 0 0 12 := ⟨_, _, Try.underlying125, rfl, rfl, rfl, fun w => ⟨0, Try.sizeOf12 w⟩⟩
instance : TFd Try.prog 125 1 1 12 := ⟨_, _, Try.underlying125, rfl, rfl, rfl, fun w => ⟨0, Try.sizeOf12 w⟩⟩
instance : TFd Try.prog 125 2 2 100 := ⟨_, _, Try.underlying125, rfl, rfl, rfl, fun w => ⟨0, Try.sizeOf100 w⟩⟩
instance : TFd Try.prog 125 3 3 118 := ⟨_, _, Try.underlying125, rfl, rfl, rfl, fun w => ⟨0, Try.sizeOf118 w⟩⟩
instance : TFd Try.prog 125 4 4 5 := ⟨_, _, Try.underlying125, rfl, rfl, rfl, fun w => ⟨0, Try.sizeOf5 w⟩⟩
instance : TFd Try.prog 125 5 5 5 := ⟨_, _, Try.underlying125, rfl, rfl, rfl, fun w => ⟨0, Try.sizeOf5 w⟩⟩
instance : TFd Try.prog 125 6 6 119 := ⟨_, _, Try.underlying125, rfl, rfl, rfl, fun w => ⟨0, Try.sizeOf119 w⟩⟩
instance : TFd Try.prog 125 7 7 120 := ⟨_, _, Try.underlying125, rfl, rfl, rfl, fun w => ⟨0, Try.sizeOf120 w⟩⟩
instance : TFd Try.prog 125 8 8 121 := ⟨_, _, Try.underlying125, rfl, rfl, rfl, fun w => ⟨0, Try.sizeOf121 w⟩⟩
instance : TFd Try.prog 125 9 9 122 := ⟨_, _, Try.underlying125, rfl, rfl, rfl, fun w => ⟨0, Try.sizeOf122 w⟩⟩
instance : TFd Try.prog 125 10 10 123 := ⟨_, _, Try.underlying125, rfl, rfl, rfl, fun w => ⟨0, Try.sizeOf123 w⟩⟩
instance : TZ Try.prog 125 (.agg #[.int .u64 0, .int .u64 0, .int .u32 0, .int .u8 0, .int .u8 0, .int .u8 0, .int .u8 0, .nilFunc, .pointer none, .int .i32 0, .int .i32 0]) := ⟨Try.zeroValue125⟩
instance : TZL Try.prog 125 [.int .u64 0, .int .u64 0, .int .u32 0, .int .u8 0, .int .u8 0, .int .u8 0, .int .u8 0, .nilFunc, .pointer none, .int .i32 0, .int .i32 0] := ⟨_, Try.zeroValue125, rfl⟩
instance : TIn Try.prog 125 11 48 (.agg #[.int .u64 0, .int .u64 0, .int .u32 0, .int .u8 0, .int .u8 0, .int .u8 0, .int .u8 0, .nilFunc, .pointer none, .int .i32 0, .int .i32 0]) := ⟨_, rfl, rfl, rfl, rfl, rfl, by decide⟩
instance : TSz Try.prog 126 1 := ⟨Try.sizeOf126⟩
instance : TAgg Try.prog 126 false := ⟨Try.isAgg126⟩
instance : TFn Try.prog 3 := ⟨Try.call3⟩
instance : TBody Try.prog 3 Try.f3 (Try.f3.body.getD .skip) 89 := ⟨Try.func3, rfl, Try.ntmps3⟩
instance : TFn Try.prog 4 := ⟨Try.call4⟩
instance : TBody Try.prog 4 Try.f4 (Try.f4.body.getD .skip) 16 := ⟨Try.func4, rfl, Try.ntmps4⟩
instance : TFn Try.prog 5 := ⟨Try.call5⟩
instance : TBody Try.prog 5 Try.f5 (Try.f5.body.getD .skip) 97 := ⟨Try.func5, rfl, Try.ntmps5⟩
instance : TFn Try.prog 6 := ⟨Try.call6⟩
instance : TBody Try.prog 6 Try.f6 (Try.f6.body.getD .skip) 69 := ⟨Try.func6, rfl, Try.ntmps6⟩
instance : TFn Try.prog 7 := ⟨Try.call7⟩
instance : TBody Try.prog 7 Try.f7 (Try.f7.body.getD .skip) 140 := ⟨Try.func7, rfl, Try.ntmps7⟩
instance : TFn Try.prog 8 := ⟨Try.call8⟩
instance : TBody Try.prog 8 Try.f8 (Try.f8.body.getD .skip) 52 := ⟨Try.func8, rfl, Try.ntmps8⟩
instance : TFn Try.prog 9 := ⟨Try.call9⟩
instance : TBody Try.prog 9 Try.f9 (Try.f9.body.getD .skip) 4 := ⟨Try.func9, rfl, Try.ntmps9⟩
instance : TFn Try.prog 10 := ⟨Try.call10⟩
instance : TBody Try.prog 10 Try.f10 (Try.f10.body.getD .skip) 62 := ⟨Try.func10, rfl, Try.ntmps10⟩
instance : TFn Try.prog 11 := ⟨Try.call11⟩
instance : TBody Try.prog 11 Try.f11 (Try.f11.body.getD .skip) 36 := ⟨Try.func11, rfl, Try.ntmps11⟩
instance : TFn Try.prog 12 := ⟨Try.call12⟩
instance : TBody Try.prog 12 Try.f12 (Try.f12.body.getD .skip) 25 := ⟨Try.func12, rfl, Try.ntmps12⟩
instance : TFn Try.prog 13 := ⟨Try.call13⟩
instance : TBody Try.prog 13 Try.f13 (Try.f13.body.getD .skip) 19 := ⟨Try.func13, rfl, Try.ntmps13⟩
instance : TFn Try.prog 14 := ⟨Try.call14⟩
instance : TBody Try.prog 14 Try.f14 (Try.f14.body.getD .skip) 9 := ⟨Try.func14, rfl, Try.ntmps14⟩
instance : TFn Try.prog 15 := ⟨Try.call15⟩
instance : TBody Try.prog 15 Try.f15 (Try.f15.body.getD .skip) 40 := ⟨Try.func15, rfl, Try.ntmps15⟩
instance : TFn Try.prog 16 := ⟨Try.call16⟩
instance : TBody Try.prog 16 Try.f16 (Try.f16.body.getD .skip) 78 := ⟨Try.func16, rfl, Try.ntmps16⟩
instance : TFn Try.prog 17 := ⟨Try.call17⟩
instance : TBody Try.prog 17 Try.f17 (Try.f17.body.getD .skip) 72 := ⟨Try.func17, rfl, Try.ntmps17⟩
instance : TFn Try.prog 18 := ⟨Try.call18⟩
instance : TBody Try.prog 18 Try.f18 (Try.f18.body.getD .skip) 130 := ⟨Try.func18, rfl, Try.ntmps18⟩
instance : TFn Try.prog 19 := ⟨Try.call19⟩
instance : TBody Try.prog 19 Try.f19 (Try.f19.body.getD .skip) 14 := ⟨Try.func19, rfl, Try.ntmps19⟩
instance : TFn Try.prog 20 := ⟨Try.call20⟩
instance : TBody Try.prog 20 Try.f20 (Try.f20.body.getD .skip) 7 := ⟨Try.func20, rfl, Try.ntmps20⟩
instance : TFn Try.prog 21 := ⟨Try.call21⟩
instance : TBody Try.prog 21 Try.f21 (Try.f21.body.getD .skip) 127 := ⟨Try.func21, rfl, Try.ntmps21⟩
instance : TFn Try.prog 22 := ⟨Try.call22⟩
instance : TBody Try.prog 22 Try.f22 (Try.f22.body.getD .skip) 63 := ⟨Try.func22, rfl, Try.ntmps22⟩
instance : TFn Try.prog 23 := ⟨Try.call23⟩
instance : TBody Try.prog 23 Try.f23 (Try.f23.body.getD .skip) 28 := ⟨Try.func23, rfl, Try.ntmps23⟩
instance : TFn Try.prog 24 := ⟨Try.call24⟩
instance : TBody Try.prog 24 Try.f24 (Try.f24.body.getD .skip) 24 := ⟨Try.func24, rfl, Try.ntmps24⟩
instance : TFn Try.prog 25 := ⟨Try.call25⟩
instance : TBody Try.prog 25 Try.f25 (Try.f25.body.getD .skip) 56 := ⟨Try.func25, rfl, Try.ntmps25⟩
instance : TFn Try.prog 26 := ⟨Try.call26⟩
instance : TBody Try.prog 26 Try.f26 (Try.f26.body.getD .skip) 22 := ⟨Try.func26, rfl, Try.ntmps26⟩
instance : TFn Try.prog 27 := ⟨Try.call27⟩
instance : TBody Try.prog 27 Try.f27 (Try.f27.body.getD .skip) 19 := ⟨Try.func27, rfl, Try.ntmps27⟩
instance : TFn Try.prog 28 := ⟨Try.call28⟩
instance : TBody Try.prog 28 Try.f28 (Try.f28.body.getD .skip) 19 := ⟨Try.func28, rfl, Try.ntmps28⟩
instance : TFn Try.prog 29 := ⟨Try.call29⟩
instance : TBody Try.prog 29 Try.f29 (Try.f29.body.getD .skip) 43 := ⟨Try.func29, rfl, Try.ntmps29⟩
instance : TFn Try.prog 30 := ⟨Try.call30⟩
instance : TBody Try.prog 30 Try.f30 (Try.f30.body.getD .skip) 9 := ⟨Try.func30, rfl, Try.ntmps30⟩
instance : TFn Try.prog 31 := ⟨Try.call31⟩
instance : TBody Try.prog 31 Try.f31 (Try.f31.body.getD .skip) 4 := ⟨Try.func31, rfl, Try.ntmps31⟩
instance : TFn Try.prog 32 := ⟨Try.call32⟩
instance : TBody Try.prog 32 Try.f32 (Try.f32.body.getD .skip) 8 := ⟨Try.func32, rfl, Try.ntmps32⟩
instance : TFn Try.prog 33 := ⟨Try.call33⟩
instance : TBody Try.prog 33 Try.f33 (Try.f33.body.getD .skip) 10 := ⟨Try.func33, rfl, Try.ntmps33⟩
instance : TFn Try.prog 34 := ⟨Try.call34⟩
instance : TBody Try.prog 34 Try.f34 (Try.f34.body.getD .skip) 15 := ⟨Try.func34, rfl, Try.ntmps34⟩
instance : TFn Try.prog 35 := ⟨Try.call35⟩
instance : TBody Try.prog 35 Try.f35 (Try.f35.body.getD .skip) 30 := ⟨Try.func35, rfl, Try.ntmps35⟩
instance : TFn Try.prog 36 := ⟨Try.call36⟩
instance : TBody Try.prog 36 Try.f36 (Try.f36.body.getD .skip) 39 := ⟨Try.func36, rfl, Try.ntmps36⟩
instance : TFn Try.prog 37 := ⟨Try.call37⟩
instance : TBody Try.prog 37 Try.f37 (Try.f37.body.getD .skip) 18 := ⟨Try.func37, rfl, Try.ntmps37⟩
instance : TFn Try.prog 38 := ⟨Try.call38⟩
instance : TBody Try.prog 38 Try.f38 (Try.f38.body.getD .skip) 18 := ⟨Try.func38, rfl, Try.ntmps38⟩
instance : TFn Try.prog 39 := ⟨Try.call39⟩
instance : TBody Try.prog 39 Try.f39 (Try.f39.body.getD .skip) 16 := ⟨Try.func39, rfl, Try.ntmps39⟩
instance : TFn Try.prog 40 := ⟨Try.call40⟩
instance : TBody Try.prog 40 Try.f40 (Try.f40.body.getD .skip) 45 := ⟨Try.func40, rfl, Try.ntmps40⟩
instance : TFn Try.prog 41 := ⟨Try.call41⟩
instance : TBody Try.prog 41 Try.f41 (Try.f41.body.getD .skip) 22 := ⟨Try.func41, rfl, Try.ntmps41⟩
instance : TFn Try.prog 42 := ⟨Try.call42⟩
instance : TBody Try.prog 42 Try.f42 (Try.f42.body.getD .skip) 58 := ⟨Try.func42, rfl, Try.ntmps42⟩
instance : TFn Try.prog 43 := ⟨Try.call43⟩
instance : TBody Try.prog 43 Try.f43 (Try.f43.body.getD .skip) 14 := ⟨Try.func43, rfl, Try.ntmps43⟩
instance : TFn Try.prog 44 := ⟨Try.call44⟩
instance : TBody Try.prog 44 Try.f44 (Try.f44.body.getD .skip) 5 := ⟨Try.func44, rfl, Try.ntmps44⟩
instance : TFn Try.prog 45 := ⟨Try.call45⟩
instance : TBody Try.prog 45 Try.f45 (Try.f45.body.getD .skip) 11 := ⟨Try.func45, rfl, Try.ntmps45⟩
instance : TFn Try.prog 46 := ⟨Try.call46⟩
instance : TBody Try.prog 46 Try.f46 (Try.f46.body.getD .skip) 14 := ⟨Try.func46, rfl, Try.ntmps46⟩
instance : TFn Try.prog 47 := ⟨Try.call47⟩
instance : TBody Try.prog 47 Try.f47 (Try.f47.body.getD .skip) 31 := ⟨Try.func47, rfl, Try.ntmps47⟩
instance : TFn Try.prog 48 := ⟨Try.call48⟩
instance : TBody Try.prog 48 Try.f48 (Try.f48.body.getD .skip) 14 := ⟨Try.func48, rfl, Try.ntmps48⟩
instance : TFn Try.prog 49 := ⟨Try.call49⟩
instance : TBody Try.prog 49 Try.f49 (Try.f49.body.getD .skip) 33 := ⟨Try.func49, rfl, Try.ntmps49⟩
instance : TFn Try.prog 50 := ⟨Try.call50⟩
instance : TBody Try.prog 50 Try.f50 (Try.f50.body.getD .skip) 13 := ⟨Try.func50, rfl, Try.ntmps50⟩
instance : TFn Try.prog 51 := ⟨Try.call51⟩
instance : TBody Try.prog 51 Try.f51 (Try.f51.body.getD .skip) 134 := ⟨Try.func51, rfl, Try.ntmps51⟩
instance : TFn Try.prog 52 := ⟨Try.call52⟩
instance : TBody Try.prog 52 Try.f52 (Try.f52.body.getD .skip) 8 := ⟨Try.func52, rfl, Try.ntmps52⟩
instance : TFn Try.prog 53 := ⟨Try.call53⟩
instance : TBody Try.prog 53 Try.f53 (Try.f53.body.getD .skip) 49 := ⟨Try.func53, rfl, Try.ntmps53⟩
instance : TFn Try.prog 54 := ⟨Try.call54⟩
instance : TBody Try.prog 54 Try.f54 (Try.f54.body.getD .skip) 56 := ⟨Try.func54, rfl, Try.ntmps54⟩
instance : TFn Try.prog 55 := ⟨Try.call55⟩
instance : TBody Try.prog 55 Try.f55 (Try.f55.body.getD .skip) 65 := ⟨Try.func55, rfl, Try.ntmps55⟩
instance : TFn Try.prog 56 := ⟨Try.call56⟩
instance : TBody Try.prog 56 Try.f56 (Try.f56.body.getD .skip) 57 := ⟨Try.func56, rfl, Try.ntmps56⟩
instance : TFn Try.prog 57 := ⟨Try.call57⟩
instance : TBody Try.prog 57 Try.f57 (Try.f57.body.getD .skip) 32 := ⟨Try.func57, rfl, Try.ntmps57⟩
instance : TFn Try.prog 58 := ⟨Try.call58⟩
instance : TBody Try.prog 58 Try.f58 (Try.f58.body.getD .skip) 133 := ⟨Try.func58, rfl, Try.ntmps58⟩
instance : TFn Try.prog 59 := ⟨Try.call59⟩
instance : TBody Try.prog 59 Try.f59 (Try.f59.body.getD .skip) 17 := ⟨Try.func59, rfl, Try.ntmps59⟩
instance : TFn Try.prog 60 := ⟨Try.call60⟩
instance : TBody Try.prog 60 Try.f60 (Try.f60.body.getD .skip) 84 := ⟨Try.func60, rfl, Try.ntmps60⟩
instance : TFn Try.prog 61 := ⟨Try.call61⟩
instance : TBody Try.prog 61 Try.f61 (Try.f61.body.getD .skip) 168 := ⟨Try.func61, rfl, Try.ntmps61⟩
instance : TFn Try.prog 62 := ⟨Try.call62⟩
instance : TBody Try.prog 62 Try.f62 (Try.f62.body.getD .skip) 19 := ⟨Try.func62, rfl, Try.ntmps62⟩
instance : TFn Try.prog 63 := ⟨Try.call63⟩
instance : TBody Try.prog 63 Try.f63 (Try.f63.body.getD .skip) 25 := ⟨Try.func63, rfl, Try.ntmps63⟩
instance : TFn Try.prog 64 := ⟨Try.call64⟩
instance : TBody Try.prog 64 Try.f64 (Try.f64.body.getD .skip) 76 := ⟨Try.func64, rfl, Try.ntmps64⟩
instance : TFn Try.prog 65 := ⟨Try.call65⟩
instance : TBody Try.prog 65 Try.f65 (Try.f65.body.getD .skip) 7 := ⟨Try.func65, rfl, Try.ntmps65⟩
instance : TFn Try.prog 66 := ⟨Try.call66⟩
instance : TBody Try.prog 66 Try.f66 (Try.f66.body.getD .skip) 33 := ⟨Try.func66, rfl, Try.ntmps66⟩
instance : TFn Try.prog 67 := ⟨Try.call67⟩
instance : TBody Try.prog 67 Try.f67 (Try.f67.body.getD .skip) 15 := ⟨Try.func67, rfl, Try.ntmps67⟩
instance : TFn Try.prog 68 := ⟨Try.call68⟩
instance : TBody Try.prog 68 Try.f68 (Try.f68.body.getD .skip) 36 := ⟨Try.func68, rfl, Try.ntmps68⟩
instance : TFn Try.prog 69 := ⟨Try.call69⟩
instance : TBody Try.prog 69 Try.f69 (Try.f69.body.getD .skip) 6 := ⟨Try.func69, rfl, Try.ntmps69⟩
instance : TFn Try.prog 70 := ⟨Try.call70⟩
instance : TBody Try.prog 70 Try.f70 (Try.f70.body.getD .skip) 28 := ⟨Try.func70, rfl, Try.ntmps70⟩
instance : TMix Try.prog := ⟨rfl⟩
end Go.Proofs.Ytjafnombaehcaaa
