/- Written by program (gen_inst.py) for this seat: what the walk asks of its types and functions. -/
import Derived.Test.YtafhinjggdknjaaDoorPZA
import Derived.Test.YtafhinjggdknjaaDoorProg
set_option linter.unusedVariables false
set_option linter.unusedSimpArgs false
set_option maxRecDepth 100000
namespace Go.Proofs.YtafhinjggdknjaaDoor
open Go Go.Sx Go.Proofs
instance : TIt Tryd.prog 2 .i64 := ⟨Tryd.underlying2⟩
instance : TSz Tryd.prog 3 1 := ⟨Tryd.sizeOf3⟩
instance : TAgg Tryd.prog 3 false := ⟨Tryd.isAgg3⟩
instance : TIt Tryd.prog 3 .i64 := ⟨Tryd.underlying3⟩
instance : TZ Tryd.prog 3 (.int .i64 0) := ⟨Tryd.zeroValue3⟩
instance : TIn Tryd.prog 3 1 8 (.int .i64 0) := ⟨_, rfl, rfl, rfl, rfl, rfl, by decide⟩
instance : TSz Tryd.prog 4 1 := ⟨Tryd.sizeOf4⟩
instance : TAgg Tryd.prog 4 false := ⟨Tryd.isAgg4⟩
instance : TSz Tryd.prog 5 1 := ⟨Tryd.sizeOf5⟩
instance : TIt Tryd.prog 5 .u8 := ⟨Tryd.underlying5⟩
instance : TSz Tryd.prog 9 1 := ⟨Tryd.sizeOf9⟩
instance : TAgg Tryd.prog 9 false := ⟨Tryd.isAgg9⟩
instance : TSt Tryd.prog 9 := ⟨Tryd.underlying9⟩
instance : TZ Tryd.prog 9 (.string ⟨#[]⟩) := ⟨Tryd.zeroValue9⟩
instance : TIn Tryd.prog 9 1 16 (.string ⟨#[]⟩) := ⟨_, rfl, rfl, rfl, rfl, rfl, by decide⟩
instance : TIt Tryd.prog 21 .i32 := ⟨Tryd.underlying21⟩
instance : TSz Tryd.prog 22 1 := ⟨Tryd.sizeOf22⟩
instance : TAgg Tryd.prog 22 false := ⟨Tryd.isAgg22⟩
instance : TSl Tryd.prog 22 3 := ⟨Tryd.underlying22⟩
instance : TZ Tryd.prog 22 (.slice none 0 0) := ⟨Tryd.zeroValue22⟩
instance : TSz Tryd.prog 24 4 := ⟨Tryd.sizeOf24⟩
instance : TAgg Tryd.prog 24 true := ⟨Tryd.isAgg24⟩
instance : TPl Tryd.prog 24 [(0, 1), (1, 1), (2, 1), (3, 1)] := ⟨_, Tryd.underlying24, fun w => by simp [List.mapM_cons]⟩
instance : TFd Tryd.prog 24 0 0 3 := ⟨_, _, Tryd.underlying24, rfl, rfl, rfl, fun w => ⟨0, Tryd.sizeOf3 w⟩⟩
instance : TFd Tryd.prog 24 1 1 3 := ⟨_, _, Tryd.underlying24, rfl, rfl, rfl, fun w => ⟨0, Tryd.sizeOf3 w⟩⟩
instance : TFd Tryd.prog 24 2 2 3 := ⟨_, _, Tryd.underlying24, rfl, rfl, rfl, fun w => ⟨0, Tryd.sizeOf3 w⟩⟩
instance : TFd Tryd.prog 24 3 3 22 := ⟨_, _, Tryd.underlying24, rfl, rfl, rfl, fun w => ⟨0, Tryd.sizeOf22 w⟩⟩
instance : TZL Tryd.prog 24 [.int .i64 0, .int .i64 0, .int .i64 0, .slice none 0 0] := ⟨_, Tryd.zeroValue24, rfl⟩
instance : TAgg Tryd.prog 25 false := ⟨Tryd.isAgg25⟩
instance : TSl Tryd.prog 25 34 := ⟨Tryd.underlying25⟩
instance : TAgg Tryd.prog 27 false := ⟨Tryd.isAgg27⟩
instance : TPt Tryd.prog 27 := ⟨_, Tryd.underlying27⟩
instance : TSz Tryd.prog 28 1 := ⟨Tryd.sizeOf28⟩
instance : TAgg Tryd.prog 28 false := ⟨Tryd.isAgg28⟩
instance : TIn Tryd.prog 28 1 8 (.int .i64 0) := ⟨_, rfl, rfl, rfl, rfl, rfl, by decide⟩
instance : TSz Tryd.prog 32 1 := ⟨Tryd.sizeOf32⟩
instance : TAgg Tryd.prog 32 false := ⟨Tryd.isAgg32⟩
instance : TSl Tryd.prog 32 9 := ⟨Tryd.underlying32⟩
instance : TSz Tryd.prog 34 5 := ⟨Tryd.sizeOf34⟩
instance : TAgg Tryd.prog 34 true := ⟨Tryd.isAgg34⟩
instance : TPl Tryd.prog 34 [(0, 1), (1, 1), (2, 1), (3, 1), (4, 1)] := ⟨_, Tryd.underlying34, fun w => by simp [List.mapM_cons]⟩
instance : TFd Tryd.prog 34 0 0 3 := ⟨_, _, Tryd.underlying34, rfl, rfl, rfl, fun w => ⟨0, Tryd.sizeOf3 w⟩⟩
instance : TFd Tryd.prog 34 1 1 3 := ⟨_, _, Tryd.underlying34, rfl, rfl, rfl, fun w => ⟨0, Tryd.sizeOf3 w⟩⟩
instance : TFd Tryd.prog 34 2 2 3 := ⟨_, _, Tryd.underlying34, rfl, rfl, rfl, fun w => ⟨0, Tryd.sizeOf3 w⟩⟩
instance : TFd Tryd.prog 34 3 3 3 := ⟨_, _, Tryd.underlying34, rfl, rfl, rfl, fun w => ⟨0, Tryd.sizeOf3 w⟩⟩
instance : TFd Tryd.prog 34 4 4 32 := ⟨_, _, Tryd.underlying34, rfl, rfl, rfl, fun w => ⟨0, Tryd.sizeOf32 w⟩⟩
instance : TZ Tryd.prog 34 (.agg #[.int .i64 0, .int .i64 0, .int .i64 0, .int .i64 0, .slice none 0 0]) := ⟨Tryd.zeroValue34⟩
instance : TZL Tryd.prog 34 [.int .i64 0, .int .i64 0, .int .i64 0, .int .i64 0, .slice none 0 0] := ⟨_, Tryd.zeroValue34, rfl⟩
instance : TIn Tryd.prog 34 5 56 (.agg #[.int .i64 0, .int .i64 0, .int .i64 0, .int .i64 0, .slice none 0 0]) := ⟨_, rfl, rfl, rfl, rfl, rfl, by decide⟩
instance : TSl Tryd.prog 36 41 := ⟨Tryd.underlying36⟩
instance : TSl Tryd.prog 37 28 := ⟨Tryd.underlying37⟩
instance : TSz Tryd.prog 41 2 := ⟨Tryd.sizeOf41⟩
instance : TAgg Tryd.prog 41 true := ⟨Tryd.isAgg41⟩
instance : TPl Tryd.prog 41 [(0, 1), (1, 1)] := ⟨_, Tryd.underlying41, fun w => by simp [List.mapM_cons]⟩
instance : TFd Tryd.prog 41 0 0 3 := ⟨_, _, Tryd.underlying41, rfl, rfl, rfl, fun w => ⟨0, Tryd.sizeOf3 w⟩⟩
instance : TFd Tryd.prog 41 1 1 22 := ⟨_, _, Tryd.underlying41, rfl, rfl, rfl, fun w => ⟨0, Tryd.sizeOf22 w⟩⟩
instance : TZL Tryd.prog 41 [.int .i64 0, .slice none 0 0] := ⟨_, Tryd.zeroValue41, rfl⟩
instance : TIn Tryd.prog 41 2 32 (.agg #[.int .i64 0, .slice none 0 0]) := ⟨_, rfl, rfl, rfl, rfl, rfl, by decide⟩
instance : TAgg Tryd.prog 47 false := ⟨Tryd.isAgg47⟩
instance : TMap Tryd.prog 47 3 3 := ⟨Tryd.underlying47⟩
instance : TPl Tryd.prog 49 [(0, 4), (4, 1)] := ⟨_, Tryd.underlying49, fun w => by simp [List.mapM_cons]⟩
instance : TFd Tryd.prog 49 0 0 24 := ⟨_, _, Tryd.underlying49, rfl, rfl, rfl, fun w => ⟨3, Tryd.sizeOf24 w⟩⟩
instance : TFd Tryd.prog 49 1 4 47 := ⟨_, _, Tryd.underlying49, rfl, rfl, rfl, fun w => ⟨0, Tryd.sizeOf47 w⟩⟩
instance : TZL Tryd.prog 49 [.int .i64 0, .int .i64 0, .int .i64 0, .slice none 0 0, .map none] := ⟨_, Tryd.zeroValue49, rfl⟩
instance : TSz Tryd.prog 53 1 := ⟨Tryd.sizeOf53⟩
instance : TAgg Tryd.prog 53 false := ⟨Tryd.isAgg53⟩
instance : TSz Tryd.prog 54 1 := ⟨Tryd.sizeOf54⟩
instance : TAgg Tryd.prog 54 false := ⟨Tryd.isAgg54⟩
instance : TSz Tryd.prog 59 1 := ⟨Tryd.sizeOf59⟩
instance : TAgg Tryd.prog 59 false := ⟨Tryd.isAgg59⟩
instance : TIt Tryd.prog 59 .u64 := ⟨Tryd.underlying59⟩
instance : TFd Tryd.prog 61 2 0 59 := ⟨_, _, Tryd.underlying61, rfl, rfl, rfl, fun w => ⟨0, Tryd.sizeOf59 w⟩⟩
instance : TIt Tryd.prog 62 .u32 := ⟨Tryd.underlying62⟩
instance : TFd Tryd.prog 64 1 0 61 := ⟨_, _, Tryd.underlying64, rfl, rfl, rfl, fun w => ⟨0, Tryd.sizeOf61 w⟩⟩
instance : TFd Tryd.prog 64 2 1 62 := ⟨_, _, Tryd.underlying64, rfl, rfl, rfl, fun w => ⟨0, Tryd.sizeOf62 w⟩⟩
instance : TZL Tryd.prog 64 [.int .u64 0, .int .u32 0] := ⟨_, Tryd.zeroValue64, rfl⟩
instance : TSz Tryd.prog 67 4 := ⟨Tryd.sizeOf67⟩
instance : TPl Tryd.prog 67 [(0, 1), (1, 2), (3, 1)] := ⟨_, Tryd.underlying67, fun w => by simp [List.mapM_cons]⟩
instance : TFd Tryd.prog 67 0 0 3 := ⟨_, _, Tryd.underlying67, rfl, rfl, rfl, fun w => ⟨0, Tryd.sizeOf3 w⟩⟩
instance : TFd Tryd.prog 67 1 1 41 := ⟨_, _, Tryd.underlying67, rfl, rfl, rfl, fun w => ⟨1, Tryd.sizeOf41 w⟩⟩
instance : TFd Tryd.prog 67 2 3 28 := ⟨_, _, Tryd.underlying67, rfl, rfl, rfl, fun w => ⟨0, Tryd.sizeOf28 w⟩⟩
instance : TZ Tryd.prog 67 (.agg #[.int .i64 0, .int .i64 0, .slice none 0 0, .int .i64 0]) := ⟨Tryd.zeroValue67⟩
instance : TZL Tryd.prog 67 [.int .i64 0, .int .i64 0, .slice none 0 0, .int .i64 0] := ⟨_, Tryd.zeroValue67, rfl⟩
instance : TIn Tryd.prog 67 4 48 (.agg #[.int .i64 0, .int .i64 0, .slice none 0 0, .int .i64 0]) := ⟨_, rfl, rfl, rfl, rfl, rfl, by decide⟩
instance : TMap Tryd.prog 69 9 3 := ⟨Tryd.underlying69⟩
instance : TSl Tryd.prog 71 72 := ⟨Tryd.underlying71⟩
instance : TSz Tryd.prog 72 1 := ⟨Tryd.sizeOf72⟩
instance : TAgg Tryd.prog 72 false := ⟨Tryd.isAgg72⟩
instance : TSl Tryd.prog 72 76 := ⟨Tryd.underlying72⟩
instance : TIn Tryd.prog 72 1 24 (.slice none 0 0) := ⟨_, rfl, rfl, rfl, rfl, rfl, by decide⟩
instance : TSz Tryd.prog 76 5 := ⟨Tryd.sizeOf76⟩
instance : TAgg Tryd.prog 76 true := ⟨Tryd.isAgg76⟩
instance : TPl Tryd.prog 76 [(0, 1), (1, 1), (2, 1), (3, 1), (4, 1)] := ⟨_, Tryd.underlying76, fun w => by simp [List.mapM_cons]⟩
instance : TFd Tryd.prog 76 0 0 4 := ⟨_, _, Tryd.underlying76, rfl, rfl, rfl, fun w => ⟨0, Tryd.sizeOf4 w⟩⟩
instance : TFd Tryd.prog 76 1 1 3 := ⟨_, _, Tryd.underlying76, rfl, rfl, rfl, fun w => ⟨0, Tryd.sizeOf3 w⟩⟩
instance : TFd Tryd.prog 76 2 2 3 := ⟨_, _, Tryd.underlying76, rfl, rfl, rfl, fun w => ⟨0, Tryd.sizeOf3 w⟩⟩
instance : TFd Tryd.prog 76 3 3 3 := ⟨_, _, Tryd.underlying76, rfl, rfl, rfl, fun w => ⟨0, Tryd.sizeOf3 w⟩⟩
instance : TFd Tryd.prog 76 4 4 3 := ⟨_, _, Tryd.underlying76, rfl, rfl, rfl, fun w => ⟨0, Tryd.sizeOf3 w⟩⟩
instance : TZL Tryd.prog 76 [.bool false, .int .i64 0, .int .i64 0, .int .i64 0, .int .i64 0] := ⟨_, Tryd.zeroValue76, rfl⟩
instance : TIn Tryd.prog 76 5 40 (.agg #[.bool false, .int .i64 0, .int .i64 0, .int .i64 0, .int .i64 0]) := ⟨_, rfl, rfl, rfl, rfl, rfl, by decide⟩
instance : TIt Tryd.prog 89 .u64 := ⟨Tryd.underlying89⟩
instance : TSl Tryd.prog 119 22 := ⟨Tryd.underlying119⟩
instance : TSl Tryd.prog 137 5 := ⟨Tryd.underlying137⟩
instance : TBody Tryd.prog 3 Tryd.f3 (Tryd.f3.body.getD .skip) 100 := ⟨Tryd.func3, rfl, Tryd.ntmps3⟩
instance : TFn Tryd.prog 4 := ⟨Tryd.call4, _, Tryd.func4, rfl⟩
instance : TBody Tryd.prog 4 Tryd.f4 (Tryd.f4.body.getD .skip) 48 := ⟨Tryd.func4, rfl, Tryd.ntmps4⟩
instance : TFn Tryd.prog 5 := ⟨Tryd.call5, _, Tryd.func5, rfl⟩
instance : TBody Tryd.prog 5 Tryd.f5 (Tryd.f5.body.getD .skip) 67 := ⟨Tryd.func5, rfl, Tryd.ntmps5⟩
instance : TFn Tryd.prog 6 := ⟨Tryd.call6, _, Tryd.func6, rfl⟩
instance : TBody Tryd.prog 6 Tryd.f6 (Tryd.f6.body.getD .skip) 54 := ⟨Tryd.func6, rfl, Tryd.ntmps6⟩
instance : TFn Tryd.prog 7 := ⟨Tryd.call7, _, Tryd.func7, rfl⟩
instance : TBody Tryd.prog 7 Tryd.f7 (Tryd.f7.body.getD .skip) 14 := ⟨Tryd.func7, rfl, Tryd.ntmps7⟩
instance : TFn Tryd.prog 8 := ⟨Tryd.call8, _, Tryd.func8, rfl⟩
instance : TBody Tryd.prog 8 Tryd.f8 (Tryd.f8.body.getD .skip) 70 := ⟨Tryd.func8, rfl, Tryd.ntmps8⟩
instance : TFn Tryd.prog 9 := ⟨Tryd.call9, _, Tryd.func9, rfl⟩
instance : TBody Tryd.prog 9 Tryd.f9 (Tryd.f9.body.getD .skip) 214 := ⟨Tryd.func9, rfl, Tryd.ntmps9⟩
instance : TFn Tryd.prog 10 := ⟨Tryd.call10, _, Tryd.func10, rfl⟩
instance : TBody Tryd.prog 10 Tryd.f10 (Tryd.f10.body.getD .skip) 17 := ⟨Tryd.func10, rfl, Tryd.ntmps10⟩
instance : TFn Tryd.prog 11 := ⟨Tryd.call11, _, Tryd.func11, rfl⟩
instance : TBody Tryd.prog 11 Tryd.f11 (Tryd.f11.body.getD .skip) 26 := ⟨Tryd.func11, rfl, Tryd.ntmps11⟩
instance : TFn Tryd.prog 12 := ⟨Tryd.call12, _, Tryd.func12, rfl⟩
instance : TBody Tryd.prog 12 Tryd.f12 (Tryd.f12.body.getD .skip) 8 := ⟨Tryd.func12, rfl, Tryd.ntmps12⟩
instance : TFn Tryd.prog 13 := ⟨Tryd.call13, _, Tryd.func13, rfl⟩
instance : TBody Tryd.prog 13 Tryd.f13 (Tryd.f13.body.getD .skip) 22 := ⟨Tryd.func13, rfl, Tryd.ntmps13⟩
instance : TFn Tryd.prog 14 := ⟨Tryd.call14, _, Tryd.func14, rfl⟩
instance : TBody Tryd.prog 14 Tryd.f14 (Tryd.f14.body.getD .skip) 16 := ⟨Tryd.func14, rfl, Tryd.ntmps14⟩
instance : TFn Tryd.prog 15 := ⟨Tryd.call15, _, Tryd.func15, rfl⟩
instance : TBody Tryd.prog 15 Tryd.f15 (Tryd.f15.body.getD .skip) 117 := ⟨Tryd.func15, rfl, Tryd.ntmps15⟩
instance : TBody Tryd.prog 16 Tryd.f16 (Tryd.f16.body.getD .skip) 26 := ⟨Tryd.func16, rfl, Tryd.ntmps16⟩
instance : TFn Tryd.prog 18 := ⟨Tryd.call18, _, Tryd.func18, rfl⟩
instance : TBody Tryd.prog 18 Tryd.f18 (Tryd.f18.body.getD .skip) 84 := ⟨Tryd.func18, rfl, Tryd.ntmps18⟩
instance : TFn Tryd.prog 19 := ⟨Tryd.call19, _, Tryd.func19, rfl⟩
instance : TBody Tryd.prog 19 Tryd.f19 (Tryd.f19.body.getD .skip) 37 := ⟨Tryd.func19, rfl, Tryd.ntmps19⟩
instance : TFn Tryd.prog 20 := ⟨Tryd.call20, _, Tryd.func20, rfl⟩
instance : TBody Tryd.prog 20 Tryd.f20 (Tryd.f20.body.getD .skip) 13 := ⟨Tryd.func20, rfl, Tryd.ntmps20⟩
instance : TFn Tryd.prog 21 := ⟨Tryd.call21, _, Tryd.func21, rfl⟩
instance : TBody Tryd.prog 21 Tryd.f21 (Tryd.f21.body.getD .skip) 17 := ⟨Tryd.func21, rfl, Tryd.ntmps21⟩
instance : TFn Tryd.prog 22 := ⟨Tryd.call22, _, Tryd.func22, rfl⟩
instance : TBody Tryd.prog 22 Tryd.f22 (Tryd.f22.body.getD .skip) 12 := ⟨Tryd.func22, rfl, Tryd.ntmps22⟩
instance : TFn Tryd.prog 23 := ⟨Tryd.call23, _, Tryd.func23, rfl⟩
instance : TBody Tryd.prog 23 Tryd.f23 (Tryd.f23.body.getD .skip) 42 := ⟨Tryd.func23, rfl, Tryd.ntmps23⟩
instance : TFn Tryd.prog 24 := ⟨Tryd.call24, _, Tryd.func24, rfl⟩
instance : TBody Tryd.prog 24 Tryd.f24 (Tryd.f24.body.getD .skip) 60 := ⟨Tryd.func24, rfl, Tryd.ntmps24⟩
instance : TFn Tryd.prog 25 := ⟨Tryd.call25, _, Tryd.func25, rfl⟩
instance : TBody Tryd.prog 25 Tryd.f25 (Tryd.f25.body.getD .skip) 22 := ⟨Tryd.func25, rfl, Tryd.ntmps25⟩
instance : TFn Tryd.prog 26 := ⟨Tryd.call26, _, Tryd.func26, rfl⟩
instance : TBody Tryd.prog 26 Tryd.f26 (Tryd.f26.body.getD .skip) 38 := ⟨Tryd.func26, rfl, Tryd.ntmps26⟩
instance : TFn Tryd.prog 27 := ⟨Tryd.call27, _, Tryd.func27, rfl⟩
instance : TBody Tryd.prog 27 Tryd.f27 (Tryd.f27.body.getD .skip) 17 := ⟨Tryd.func27, rfl, Tryd.ntmps27⟩
instance : TFn Tryd.prog 28 := ⟨Tryd.call28, _, Tryd.func28, rfl⟩
instance : TBody Tryd.prog 28 Tryd.f28 (Tryd.f28.body.getD .skip) 13 := ⟨Tryd.func28, rfl, Tryd.ntmps28⟩
instance : TFn Tryd.prog 36 := ⟨Tryd.call36, _, Tryd.func36, rfl⟩
instance : TBody Tryd.prog 36 Tryd.f36 (Tryd.f36.body.getD .skip) 10 := ⟨Tryd.func36, rfl, Tryd.ntmps36⟩
instance : TFn Tryd.prog 38 := ⟨Tryd.call38, _, Tryd.func38, rfl⟩
instance : TBody Tryd.prog 38 Tryd.f38 (Tryd.f38.body.getD .skip) 7 := ⟨Tryd.func38, rfl, Tryd.ntmps38⟩
instance : TFn Tryd.prog 44 := ⟨Tryd.call44, _, Tryd.func44, rfl⟩
instance : TBody Tryd.prog 44 Tryd.f44 (Tryd.f44.body.getD .skip) 13 := ⟨Tryd.func44, rfl, Tryd.ntmps44⟩
instance : TFn Tryd.prog 47 := ⟨Tryd.call47, _, Tryd.func47, rfl⟩
instance : TBody Tryd.prog 47 Tryd.f47 (Tryd.f47.body.getD .skip) 27 := ⟨Tryd.func47, rfl, Tryd.ntmps47⟩
instance : TFn Tryd.prog 48 := ⟨Tryd.call48, _, Tryd.func48, rfl⟩
instance : TBody Tryd.prog 48 Tryd.f48 (Tryd.f48.body.getD .skip) 5 := ⟨Tryd.func48, rfl, Tryd.ntmps48⟩
instance : TFn Tryd.prog 49 := ⟨Tryd.call49, _, Tryd.func49, rfl⟩
instance : TBody Tryd.prog 49 Tryd.f49 (Tryd.f49.body.getD .skip) 25 := ⟨Tryd.func49, rfl, Tryd.ntmps49⟩
instance : TFn Tryd.prog 50 := ⟨Tryd.call50, _, Tryd.func50, rfl⟩
instance : TBody Tryd.prog 50 Tryd.f50 (Tryd.f50.body.getD .skip) 51 := ⟨Tryd.func50, rfl, Tryd.ntmps50⟩
instance : TFn Tryd.prog 51 := ⟨Tryd.call51, _, Tryd.func51, rfl⟩
instance : TBody Tryd.prog 51 Tryd.f51 (Tryd.f51.body.getD .skip) 11 := ⟨Tryd.func51, rfl, Tryd.ntmps51⟩
instance : TFn Tryd.prog 52 := ⟨Tryd.call52, _, Tryd.func52, rfl⟩
instance : TBody Tryd.prog 52 Tryd.f52 (Tryd.f52.body.getD .skip) 61 := ⟨Tryd.func52, rfl, Tryd.ntmps52⟩
instance : TFn Tryd.prog 53 := ⟨Tryd.call53, _, Tryd.func53, rfl⟩
instance : TBody Tryd.prog 53 Tryd.f53 (Tryd.f53.body.getD .skip) 18 := ⟨Tryd.func53, rfl, Tryd.ntmps53⟩
instance : TFn Tryd.prog 54 := ⟨Tryd.call54, _, Tryd.func54, rfl⟩
instance : TBody Tryd.prog 54 Tryd.f54 (Tryd.f54.body.getD .skip) 20 := ⟨Tryd.func54, rfl, Tryd.ntmps54⟩
instance : TFn Tryd.prog 55 := ⟨Tryd.call55, _, Tryd.func55, rfl⟩
instance : TBody Tryd.prog 55 Tryd.f55 (Tryd.f55.body.getD .skip) 48 := ⟨Tryd.func55, rfl, Tryd.ntmps55⟩
instance : TFn Tryd.prog 56 := ⟨Tryd.call56, _, Tryd.func56, rfl⟩
instance : TBody Tryd.prog 56 Tryd.f56 (Tryd.f56.body.getD .skip) 36 := ⟨Tryd.func56, rfl, Tryd.ntmps56⟩
instance : TFn Tryd.prog 63 := ⟨Tryd.call63, _, Tryd.func63, rfl⟩
instance : TBody Tryd.prog 63 Tryd.f63 (Tryd.f63.body.getD .skip) 134 := ⟨Tryd.func63, rfl, Tryd.ntmps63⟩
instance : TFn Tryd.prog 64 := ⟨Tryd.call64, _, Tryd.func64, rfl⟩
instance : TBody Tryd.prog 64 Tryd.f64 (Tryd.f64.body.getD .skip) 8 := ⟨Tryd.func64, rfl, Tryd.ntmps64⟩
instance : TFn Tryd.prog 65 := ⟨Tryd.call65, _, Tryd.func65, rfl⟩
instance : TBody Tryd.prog 65 Tryd.f65 (Tryd.f65.body.getD .skip) 6 := ⟨Tryd.func65, rfl, Tryd.ntmps65⟩
instance : TFn Tryd.prog 66 := ⟨Tryd.call66, _, Tryd.func66, rfl⟩
instance : TBody Tryd.prog 66 Tryd.f66 (Tryd.f66.body.getD .skip) 30 := ⟨Tryd.func66, rfl, Tryd.ntmps66⟩
instance : TFn Tryd.prog 67 := ⟨Tryd.call67, _, Tryd.func67, rfl⟩
instance : TBody Tryd.prog 67 Tryd.f67 (Tryd.f67.body.getD .skip) 27 := ⟨Tryd.func67, rfl, Tryd.ntmps67⟩
instance : TFn Tryd.prog 69 := ⟨Tryd.call69, _, Tryd.func69, rfl⟩
instance : TBody Tryd.prog 69 Tryd.f69 (Tryd.f69.body.getD .skip) 49 := ⟨Tryd.func69, rfl, Tryd.ntmps69⟩
instance : TFn Tryd.prog 75 := ⟨Tryd.call75, _, Tryd.func75, rfl⟩
instance : TBody Tryd.prog 75 Tryd.f75 (Tryd.f75.body.getD .skip) 17 := ⟨Tryd.func75, rfl, Tryd.ntmps75⟩
instance : TFn Tryd.prog 79 := ⟨Tryd.call79, _, Tryd.func79, rfl⟩
instance : TBody Tryd.prog 79 Tryd.f79 (Tryd.f79.body.getD .skip) 25 := ⟨Tryd.func79, rfl, Tryd.ntmps79⟩
instance : TFn Tryd.prog 81 := ⟨Tryd.call81, _, Tryd.func81, rfl⟩
instance : TBody Tryd.prog 81 Tryd.f81 (Tryd.f81.body.getD .skip) 51 := ⟨Tryd.func81, rfl, Tryd.ntmps81⟩
instance : TMix Tryd.prog := ⟨rfl⟩
end Go.Proofs.YtafhinjggdknjaaDoor
