/- Written by program (gen_inst.py) for this seat: what the walk asks of its types and functions. -/
import Derived.Test.YtlflbkpmfhhikaaGreatDoorKKB
import Derived.Test.YtlflbkpmfhhikaaGreatDoorProg
set_option maxRecDepth 100000
namespace Go.Proofs.YtlflbkpmfhhikaaGreatDoor
open Go Go.Sx Go.Proofs
instance :TSz Tryz.prog 3 1:=⟨Tryz.sizeOf3⟩
instance :TAgg Tryz.prog 3 false:=⟨Tryz.isAgg3⟩
instance :TIt Tryz.prog 3 .i64:=⟨Tryz.underlying3⟩
instance :TZ Tryz.prog 3 (.int .i64 0):=⟨Tryz.zeroValue3⟩
instance :TIn Tryz.prog 3 1 8 (.int .i64 0):=⟨_,rfl,rfl,rfl,rfl,rfl,by decide⟩
instance :TSz Tryz.prog 4 1:=⟨Tryz.sizeOf4⟩
instance :TAgg Tryz.prog 4 false:=⟨Tryz.isAgg4⟩
instance :TBo Tryz.prog 4:=⟨Tryz.underlying4⟩
instance :TZ Tryz.prog 4 (.bool false):=⟨Tryz.zeroValue4⟩
instance :TIn Tryz.prog 4 1 1 (.bool false):=⟨_,rfl,rfl,rfl,rfl,rfl,by decide⟩
instance :TSz Tryz.prog 5 1:=⟨Tryz.sizeOf5⟩
instance :TIt Tryz.prog 5 .u8:=⟨Tryz.underlying5⟩
instance :TZ Tryz.prog 5 (.int .u8 0):=⟨Tryz.zeroValue5⟩
instance :TSz Tryz.prog 9 1:=⟨Tryz.sizeOf9⟩
instance :TAgg Tryz.prog 9 false:=⟨Tryz.isAgg9⟩
instance :TSt Tryz.prog 9:=⟨Tryz.underlying9⟩
instance :TZ Tryz.prog 9 (.string ⟨#[]⟩):=⟨Tryz.zeroValue9⟩
instance :TIn Tryz.prog 9 1 16 (.string ⟨#[]⟩):=⟨_,rfl,rfl,rfl,rfl,rfl,by decide⟩
instance :TSl Tryz.prog 22 37:=⟨Tryz.underlying22⟩
instance :TPt Tryz.prog 23:=⟨_,Tryz.underlying23⟩
instance :TSz Tryz.prog 27 1:=⟨Tryz.sizeOf27⟩
instance :TAgg Tryz.prog 27 false:=⟨Tryz.isAgg27⟩
instance :TSl Tryz.prog 27 71:=⟨Tryz.underlying27⟩
instance :TAgg Tryz.prog 34 false:=⟨Tryz.isAgg34⟩
instance :TSz Tryz.prog 35 1:=⟨Tryz.sizeOf35⟩
instance :TAgg Tryz.prog 35 false:=⟨Tryz.isAgg35⟩
instance :TSl Tryz.prog 35 50:=⟨Tryz.underlying35⟩
instance :TSz Tryz.prog 37 3:=⟨Tryz.sizeOf37⟩
instance :TAgg Tryz.prog 37 true:=⟨Tryz.isAgg37⟩
instance :TPl Tryz.prog 37 [(0,1),(1,1),(2,1)]:=⟨_,Tryz.underlying37,fun w=>by simp [List.mapM_cons]⟩
instance :TFd Tryz.prog 37 0 0 34:=⟨_,_,Tryz.underlying37,rfl,rfl,rfl,fun w=>⟨0,Tryz.sizeOf34 w⟩⟩
instance :TFd Tryz.prog 37 1 1 3:=⟨_,_,Tryz.underlying37,rfl,rfl,rfl,fun w=>⟨0,Tryz.sizeOf3 w⟩⟩
instance :TFd Tryz.prog 37 2 2 35:=⟨_,_,Tryz.underlying37,rfl,rfl,rfl,fun w=>⟨0,Tryz.sizeOf35 w⟩⟩
instance :TZ Tryz.prog 37 (.agg #[.int .i64 0,.int .i64 0,.slice none 0 0]):=⟨Tryz.zeroValue37⟩
instance :TZL Tryz.prog 37 [.int .i64 0,.int .i64 0,.slice none 0 0]:=⟨_,Tryz.zeroValue37,rfl⟩
instance :TSz Tryz.prog 39 1:=⟨Tryz.sizeOf39⟩
instance :TAgg Tryz.prog 39 false:=⟨Tryz.isAgg39⟩
instance :TSl Tryz.prog 39 42:=⟨Tryz.underlying39⟩
instance :TSz Tryz.prog 42 2:=⟨Tryz.sizeOf42⟩
instance :TAgg Tryz.prog 42 true:=⟨Tryz.isAgg42⟩
instance :TPl Tryz.prog 42 [(0,1),(1,1)]:=⟨_,Tryz.underlying42,fun w=>by simp [List.mapM_cons]⟩
instance :TFd Tryz.prog 42 0 0 9:=⟨_,_,Tryz.underlying42,rfl,rfl,rfl,fun w=>⟨0,Tryz.sizeOf9 w⟩⟩
instance :TFd Tryz.prog 42 1 1 3:=⟨_,_,Tryz.underlying42,rfl,rfl,rfl,fun w=>⟨0,Tryz.sizeOf3 w⟩⟩
instance :TZ Tryz.prog 42 (.agg #[.string ⟨#[]⟩,.int .i64 0]):=⟨Tryz.zeroValue42⟩
instance :TZL Tryz.prog 42 [.string ⟨#[]⟩,.int .i64 0]:=⟨_,Tryz.zeroValue42,rfl⟩
instance :TIn Tryz.prog 42 2 24 (.agg #[.string ⟨#[]⟩,.int .i64 0]):=⟨_,rfl,rfl,rfl,rfl,rfl,by decide⟩
instance :TSz Tryz.prog 43 1:=⟨Tryz.sizeOf43⟩
instance :TAgg Tryz.prog 43 false:=⟨Tryz.isAgg43⟩
instance :TSl Tryz.prog 43 53:=⟨Tryz.underlying43⟩
instance :TAgg Tryz.prog 45 false:=⟨Tryz.isAgg45⟩
instance :TSz Tryz.prog 47 3:=⟨Tryz.sizeOf47⟩
instance :TAgg Tryz.prog 47 true:=⟨Tryz.isAgg47⟩
instance :TPl Tryz.prog 47 [(0,1),(1,1),(2,1)]:=⟨_,Tryz.underlying47,fun w=>by simp [List.mapM_cons]⟩
instance :TFd Tryz.prog 47 0 0 3:=⟨_,_,Tryz.underlying47,rfl,rfl,rfl,fun w=>⟨0,Tryz.sizeOf3 w⟩⟩
instance :TFd Tryz.prog 47 1 1 3:=⟨_,_,Tryz.underlying47,rfl,rfl,rfl,fun w=>⟨0,Tryz.sizeOf3 w⟩⟩
instance :TFd Tryz.prog 47 2 2 3:=⟨_,_,Tryz.underlying47,rfl,rfl,rfl,fun w=>⟨0,Tryz.sizeOf3 w⟩⟩
instance :TZ Tryz.prog 47 (.agg #[.int .i64 0,.int .i64 0,.int .i64 0]):=⟨Tryz.zeroValue47⟩
instance :TZL Tryz.prog 47 [.int .i64 0,.int .i64 0,.int .i64 0]:=⟨_,Tryz.zeroValue47,rfl⟩
instance :TIn Tryz.prog 47 3 24 (.agg #[.int .i64 0,.int .i64 0,.int .i64 0]):=⟨_,rfl,rfl,rfl,rfl,rfl,by decide⟩
instance :TSz Tryz.prog 48 1:=⟨Tryz.sizeOf48⟩
instance :TAgg Tryz.prog 48 false:=⟨Tryz.isAgg48⟩
instance :TSl Tryz.prog 48 9:=⟨Tryz.underlying48⟩
instance :TZ Tryz.prog 48 (.slice none 0 0):=⟨Tryz.zeroValue48⟩
instance :TSz Tryz.prog 50 3:=⟨Tryz.sizeOf50⟩
instance :TAgg Tryz.prog 50 true:=⟨Tryz.isAgg50⟩
instance :TPl Tryz.prog 50 [(0,1),(1,1),(2,1)]:=⟨_,Tryz.underlying50,fun w=>by simp [List.mapM_cons]⟩
instance :TFd Tryz.prog 50 0 0 3:=⟨_,_,Tryz.underlying50,rfl,rfl,rfl,fun w=>⟨0,Tryz.sizeOf3 w⟩⟩
instance :TFd Tryz.prog 50 1 1 48:=⟨_,_,Tryz.underlying50,rfl,rfl,rfl,fun w=>⟨0,Tryz.sizeOf48 w⟩⟩
instance :TFd Tryz.prog 50 2 2 48:=⟨_,_,Tryz.underlying50,rfl,rfl,rfl,fun w=>⟨0,Tryz.sizeOf48 w⟩⟩
instance :TZ Tryz.prog 50 (.agg #[.int .i64 0,.slice none 0 0,.slice none 0 0]):=⟨Tryz.zeroValue50⟩
instance :TZL Tryz.prog 50 [.int .i64 0,.slice none 0 0,.slice none 0 0]:=⟨_,Tryz.zeroValue50,rfl⟩
instance :TIn Tryz.prog 50 3 56 (.agg #[.int .i64 0,.slice none 0 0,.slice none 0 0]):=⟨_,rfl,rfl,rfl,rfl,rfl,by decide⟩
instance :TSz Tryz.prog 51 1:=⟨Tryz.sizeOf51⟩
instance :TAgg Tryz.prog 51 false:=⟨Tryz.isAgg51⟩
instance :TSl Tryz.prog 51 3:=⟨Tryz.underlying51⟩
instance :TSz Tryz.prog 53 9:=⟨Tryz.sizeOf53⟩
instance :TAgg Tryz.prog 53 true:=⟨Tryz.isAgg53⟩
instance :TPl Tryz.prog 53 [(0,1),(1,3),(4,3),(7,1),(8,1)]:=⟨_,Tryz.underlying53,fun w=>by simp [List.mapM_cons]⟩
instance :TFd Tryz.prog 53 0 0 45:=⟨_,_,Tryz.underlying53,rfl,rfl,rfl,fun w=>⟨0,Tryz.sizeOf45 w⟩⟩
instance :TFd Tryz.prog 53 1 1 47:=⟨_,_,Tryz.underlying53,rfl,rfl,rfl,fun w=>⟨2,Tryz.sizeOf47 w⟩⟩
instance :TFd Tryz.prog 53 2 4 50:=⟨_,_,Tryz.underlying53,rfl,rfl,rfl,fun w=>⟨2,Tryz.sizeOf50 w⟩⟩
instance :TFd Tryz.prog 53 3 7 4:=⟨_,_,Tryz.underlying53,rfl,rfl,rfl,fun w=>⟨0,Tryz.sizeOf4 w⟩⟩
instance :TFd Tryz.prog 53 4 8 51:=⟨_,_,Tryz.underlying53,rfl,rfl,rfl,fun w=>⟨0,Tryz.sizeOf51 w⟩⟩
instance :TZ Tryz.prog 53 (.agg #[.int .i64 0,.int .i64 0,.int .i64 0,.int .i64 0,.int .i64 0,.slice none 0 0,.slice none 0 0,.bool false,.slice none 0 0]):=⟨Tryz.zeroValue53⟩
instance :TZL Tryz.prog 53 [.int .i64 0,.int .i64 0,.int .i64 0,.int .i64 0,.int .i64 0,.slice none 0 0,.slice none 0 0,.bool false,.slice none 0 0]:=⟨_,Tryz.zeroValue53,rfl⟩
instance :TIn Tryz.prog 53 9 120 (.agg #[.int .i64 0,.int .i64 0,.int .i64 0,.int .i64 0,.int .i64 0,.slice none 0 0,.slice none 0 0,.bool false,.slice none 0 0]):=⟨_,rfl,rfl,rfl,rfl,rfl,by decide⟩
instance :TSl Tryz.prog 56 47:=⟨Tryz.underlying56⟩
instance :TSz Tryz.prog 60 1:=⟨Tryz.sizeOf60⟩
instance :TAgg Tryz.prog 60 false:=⟨Tryz.isAgg60⟩
instance :TSl Tryz.prog 60 129:=⟨Tryz.underlying60⟩
instance :TSz Tryz.prog 61 1:=⟨Tryz.sizeOf61⟩
instance :TAgg Tryz.prog 61 false:=⟨Tryz.isAgg61⟩
instance :TSl Tryz.prog 61 132:=⟨Tryz.underlying61⟩
instance :TSz Tryz.prog 62 1:=⟨Tryz.sizeOf62⟩
instance :TAgg Tryz.prog 62 false:=⟨Tryz.isAgg62⟩
instance :TSl Tryz.prog 62 106:=⟨Tryz.underlying62⟩
instance :TSz Tryz.prog 63 1:=⟨Tryz.sizeOf63⟩
instance :TAgg Tryz.prog 63 false:=⟨Tryz.isAgg63⟩
instance :TSl Tryz.prog 63 72:=⟨Tryz.underlying63⟩
instance :TSz Tryz.prog 65 5:=⟨Tryz.sizeOf65⟩
instance :TAgg Tryz.prog 65 true:=⟨Tryz.isAgg65⟩
instance :TPl Tryz.prog 65 [(0,1),(1,1),(2,1),(3,1),(4,1)]:=⟨_,Tryz.underlying65,fun w=>by simp [List.mapM_cons]⟩
instance :TFd Tryz.prog 65 0 0 60:=⟨_,_,Tryz.underlying65,rfl,rfl,rfl,fun w=>⟨0,Tryz.sizeOf60 w⟩⟩
instance :TFd Tryz.prog 65 1 1 61:=⟨_,_,Tryz.underlying65,rfl,rfl,rfl,fun w=>⟨0,Tryz.sizeOf61 w⟩⟩
instance :TFd Tryz.prog 65 2 2 62:=⟨_,_,Tryz.underlying65,rfl,rfl,rfl,fun w=>⟨0,Tryz.sizeOf62 w⟩⟩
instance :TFd Tryz.prog 65 3 3 3:=⟨_,_,Tryz.underlying65,rfl,rfl,rfl,fun w=>⟨0,Tryz.sizeOf3 w⟩⟩
instance :TFd Tryz.prog 65 4 4 63:=⟨_,_,Tryz.underlying65,rfl,rfl,rfl,fun w=>⟨0,Tryz.sizeOf63 w⟩⟩
instance :TZL Tryz.prog 65 [.slice none 0 0,.slice none 0 0,.slice none 0 0,.int .i64 0,.slice none 0 0]:=⟨_,Tryz.zeroValue65,rfl⟩
instance :TSz Tryz.prog 71 10:=⟨Tryz.sizeOf71⟩
instance :TAgg Tryz.prog 71 true:=⟨Tryz.isAgg71⟩
instance :TPl Tryz.prog 71 [(0,1),(1,9)]:=⟨_,Tryz.underlying71,fun w=>by simp [List.mapM_cons]⟩
instance :TFd Tryz.prog 71 1 1 53:=⟨_,_,Tryz.underlying71,rfl,rfl,rfl,fun w=>⟨8,Tryz.sizeOf53 w⟩⟩
instance :TZ Tryz.prog 71 (.agg #[.int .i64 0,.int .i64 0,.int .i64 0,.int .i64 0,.int .i64 0,.int .i64 0,.slice none 0 0,.slice none 0 0,.bool false,.slice none 0 0]):=⟨Tryz.zeroValue71⟩
instance :TZL Tryz.prog 71 [.int .i64 0,.int .i64 0,.int .i64 0,.int .i64 0,.int .i64 0,.int .i64 0,.slice none 0 0,.slice none 0 0,.bool false,.slice none 0 0]:=⟨_,Tryz.zeroValue71,rfl⟩
instance :TIn Tryz.prog 71 10 128 (.agg #[.int .i64 0,.int .i64 0,.int .i64 0,.int .i64 0,.int .i64 0,.int .i64 0,.slice none 0 0,.slice none 0 0,.bool false,.slice none 0 0]):=⟨_,rfl,rfl,rfl,rfl,rfl,by decide⟩
instance :TSz Tryz.prog 72 10:=⟨Tryz.sizeOf72⟩
instance :TPl Tryz.prog 72 [(0,1),(1,9)]:=⟨_,Tryz.underlying72,fun w=>by simp [List.mapM_cons]⟩
instance :TFd Tryz.prog 72 1 1 53:=⟨_,_,Tryz.underlying72,rfl,rfl,rfl,fun w=>⟨8,Tryz.sizeOf53 w⟩⟩
instance :TZ Tryz.prog 72 (.agg #[.int .i64 0,.int .i64 0,.int .i64 0,.int .i64 0,.int .i64 0,.int .i64 0,.slice none 0 0,.slice none 0 0,.bool false,.slice none 0 0]):=⟨Tryz.zeroValue72⟩
instance :TZL Tryz.prog 72 [.int .i64 0,.int .i64 0,.int .i64 0,.int .i64 0,.int .i64 0,.int .i64 0,.slice none 0 0,.slice none 0 0,.bool false,.slice none 0 0]:=⟨_,Tryz.zeroValue72,rfl⟩
instance :TIn Tryz.prog 72 10 128 (.agg #[.int .i64 0,.int .i64 0,.int .i64 0,.int .i64 0,.int .i64 0,.int .i64 0,.slice none 0 0,.slice none 0 0,.bool false,.slice none 0 0]):=⟨_,rfl,rfl,rfl,rfl,rfl,by decide⟩
instance :TSz Tryz.prog 79 1:=⟨Tryz.sizeOf79⟩
instance :TAgg Tryz.prog 79 false:=⟨Tryz.isAgg79⟩
instance :TSl Tryz.prog 79 92:=⟨Tryz.underlying79⟩
instance :TAgg Tryz.prog 80 false:=⟨Tryz.isAgg80⟩
instance :TPl Tryz.prog 82 [(0,1),(1,1),(2,1),(3,1)]:=⟨_,Tryz.underlying82,fun w=>by simp [List.mapM_cons]⟩
instance :TFd Tryz.prog 82 0 0 79:=⟨_,_,Tryz.underlying82,rfl,rfl,rfl,fun w=>⟨0,Tryz.sizeOf79 w⟩⟩
instance :TFd Tryz.prog 82 1 1 80:=⟨_,_,Tryz.underlying82,rfl,rfl,rfl,fun w=>⟨0,Tryz.sizeOf80 w⟩⟩
instance :TFd Tryz.prog 82 2 2 3:=⟨_,_,Tryz.underlying82,rfl,rfl,rfl,fun w=>⟨0,Tryz.sizeOf3 w⟩⟩
instance :TFd Tryz.prog 82 3 3 27:=⟨_,_,Tryz.underlying82,rfl,rfl,rfl,fun w=>⟨0,Tryz.sizeOf27 w⟩⟩
instance :TZL Tryz.prog 82 [.slice none 0 0,.pointer none,.int .i64 0,.slice none 0 0]:=⟨_,Tryz.zeroValue82,rfl⟩
instance :TAgg Tryz.prog 87 false:=⟨Tryz.isAgg87⟩
instance :TAgg Tryz.prog 89 false:=⟨Tryz.isAgg89⟩
instance :TSz Tryz.prog 92 3:=⟨Tryz.sizeOf92⟩
instance :TAgg Tryz.prog 92 true:=⟨Tryz.isAgg92⟩
instance :TPl Tryz.prog 92 [(0,1),(1,1),(2,1)]:=⟨_,Tryz.underlying92,fun w=>by simp [List.mapM_cons]⟩
instance :TFd Tryz.prog 92 0 0 87:=⟨_,_,Tryz.underlying92,rfl,rfl,rfl,fun w=>⟨0,Tryz.sizeOf87 w⟩⟩
instance :TFd Tryz.prog 92 1 1 89:=⟨_,_,Tryz.underlying92,rfl,rfl,rfl,fun w=>⟨0,Tryz.sizeOf89 w⟩⟩
instance :TZ Tryz.prog 92 (.agg #[.pointer none,.pointer none,.int .i64 0]):=⟨Tryz.zeroValue92⟩
instance :TZL Tryz.prog 92 [.pointer none,.pointer none,.int .i64 0]:=⟨_,Tryz.zeroValue92,rfl⟩
instance :TIn Tryz.prog 92 3 24 (.agg #[.pointer none,.pointer none,.int .i64 0]):=⟨_,rfl,rfl,rfl,rfl,rfl,by decide⟩
instance :TSz Tryz.prog 97 1:=⟨Tryz.sizeOf97⟩
instance :TAgg Tryz.prog 97 false:=⟨Tryz.isAgg97⟩
instance :TFd Tryz.prog 100 1 1 51:=⟨_,_,Tryz.underlying100,rfl,rfl,rfl,fun w=>⟨0,Tryz.sizeOf51 w⟩⟩
instance :TFd Tryz.prog 102 2 2 100:=⟨_,_,Tryz.underlying102,rfl,rfl,rfl,fun w=>⟨1,Tryz.sizeOf100 w⟩⟩
instance :TFd Tryz.prog 104 2 2 100:=⟨_,_,Tryz.underlying104,rfl,rfl,rfl,fun w=>⟨1,Tryz.sizeOf100 w⟩⟩
instance :TSz Tryz.prog 106 19:=⟨Tryz.sizeOf106⟩
instance :TAgg Tryz.prog 106 true:=⟨Tryz.isAgg106⟩
instance :TPl Tryz.prog 106 [(0,1),(1,1),(2,1),(3,3),(6,3),(9,1),(10,1),(11,4),(15,4)]:=⟨_,Tryz.underlying106,fun w=>by simp [List.mapM_cons]⟩
instance :TFd Tryz.prog 106 0 0 3:=⟨_,_,Tryz.underlying106,rfl,rfl,rfl,fun w=>⟨0,Tryz.sizeOf3 w⟩⟩
instance :TFd Tryz.prog 106 1 1 3:=⟨_,_,Tryz.underlying106,rfl,rfl,rfl,fun w=>⟨0,Tryz.sizeOf3 w⟩⟩
instance :TFd Tryz.prog 106 2 2 97:=⟨_,_,Tryz.underlying106,rfl,rfl,rfl,fun w=>⟨0,Tryz.sizeOf97 w⟩⟩
instance :TFd Tryz.prog 106 3 3 47:=⟨_,_,Tryz.underlying106,rfl,rfl,rfl,fun w=>⟨2,Tryz.sizeOf47 w⟩⟩
instance :TFd Tryz.prog 106 4 6 50:=⟨_,_,Tryz.underlying106,rfl,rfl,rfl,fun w=>⟨2,Tryz.sizeOf50 w⟩⟩
instance :TFd Tryz.prog 106 5 9 4:=⟨_,_,Tryz.underlying106,rfl,rfl,rfl,fun w=>⟨0,Tryz.sizeOf4 w⟩⟩
instance :TFd Tryz.prog 106 7 11 102:=⟨_,_,Tryz.underlying106,rfl,rfl,rfl,fun w=>⟨3,Tryz.sizeOf102 w⟩⟩
instance :TFd Tryz.prog 106 8 15 104:=⟨_,_,Tryz.underlying106,rfl,rfl,rfl,fun w=>⟨3,Tryz.sizeOf104 w⟩⟩
instance :TZ Tryz.prog 106 (.agg #[.int .i64 0,.int .i64 0,.int .i64 0,.int .i64 0,.int .i64 0,.int .i64 0,.int .i64 0,.slice none 0 0,.slice none 0 0,.bool false,.int .i64 0,.int .i64 0,.int .i64 0,.int .i64 0,.slice none 0 0,.int .i64 0,.int .i64 0,.int .i64 0,.slice none 0 0]):=⟨Tryz.zeroValue106⟩
instance :TZL Tryz.prog 106 [.int .i64 0,.int .i64 0,.int .i64 0,.int .i64 0,.int .i64 0,.int .i64 0,.int .i64 0,.slice none 0 0,.slice none 0 0,.bool false,.int .i64 0,.int .i64 0,.int .i64 0,.int .i64 0,.slice none 0 0,.int .i64 0,.int .i64 0,.int .i64 0,.slice none 0 0]:=⟨_,Tryz.zeroValue106,rfl⟩
instance :TIn Tryz.prog 106 19 216 (.agg #[.int .i64 0,.int .i64 0,.int .i64 0,.int .i64 0,.int .i64 0,.int .i64 0,.int .i64 0,.slice none 0 0,.slice none 0 0,.bool false,.int .i64 0,.int .i64 0,.int .i64 0,.int .i64 0,.slice none 0 0,.int .i64 0,.int .i64 0,.int .i64 0,.slice none 0 0]):=⟨_,rfl,rfl,rfl,rfl,rfl,by decide⟩
instance :TSl Tryz.prog 112 186:=⟨Tryz.underlying112⟩
instance :TAgg Tryz.prog 119 false:=⟨Tryz.isAgg119⟩
instance :TAgg Tryz.prog 120 false:=⟨Tryz.isAgg120⟩
instance :TMap Tryz.prog 120 47 3:=⟨Tryz.underlying120⟩
instance :TPl Tryz.prog 122 [(0,1),(1,1),(2,1)]:=⟨_,Tryz.underlying122,fun w=>by simp [List.mapM_cons]⟩
instance :TFd Tryz.prog 122 0 0 119:=⟨_,_,Tryz.underlying122,rfl,rfl,rfl,fun w=>⟨0,Tryz.sizeOf119 w⟩⟩
instance :TFd Tryz.prog 122 1 1 3:=⟨_,_,Tryz.underlying122,rfl,rfl,rfl,fun w=>⟨0,Tryz.sizeOf3 w⟩⟩
instance :TFd Tryz.prog 122 2 2 120:=⟨_,_,Tryz.underlying122,rfl,rfl,rfl,fun w=>⟨0,Tryz.sizeOf120 w⟩⟩
instance :TZL Tryz.prog 122 [.pointer none,.int .i64 0,.map none]:=⟨_,Tryz.zeroValue122,rfl⟩
instance :TSz Tryz.prog 126 2:=⟨Tryz.sizeOf126⟩
instance :TAgg Tryz.prog 126 true:=⟨Tryz.isAgg126⟩
instance :TFd Tryz.prog 126 0 0 39:=⟨_,_,Tryz.underlying126,rfl,rfl,rfl,fun w=>⟨0,Tryz.sizeOf39 w⟩⟩
instance :TFd Tryz.prog 126 1 1 43:=⟨_,_,Tryz.underlying126,rfl,rfl,rfl,fun w=>⟨0,Tryz.sizeOf43 w⟩⟩
instance :TZL Tryz.prog 126 [.slice none 0 0,.slice none 0 0]:=⟨_,Tryz.zeroValue126,rfl⟩
instance :TSz Tryz.prog 127 1:=⟨Tryz.sizeOf127⟩
instance :TAgg Tryz.prog 127 false:=⟨Tryz.isAgg127⟩
instance :TSl Tryz.prog 127 249:=⟨Tryz.underlying127⟩
instance :TSz Tryz.prog 129 4:=⟨Tryz.sizeOf129⟩
instance :TAgg Tryz.prog 129 true:=⟨Tryz.isAgg129⟩
instance :TPl Tryz.prog 129 [(0,1),(1,2),(3,1)]:=⟨_,Tryz.underlying129,fun w=>by simp [List.mapM_cons]⟩
instance :TFd Tryz.prog 129 0 0 3:=⟨_,_,Tryz.underlying129,rfl,rfl,rfl,fun w=>⟨0,Tryz.sizeOf3 w⟩⟩
instance :TFd Tryz.prog 129 1 1 126:=⟨_,_,Tryz.underlying129,rfl,rfl,rfl,fun w=>⟨1,Tryz.sizeOf126 w⟩⟩
instance :TFd Tryz.prog 129 2 3 127:=⟨_,_,Tryz.underlying129,rfl,rfl,rfl,fun w=>⟨0,Tryz.sizeOf127 w⟩⟩
instance :TZ Tryz.prog 129 (.agg #[.int .i64 0,.slice none 0 0,.slice none 0 0,.slice none 0 0]):=⟨Tryz.zeroValue129⟩
instance :TZL Tryz.prog 129 [.int .i64 0,.slice none 0 0,.slice none 0 0,.slice none 0 0]:=⟨_,Tryz.zeroValue129,rfl⟩
instance :TIn Tryz.prog 129 4 80 (.agg #[.int .i64 0,.slice none 0 0,.slice none 0 0,.slice none 0 0]):=⟨_,rfl,rfl,rfl,rfl,rfl,by decide⟩
instance :TSz Tryz.prog 130 1:=⟨Tryz.sizeOf130⟩
instance :TAgg Tryz.prog 130 false:=⟨Tryz.isAgg130⟩
instance :TSl Tryz.prog 130 150:=⟨Tryz.underlying130⟩
instance :TSz Tryz.prog 132 4:=⟨Tryz.sizeOf132⟩
instance :TAgg Tryz.prog 132 true:=⟨Tryz.isAgg132⟩
instance :TPl Tryz.prog 132 [(0,1),(1,1),(2,1),(3,1)]:=⟨_,Tryz.underlying132,fun w=>by simp [List.mapM_cons]⟩
instance :TFd Tryz.prog 132 0 0 3:=⟨_,_,Tryz.underlying132,rfl,rfl,rfl,fun w=>⟨0,Tryz.sizeOf3 w⟩⟩
instance :TFd Tryz.prog 132 1 1 3:=⟨_,_,Tryz.underlying132,rfl,rfl,rfl,fun w=>⟨0,Tryz.sizeOf3 w⟩⟩
instance :TFd Tryz.prog 132 2 2 3:=⟨_,_,Tryz.underlying132,rfl,rfl,rfl,fun w=>⟨0,Tryz.sizeOf3 w⟩⟩
instance :TFd Tryz.prog 132 3 3 130:=⟨_,_,Tryz.underlying132,rfl,rfl,rfl,fun w=>⟨0,Tryz.sizeOf130 w⟩⟩
instance :TZ Tryz.prog 132 (.agg #[.int .i64 0,.int .i64 0,.int .i64 0,.slice none 0 0]):=⟨Tryz.zeroValue132⟩
instance :TZL Tryz.prog 132 [.int .i64 0,.int .i64 0,.int .i64 0,.slice none 0 0]:=⟨_,Tryz.zeroValue132,rfl⟩
instance :TIn Tryz.prog 132 4 48 (.agg #[.int .i64 0,.int .i64 0,.int .i64 0,.slice none 0 0]):=⟨_,rfl,rfl,rfl,rfl,rfl,by decide⟩
instance :TSl Tryz.prog 144 216:=⟨Tryz.underlying144⟩
instance :TSz Tryz.prog 148 1:=⟨Tryz.sizeOf148⟩
instance :TAgg Tryz.prog 148 false:=⟨Tryz.isAgg148⟩
instance :TSl Tryz.prog 148 4:=⟨Tryz.underlying148⟩
instance :TSz Tryz.prog 150 8:=⟨Tryz.sizeOf150⟩
instance :TAgg Tryz.prog 150 true:=⟨Tryz.isAgg150⟩
instance :TPl Tryz.prog 150 [(0,3),(3,1),(4,1),(5,1),(6,1),(7,1)]:=⟨_,Tryz.underlying150,fun w=>by simp [List.mapM_cons]⟩
instance :TFd Tryz.prog 150 0 0 47:=⟨_,_,Tryz.underlying150,rfl,rfl,rfl,fun w=>⟨2,Tryz.sizeOf47 w⟩⟩
instance :TFd Tryz.prog 150 1 3 4:=⟨_,_,Tryz.underlying150,rfl,rfl,rfl,fun w=>⟨0,Tryz.sizeOf4 w⟩⟩
instance :TFd Tryz.prog 150 3 5 51:=⟨_,_,Tryz.underlying150,rfl,rfl,rfl,fun w=>⟨0,Tryz.sizeOf51 w⟩⟩
instance :TFd Tryz.prog 150 4 6 35:=⟨_,_,Tryz.underlying150,rfl,rfl,rfl,fun w=>⟨0,Tryz.sizeOf35 w⟩⟩
instance :TFd Tryz.prog 150 5 7 148:=⟨_,_,Tryz.underlying150,rfl,rfl,rfl,fun w=>⟨0,Tryz.sizeOf148 w⟩⟩
instance :TZ Tryz.prog 150 (.agg #[.int .i64 0,.int .i64 0,.int .i64 0,.bool false,.int .i64 0,.slice none 0 0,.slice none 0 0,.slice none 0 0]):=⟨Tryz.zeroValue150⟩
instance :TZL Tryz.prog 150 [.int .i64 0,.int .i64 0,.int .i64 0,.bool false,.int .i64 0,.slice none 0 0,.slice none 0 0,.slice none 0 0]:=⟨_,Tryz.zeroValue150,rfl⟩
instance :TIn Tryz.prog 150 8 112 (.agg #[.int .i64 0,.int .i64 0,.int .i64 0,.bool false,.int .i64 0,.slice none 0 0,.slice none 0 0,.slice none 0 0]):=⟨_,rfl,rfl,rfl,rfl,rfl,by decide⟩
instance :TPl Tryz.prog 156 [(0,1)]:=⟨_,Tryz.underlying156,fun w=>by simp [List.mapM_cons]⟩
instance :TFd Tryz.prog 156 0 0 62:=⟨_,_,Tryz.underlying156,rfl,rfl,rfl,fun w=>⟨0,Tryz.sizeOf62 w⟩⟩
instance :TZL Tryz.prog 156 [.slice none 0 0]:=⟨_,Tryz.zeroValue156,rfl⟩
instance :TAgg Tryz.prog 158 false:=⟨Tryz.isAgg158⟩
instance :TMap Tryz.prog 158 47 161:=⟨Tryz.underlying158⟩
instance :TPl Tryz.prog 160 [(0,1),(1,1),(2,1),(3,1)]:=⟨_,Tryz.underlying160,fun w=>by simp [List.mapM_cons]⟩
instance :TFd Tryz.prog 160 0 0 3:=⟨_,_,Tryz.underlying160,rfl,rfl,rfl,fun w=>⟨0,Tryz.sizeOf3 w⟩⟩
instance :TFd Tryz.prog 160 1 1 3:=⟨_,_,Tryz.underlying160,rfl,rfl,rfl,fun w=>⟨0,Tryz.sizeOf3 w⟩⟩
instance :TFd Tryz.prog 160 2 2 3:=⟨_,_,Tryz.underlying160,rfl,rfl,rfl,fun w=>⟨0,Tryz.sizeOf3 w⟩⟩
instance :TFd Tryz.prog 160 3 3 158:=⟨_,_,Tryz.underlying160,rfl,rfl,rfl,fun w=>⟨0,Tryz.sizeOf158 w⟩⟩
instance :TZL Tryz.prog 160 [.int .i64 0,.int .i64 0,.int .i64 0,.map none]:=⟨_,Tryz.zeroValue160,rfl⟩
instance :TPt Tryz.prog 161:=⟨_,Tryz.underlying161⟩
instance :TZ Tryz.prog 161 (.pointer none):=⟨Tryz.zeroValue161⟩
instance :TSz Tryz.prog 162 1:=⟨Tryz.sizeOf162⟩
instance :TAgg Tryz.prog 162 false:=⟨Tryz.isAgg162⟩
instance :TMap Tryz.prog 162 3 50:=⟨Tryz.underlying162⟩
instance :TSz Tryz.prog 163 1:=⟨Tryz.sizeOf163⟩
instance :TAgg Tryz.prog 163 false:=⟨Tryz.isAgg163⟩
instance :TMap Tryz.prog 163 3 3:=⟨Tryz.underlying163⟩
instance :TPl Tryz.prog 165 [(0,1),(1,1),(2,1),(3,1),(4,1)]:=⟨_,Tryz.underlying165,fun w=>by simp [List.mapM_cons]⟩
instance :TFd Tryz.prog 165 0 0 4:=⟨_,_,Tryz.underlying165,rfl,rfl,rfl,fun w=>⟨0,Tryz.sizeOf4 w⟩⟩
instance :TFd Tryz.prog 165 2 2 51:=⟨_,_,Tryz.underlying165,rfl,rfl,rfl,fun w=>⟨0,Tryz.sizeOf51 w⟩⟩
instance :TFd Tryz.prog 165 3 3 162:=⟨_,_,Tryz.underlying165,rfl,rfl,rfl,fun w=>⟨0,Tryz.sizeOf162 w⟩⟩
instance :TFd Tryz.prog 165 4 4 163:=⟨_,_,Tryz.underlying165,rfl,rfl,rfl,fun w=>⟨0,Tryz.sizeOf163 w⟩⟩
instance :TZL Tryz.prog 165 [.bool false,.int .i64 0,.slice none 0 0,.map none,.map none]:=⟨_,Tryz.zeroValue165,rfl⟩
instance :TSz Tryz.prog 186 5:=⟨Tryz.sizeOf186⟩
instance :TAgg Tryz.prog 186 true:=⟨Tryz.isAgg186⟩
instance :TPl Tryz.prog 186 [(0,3),(3,1),(4,1)]:=⟨_,Tryz.underlying186,fun w=>by simp [List.mapM_cons]⟩
instance :TZ Tryz.prog 186 (.agg #[.int .i64 0,.int .i64 0,.int .i64 0,.bool false,.bool false]):=⟨Tryz.zeroValue186⟩
instance :TZL Tryz.prog 186 [.int .i64 0,.int .i64 0,.int .i64 0,.bool false,.bool false]:=⟨_,Tryz.zeroValue186,rfl⟩
instance :TIn Tryz.prog 186 5 32 (.agg #[.int .i64 0,.int .i64 0,.int .i64 0,.bool false,.bool false]):=⟨_,rfl,rfl,rfl,rfl,rfl,by decide⟩
instance :TAgg Tryz.prog 193 false:=⟨Tryz.isAgg193⟩
instance :TMap Tryz.prog 193 9 3:=⟨Tryz.underlying193⟩
instance :TAgg Tryz.prog 194 false:=⟨Tryz.isAgg194⟩
instance :TMap Tryz.prog 194 9 47:=⟨Tryz.underlying194⟩
instance :TAgg Tryz.prog 195 false:=⟨Tryz.isAgg195⟩
instance :TMap Tryz.prog 195 47 50:=⟨Tryz.underlying195⟩
instance :TPl Tryz.prog 197 [(0,1),(1,1),(2,1)]:=⟨_,Tryz.underlying197,fun w=>by simp [List.mapM_cons]⟩
instance :TFd Tryz.prog 197 0 0 193:=⟨_,_,Tryz.underlying197,rfl,rfl,rfl,fun w=>⟨0,Tryz.sizeOf193 w⟩⟩
instance :TFd Tryz.prog 197 1 1 194:=⟨_,_,Tryz.underlying197,rfl,rfl,rfl,fun w=>⟨0,Tryz.sizeOf194 w⟩⟩
instance :TFd Tryz.prog 197 2 2 195:=⟨_,_,Tryz.underlying197,rfl,rfl,rfl,fun w=>⟨0,Tryz.sizeOf195 w⟩⟩
instance :TZL Tryz.prog 197 [.map none,.map none,.map none]:=⟨_,Tryz.zeroValue197,rfl⟩
instance :TSz Tryz.prog 216 5:=⟨Tryz.sizeOf216⟩
instance :TPl Tryz.prog 216 [(0,3),(3,1),(4,1)]:=⟨_,Tryz.underlying216,fun w=>by simp [List.mapM_cons]⟩
instance :TZ Tryz.prog 216 (.agg #[.int .i64 0,.int .i64 0,.int .i64 0,.bool false,.bool false]):=⟨Tryz.zeroValue216⟩
instance :TZL Tryz.prog 216 [.int .i64 0,.int .i64 0,.int .i64 0,.bool false,.bool false]:=⟨_,Tryz.zeroValue216,rfl⟩
instance :TIn Tryz.prog 216 5 32 (.agg #[.int .i64 0,.int .i64 0,.int .i64 0,.bool false,.bool false]):=⟨_,rfl,rfl,rfl,rfl,rfl,by decide⟩
instance :TSz Tryz.prog 249 4:=⟨Tryz.sizeOf249⟩
instance :TAgg Tryz.prog 249 true:=⟨Tryz.isAgg249⟩
instance :TPl Tryz.prog 249 [(0,3),(3,1)]:=⟨_,Tryz.underlying249,fun w=>by simp [List.mapM_cons]⟩
instance :TFd Tryz.prog 249 0 0 47:=⟨_,_,Tryz.underlying249,rfl,rfl,rfl,fun w=>⟨2,Tryz.sizeOf47 w⟩⟩
instance :TZ Tryz.prog 249 (.agg #[.int .i64 0,.int .i64 0,.int .i64 0,.int .i64 0]):=⟨Tryz.zeroValue249⟩
instance :TZL Tryz.prog 249 [.int .i64 0,.int .i64 0,.int .i64 0,.int .i64 0]:=⟨_,Tryz.zeroValue249,rfl⟩
instance :TIn Tryz.prog 249 4 32 (.agg #[.int .i64 0,.int .i64 0,.int .i64 0,.int .i64 0]):=⟨_,rfl,rfl,rfl,rfl,rfl,by decide⟩
instance :TSz Tryz.prog 258 3:=⟨Tryz.sizeOf258⟩
instance :TAgg Tryz.prog 258 true:=⟨Tryz.isAgg258⟩
instance :TPl Tryz.prog 258 [(0,1),(1,1),(2,1)]:=⟨_,Tryz.underlying258,fun w=>by simp [List.mapM_cons]⟩
instance :TFd Tryz.prog 258 2 2 3:=⟨_,_,Tryz.underlying258,rfl,rfl,rfl,fun w=>⟨0,Tryz.sizeOf3 w⟩⟩
instance :TZL Tryz.prog 258 [.int .i64 0,.int .i64 0,.int .i64 0]:=⟨_,Tryz.zeroValue258,rfl⟩
instance :TSz Tryz.prog 276 3:=⟨Tryz.sizeOf276⟩
instance :TAgg Tryz.prog 276 true:=⟨Tryz.isAgg276⟩
instance :TPl Tryz.prog 276 [(0,1),(1,1),(2,1)]:=⟨_,Tryz.underlying276,fun w=>by simp [List.mapM_cons]⟩
instance :TFd Tryz.prog 276 0 0 3:=⟨_,_,Tryz.underlying276,rfl,rfl,rfl,fun w=>⟨0,Tryz.sizeOf3 w⟩⟩
instance :TFd Tryz.prog 276 1 1 3:=⟨_,_,Tryz.underlying276,rfl,rfl,rfl,fun w=>⟨0,Tryz.sizeOf3 w⟩⟩
instance :TFd Tryz.prog 276 2 2 3:=⟨_,_,Tryz.underlying276,rfl,rfl,rfl,fun w=>⟨0,Tryz.sizeOf3 w⟩⟩
instance :TZL Tryz.prog 276 [.int .i64 0,.int .i64 0,.int .i64 0]:=⟨_,Tryz.zeroValue276,rfl⟩
instance :TSl Tryz.prog 281 48:=⟨Tryz.underlying281⟩
instance :TSl Tryz.prog 328 5:=⟨Tryz.underlying328⟩
instance :TBody Tryz.prog 8 Tryz.f8 (Tryz.f8.body.getD .skip) 149:=⟨Tryz.func8,rfl,Tryz.ntmps8⟩
instance :TFn Tryz.prog 10:=⟨Tryz.call10⟩
instance :TBody Tryz.prog 10 Tryz.f10 (Tryz.f10.body.getD .skip) 51:=⟨Tryz.func10,rfl,Tryz.ntmps10⟩
instance :TFn Tryz.prog 12:=⟨Tryz.call12⟩
instance :TBody Tryz.prog 12 Tryz.f12 (Tryz.f12.body.getD .skip) 50:=⟨Tryz.func12,rfl,Tryz.ntmps12⟩
instance :TFn Tryz.prog 13:=⟨Tryz.call13⟩
instance :TBody Tryz.prog 13 Tryz.f13 (Tryz.f13.body.getD .skip) 35:=⟨Tryz.func13,rfl,Tryz.ntmps13⟩
instance :TFn Tryz.prog 14:=⟨Tryz.call14⟩
instance :TBody Tryz.prog 14 Tryz.f14 (Tryz.f14.body.getD .skip) 143:=⟨Tryz.func14,rfl,Tryz.ntmps14⟩
instance :TFn Tryz.prog 15:=⟨Tryz.call15⟩
instance :TBody Tryz.prog 15 Tryz.f15 (Tryz.f15.body.getD .skip) 55:=⟨Tryz.func15,rfl,Tryz.ntmps15⟩
instance :TFn Tryz.prog 16:=⟨Tryz.call16⟩
instance :TBody Tryz.prog 16 Tryz.f16 (Tryz.f16.body.getD .skip) 20:=⟨Tryz.func16,rfl,Tryz.ntmps16⟩
instance :TFn Tryz.prog 17:=⟨Tryz.call17⟩
instance :TBody Tryz.prog 17 Tryz.f17 (Tryz.f17.body.getD .skip) 20:=⟨Tryz.func17,rfl,Tryz.ntmps17⟩
instance :TFn Tryz.prog 19:=⟨Tryz.call19⟩
instance :TBody Tryz.prog 19 Tryz.f19 (Tryz.f19.body.getD .skip) 17:=⟨Tryz.func19,rfl,Tryz.ntmps19⟩
instance :TFn Tryz.prog 20:=⟨Tryz.call20⟩
instance :TBody Tryz.prog 20 Tryz.f20 (Tryz.f20.body.getD .skip) 17:=⟨Tryz.func20,rfl,Tryz.ntmps20⟩
instance :TFn Tryz.prog 21:=⟨Tryz.call21⟩
instance :TBody Tryz.prog 21 Tryz.f21 (Tryz.f21.body.getD .skip) 7:=⟨Tryz.func21,rfl,Tryz.ntmps21⟩
instance :TFn Tryz.prog 22:=⟨Tryz.call22⟩
instance :TBody Tryz.prog 22 Tryz.f22 (Tryz.f22.body.getD .skip) 26:=⟨Tryz.func22,rfl,Tryz.ntmps22⟩
instance :TFn Tryz.prog 23:=⟨Tryz.call23⟩
instance :TBody Tryz.prog 23 Tryz.f23 (Tryz.f23.body.getD .skip) 182:=⟨Tryz.func23,rfl,Tryz.ntmps23⟩
instance :TFn Tryz.prog 24:=⟨Tryz.call24⟩
instance :TBody Tryz.prog 24 Tryz.f24 (Tryz.f24.body.getD .skip) 108:=⟨Tryz.func24,rfl,Tryz.ntmps24⟩
instance :TFn Tryz.prog 25:=⟨Tryz.call25⟩
instance :TBody Tryz.prog 25 Tryz.f25 (Tryz.f25.body.getD .skip) 82:=⟨Tryz.func25,rfl,Tryz.ntmps25⟩
instance :TFn Tryz.prog 26:=⟨Tryz.call26⟩
instance :TBody Tryz.prog 26 Tryz.f26 (Tryz.f26.body.getD .skip) 26:=⟨Tryz.func26,rfl,Tryz.ntmps26⟩
instance :TFn Tryz.prog 27:=⟨Tryz.call27⟩
instance :TBody Tryz.prog 27 Tryz.f27 (Tryz.f27.body.getD .skip) 8:=⟨Tryz.func27,rfl,Tryz.ntmps27⟩
instance :TFn Tryz.prog 29:=⟨Tryz.call29⟩
instance :TBody Tryz.prog 29 Tryz.f29 (Tryz.f29.body.getD .skip) 8:=⟨Tryz.func29,rfl,Tryz.ntmps29⟩
instance :TFn Tryz.prog 30:=⟨Tryz.call30⟩
instance :TBody Tryz.prog 30 Tryz.f30 (Tryz.f30.body.getD .skip) 8:=⟨Tryz.func30,rfl,Tryz.ntmps30⟩
instance :TFn Tryz.prog 31:=⟨Tryz.call31⟩
instance :TBody Tryz.prog 31 Tryz.f31 (Tryz.f31.body.getD .skip) 8:=⟨Tryz.func31,rfl,Tryz.ntmps31⟩
instance :TFn Tryz.prog 32:=⟨Tryz.call32⟩
instance :TBody Tryz.prog 32 Tryz.f32 (Tryz.f32.body.getD .skip) 3:=⟨Tryz.func32,rfl,Tryz.ntmps32⟩
instance :TFn Tryz.prog 33:=⟨Tryz.call33⟩
instance :TBody Tryz.prog 33 Tryz.f33 (Tryz.f33.body.getD .skip) 8:=⟨Tryz.func33,rfl,Tryz.ntmps33⟩
instance :TFn Tryz.prog 34:=⟨Tryz.call34⟩
instance :TBody Tryz.prog 34 Tryz.f34 (Tryz.f34.body.getD .skip) 10:=⟨Tryz.func34,rfl,Tryz.ntmps34⟩
instance :TFn Tryz.prog 35:=⟨Tryz.call35⟩
instance :TBody Tryz.prog 35 Tryz.f35 (Tryz.f35.body.getD .skip) 69:=⟨Tryz.func35,rfl,Tryz.ntmps35⟩
instance :TFn Tryz.prog 36:=⟨Tryz.call36⟩
instance :TBody Tryz.prog 36 Tryz.f36 (Tryz.f36.body.getD .skip) 89:=⟨Tryz.func36,rfl,Tryz.ntmps36⟩
instance :TFn Tryz.prog 37:=⟨Tryz.call37⟩
instance :TBody Tryz.prog 37 Tryz.f37 (Tryz.f37.body.getD .skip) 19:=⟨Tryz.func37,rfl,Tryz.ntmps37⟩
instance :TFn Tryz.prog 38:=⟨Tryz.call38⟩
instance :TBody Tryz.prog 38 Tryz.f38 (Tryz.f38.body.getD .skip) 29:=⟨Tryz.func38,rfl,Tryz.ntmps38⟩
instance :TFn Tryz.prog 39:=⟨Tryz.call39⟩
instance :TBody Tryz.prog 39 Tryz.f39 (Tryz.f39.body.getD .skip) 59:=⟨Tryz.func39,rfl,Tryz.ntmps39⟩
instance :TFn Tryz.prog 45:=⟨Tryz.call45⟩
instance :TBody Tryz.prog 45 Tryz.f45 (Tryz.f45.body.getD .skip) 25:=⟨Tryz.func45,rfl,Tryz.ntmps45⟩
instance :TFn Tryz.prog 46:=⟨Tryz.call46⟩
instance :TBody Tryz.prog 46 Tryz.f46 (Tryz.f46.body.getD .skip) 30:=⟨Tryz.func46,rfl,Tryz.ntmps46⟩
instance :TFn Tryz.prog 47:=⟨Tryz.call47⟩
instance :TBody Tryz.prog 47 Tryz.f47 (Tryz.f47.body.getD .skip) 31:=⟨Tryz.func47,rfl,Tryz.ntmps47⟩
instance :TFn Tryz.prog 48:=⟨Tryz.call48⟩
instance :TBody Tryz.prog 48 Tryz.f48 (Tryz.f48.body.getD .skip) 7:=⟨Tryz.func48,rfl,Tryz.ntmps48⟩
instance :TFn Tryz.prog 49:=⟨Tryz.call49⟩
instance :TBody Tryz.prog 49 Tryz.f49 (Tryz.f49.body.getD .skip) 36:=⟨Tryz.func49,rfl,Tryz.ntmps49⟩
instance :TFn Tryz.prog 50:=⟨Tryz.call50⟩
instance :TBody Tryz.prog 50 Tryz.f50 (Tryz.f50.body.getD .skip) 85:=⟨Tryz.func50,rfl,Tryz.ntmps50⟩
instance :TFn Tryz.prog 51:=⟨Tryz.call51⟩
instance :TBody Tryz.prog 51 Tryz.f51 (Tryz.f51.body.getD .skip) 24:=⟨Tryz.func51,rfl,Tryz.ntmps51⟩
instance :TFn Tryz.prog 52:=⟨Tryz.call52⟩
instance :TBody Tryz.prog 52 Tryz.f52 (Tryz.f52.body.getD .skip) 19:=⟨Tryz.func52,rfl,Tryz.ntmps52⟩
instance :TFn Tryz.prog 53:=⟨Tryz.call53⟩
instance :TBody Tryz.prog 53 Tryz.f53 (Tryz.f53.body.getD .skip) 33:=⟨Tryz.func53,rfl,Tryz.ntmps53⟩
instance :TFn Tryz.prog 54:=⟨Tryz.call54⟩
instance :TBody Tryz.prog 54 Tryz.f54 (Tryz.f54.body.getD .skip) 81:=⟨Tryz.func54,rfl,Tryz.ntmps54⟩
instance :TFn Tryz.prog 59:=⟨Tryz.call59⟩
instance :TBody Tryz.prog 59 Tryz.f59 (Tryz.f59.body.getD .skip) 26:=⟨Tryz.func59,rfl,Tryz.ntmps59⟩
instance :TFn Tryz.prog 60:=⟨Tryz.call60⟩
instance :TBody Tryz.prog 60 Tryz.f60 (Tryz.f60.body.getD .skip) 35:=⟨Tryz.func60,rfl,Tryz.ntmps60⟩
instance :TFn Tryz.prog 61:=⟨Tryz.call61⟩
instance :TBody Tryz.prog 61 Tryz.f61 (Tryz.f61.body.getD .skip) 24:=⟨Tryz.func61,rfl,Tryz.ntmps61⟩
instance :TFn Tryz.prog 62:=⟨Tryz.call62⟩
instance :TBody Tryz.prog 62 Tryz.f62 (Tryz.f62.body.getD .skip) 26:=⟨Tryz.func62,rfl,Tryz.ntmps62⟩
instance :TFn Tryz.prog 63:=⟨Tryz.call63⟩
instance :TBody Tryz.prog 63 Tryz.f63 (Tryz.f63.body.getD .skip) 8:=⟨Tryz.func63,rfl,Tryz.ntmps63⟩
instance :TFn Tryz.prog 64:=⟨Tryz.call64⟩
instance :TBody Tryz.prog 64 Tryz.f64 (Tryz.f64.body.getD .skip) 6:=⟨Tryz.func64,rfl,Tryz.ntmps64⟩
instance :TFn Tryz.prog 65:=⟨Tryz.call65⟩
instance :TBody Tryz.prog 65 Tryz.f65 (Tryz.f65.body.getD .skip) 12:=⟨Tryz.func65,rfl,Tryz.ntmps65⟩
instance :TFn Tryz.prog 66:=⟨Tryz.call66⟩
instance :TBody Tryz.prog 66 Tryz.f66 (Tryz.f66.body.getD .skip) 58:=⟨Tryz.func66,rfl,Tryz.ntmps66⟩
instance :TFn Tryz.prog 67:=⟨Tryz.call67⟩
instance :TBody Tryz.prog 67 Tryz.f67 (Tryz.f67.body.getD .skip) 22:=⟨Tryz.func67,rfl,Tryz.ntmps67⟩
instance :TFn Tryz.prog 68:=⟨Tryz.call68⟩
instance :TBody Tryz.prog 68 Tryz.f68 (Tryz.f68.body.getD .skip) 26:=⟨Tryz.func68,rfl,Tryz.ntmps68⟩
instance :TFn Tryz.prog 69:=⟨Tryz.call69⟩
instance :TBody Tryz.prog 69 Tryz.f69 (Tryz.f69.body.getD .skip) 33:=⟨Tryz.func69,rfl,Tryz.ntmps69⟩
instance :TFn Tryz.prog 70:=⟨Tryz.call70⟩
instance :TBody Tryz.prog 70 Tryz.f70 (Tryz.f70.body.getD .skip) 115:=⟨Tryz.func70,rfl,Tryz.ntmps70⟩
instance :TFn Tryz.prog 71:=⟨Tryz.call71⟩
instance :TBody Tryz.prog 71 Tryz.f71 (Tryz.f71.body.getD .skip) 205:=⟨Tryz.func71,rfl,Tryz.ntmps71⟩
instance :TFn Tryz.prog 76:=⟨Tryz.call76⟩
instance :TBody Tryz.prog 76 Tryz.f76 (Tryz.f76.body.getD .skip) 9:=⟨Tryz.func76,rfl,Tryz.ntmps76⟩
instance :TFn Tryz.prog 78:=⟨Tryz.call78⟩
instance :TBody Tryz.prog 78 Tryz.f78 (Tryz.f78.body.getD .skip) 39:=⟨Tryz.func78,rfl,Tryz.ntmps78⟩
instance :TFn Tryz.prog 79:=⟨Tryz.call79⟩
instance :TFn Tryz.prog 80:=⟨Tryz.call80⟩
instance :TFn Tryz.prog 81:=⟨Tryz.call81⟩
instance :TFn Tryz.prog 82:=⟨Tryz.call82⟩
instance :TFn Tryz.prog 84:=⟨Tryz.call84⟩
instance :TBody Tryz.prog 84 Tryz.f84 (Tryz.f84.body.getD .skip) 12:=⟨Tryz.func84,rfl,Tryz.ntmps84⟩
instance :TFn Tryz.prog 85:=⟨Tryz.call85⟩
instance :TBody Tryz.prog 85 Tryz.f85 (Tryz.f85.body.getD .skip) 42:=⟨Tryz.func85,rfl,Tryz.ntmps85⟩
instance :TFn Tryz.prog 86:=⟨Tryz.call86⟩
instance :TBody Tryz.prog 86 Tryz.f86 (Tryz.f86.body.getD .skip) 13:=⟨Tryz.func86,rfl,Tryz.ntmps86⟩
instance :TFn Tryz.prog 87:=⟨Tryz.call87⟩
instance :TBody Tryz.prog 87 Tryz.f87 (Tryz.f87.body.getD .skip) 55:=⟨Tryz.func87,rfl,Tryz.ntmps87⟩
instance :TFn Tryz.prog 88:=⟨Tryz.call88⟩
instance :TBody Tryz.prog 88 Tryz.f88 (Tryz.f88.body.getD .skip) 53:=⟨Tryz.func88,rfl,Tryz.ntmps88⟩
instance :TFn Tryz.prog 89:=⟨Tryz.call89⟩
instance :TBody Tryz.prog 89 Tryz.f89 (Tryz.f89.body.getD .skip) 16:=⟨Tryz.func89,rfl,Tryz.ntmps89⟩
instance :TFn Tryz.prog 90:=⟨Tryz.call90⟩
instance :TBody Tryz.prog 90 Tryz.f90 (Tryz.f90.body.getD .skip) 136:=⟨Tryz.func90,rfl,Tryz.ntmps90⟩
instance :TFn Tryz.prog 91:=⟨Tryz.call91⟩
instance :TBody Tryz.prog 91 Tryz.f91 (Tryz.f91.body.getD .skip) 19:=⟨Tryz.func91,rfl,Tryz.ntmps91⟩
instance :TFn Tryz.prog 92:=⟨Tryz.call92⟩
instance :TBody Tryz.prog 92 Tryz.f92 (Tryz.f92.body.getD .skip) 186:=⟨Tryz.func92,rfl,Tryz.ntmps92⟩
instance :TFn Tryz.prog 96:=⟨Tryz.call96⟩
instance :TBody Tryz.prog 96 Tryz.f96 (Tryz.f96.body.getD .skip) 28:=⟨Tryz.func96,rfl,Tryz.ntmps96⟩
instance :TFn Tryz.prog 97:=⟨Tryz.call97⟩
instance :TBody Tryz.prog 97 Tryz.f97 (Tryz.f97.body.getD .skip) 33:=⟨Tryz.func97,rfl,Tryz.ntmps97⟩
instance :TFn Tryz.prog 98:=⟨Tryz.call98⟩
instance :TBody Tryz.prog 98 Tryz.f98 (Tryz.f98.body.getD .skip) 26:=⟨Tryz.func98,rfl,Tryz.ntmps98⟩
instance :TFn Tryz.prog 99:=⟨Tryz.call99⟩
instance :TBody Tryz.prog 99 Tryz.f99 (Tryz.f99.body.getD .skip) 32:=⟨Tryz.func99,rfl,Tryz.ntmps99⟩
instance :TFn Tryz.prog 100:=⟨Tryz.call100⟩
instance :TBody Tryz.prog 100 Tryz.f100 (Tryz.f100.body.getD .skip) 12:=⟨Tryz.func100,rfl,Tryz.ntmps100⟩
instance :TFn Tryz.prog 101:=⟨Tryz.call101⟩
instance :TBody Tryz.prog 101 Tryz.f101 (Tryz.f101.body.getD .skip) 122:=⟨Tryz.func101,rfl,Tryz.ntmps101⟩
instance :TFn Tryz.prog 102:=⟨Tryz.call102⟩
instance :TBody Tryz.prog 102 Tryz.f102 (Tryz.f102.body.getD .skip) 12:=⟨Tryz.func102,rfl,Tryz.ntmps102⟩
instance :TFn Tryz.prog 103:=⟨Tryz.call103⟩
instance :TBody Tryz.prog 103 Tryz.f103 (Tryz.f103.body.getD .skip) 53:=⟨Tryz.func103,rfl,Tryz.ntmps103⟩
instance :TFn Tryz.prog 104:=⟨Tryz.call104⟩
instance :TBody Tryz.prog 104 Tryz.f104 (Tryz.f104.body.getD .skip) 96:=⟨Tryz.func104,rfl,Tryz.ntmps104⟩
instance :TFn Tryz.prog 105:=⟨Tryz.call105⟩
instance :TBody Tryz.prog 105 Tryz.f105 (Tryz.f105.body.getD .skip) 9:=⟨Tryz.func105,rfl,Tryz.ntmps105⟩
instance :TFn Tryz.prog 112:=⟨Tryz.call112⟩
instance :TFn Tryz.prog 115:=⟨Tryz.call115⟩
instance :TFn Tryz.prog 122:=⟨Tryz.call122⟩
instance :TBody Tryz.prog 122 Tryz.f122 (Tryz.f122.body.getD .skip) 19:=⟨Tryz.func122,rfl,Tryz.ntmps122⟩
instance :TFn Tryz.prog 123:=⟨Tryz.call123⟩
instance :TBody Tryz.prog 123 Tryz.f123 (Tryz.f123.body.getD .skip) 30:=⟨Tryz.func123,rfl,Tryz.ntmps123⟩
instance :TFn Tryz.prog 124:=⟨Tryz.call124⟩
instance :TBody Tryz.prog 124 Tryz.f124 (Tryz.f124.body.getD .skip) 21:=⟨Tryz.func124,rfl,Tryz.ntmps124⟩
instance :TFn Tryz.prog 125:=⟨Tryz.call125⟩
instance :TBody Tryz.prog 125 Tryz.f125 (Tryz.f125.body.getD .skip) 22:=⟨Tryz.func125,rfl,Tryz.ntmps125⟩
instance :TFn Tryz.prog 126:=⟨Tryz.call126⟩
instance :TBody Tryz.prog 126 Tryz.f126 (Tryz.f126.body.getD .skip) 101:=⟨Tryz.func126,rfl,Tryz.ntmps126⟩
instance :TFn Tryz.prog 127:=⟨Tryz.call127⟩
instance :TBody Tryz.prog 127 Tryz.f127 (Tryz.f127.body.getD .skip) 39:=⟨Tryz.func127,rfl,Tryz.ntmps127⟩
instance :TFn Tryz.prog 128:=⟨Tryz.call128⟩
instance :TBody Tryz.prog 128 Tryz.f128 (Tryz.f128.body.getD .skip) 31:=⟨Tryz.func128,rfl,Tryz.ntmps128⟩
instance :TFn Tryz.prog 129:=⟨Tryz.call129⟩
instance :TBody Tryz.prog 129 Tryz.f129 (Tryz.f129.body.getD .skip) 95:=⟨Tryz.func129,rfl,Tryz.ntmps129⟩
instance :TFn Tryz.prog 130:=⟨Tryz.call130⟩
instance :TBody Tryz.prog 130 Tryz.f130 (Tryz.f130.body.getD .skip) 22:=⟨Tryz.func130,rfl,Tryz.ntmps130⟩
instance :TFn Tryz.prog 131:=⟨Tryz.call131⟩
instance :TBody Tryz.prog 131 Tryz.f131 (Tryz.f131.body.getD .skip) 9:=⟨Tryz.func131,rfl,Tryz.ntmps131⟩
instance :TFn Tryz.prog 132:=⟨Tryz.call132⟩
instance :TBody Tryz.prog 132 Tryz.f132 (Tryz.f132.body.getD .skip) 8:=⟨Tryz.func132,rfl,Tryz.ntmps132⟩
instance :TFn Tryz.prog 133:=⟨Tryz.call133⟩
instance :TBody Tryz.prog 133 Tryz.f133 (Tryz.f133.body.getD .skip) 36:=⟨Tryz.func133,rfl,Tryz.ntmps133⟩
instance :TFn Tryz.prog 134:=⟨Tryz.call134⟩
instance :TFn Tryz.prog 135:=⟨Tryz.call135⟩
instance :TBody Tryz.prog 135 Tryz.f135 (Tryz.f135.body.getD .skip) 101:=⟨Tryz.func135,rfl,Tryz.ntmps135⟩
instance :TFn Tryz.prog 136:=⟨Tryz.call136⟩
instance :TBody Tryz.prog 136 Tryz.f136 (Tryz.f136.body.getD .skip) 19:=⟨Tryz.func136,rfl,Tryz.ntmps136⟩
instance :TFn Tryz.prog 149:=⟨Tryz.call149⟩
instance :TBody Tryz.prog 149 Tryz.f149 (Tryz.f149.body.getD .skip) 21:=⟨Tryz.func149,rfl,Tryz.ntmps149⟩
instance :TFn Tryz.prog 150:=⟨Tryz.call150⟩
instance :TBody Tryz.prog 150 Tryz.f150 (Tryz.f150.body.getD .skip) 10:=⟨Tryz.func150,rfl,Tryz.ntmps150⟩
instance :TFn Tryz.prog 151:=⟨Tryz.call151⟩
instance :TBody Tryz.prog 151 Tryz.f151 (Tryz.f151.body.getD .skip) 28:=⟨Tryz.func151,rfl,Tryz.ntmps151⟩
instance :TFn Tryz.prog 152:=⟨Tryz.call152⟩
instance :TBody Tryz.prog 152 Tryz.f152 (Tryz.f152.body.getD .skip) 30:=⟨Tryz.func152,rfl,Tryz.ntmps152⟩
instance :TFn Tryz.prog 153:=⟨Tryz.call153⟩
instance :TBody Tryz.prog 153 Tryz.f153 (Tryz.f153.body.getD .skip) 84:=⟨Tryz.func153,rfl,Tryz.ntmps153⟩
instance :TFn Tryz.prog 154:=⟨Tryz.call154⟩
instance :TBody Tryz.prog 154 Tryz.f154 (Tryz.f154.body.getD .skip) 66:=⟨Tryz.func154,rfl,Tryz.ntmps154⟩
instance :TFn Tryz.prog 155:=⟨Tryz.call155⟩
instance :TBody Tryz.prog 155 Tryz.f155 (Tryz.f155.body.getD .skip) 19:=⟨Tryz.func155,rfl,Tryz.ntmps155⟩
instance :TFn Tryz.prog 156:=⟨Tryz.call156⟩
instance :TBody Tryz.prog 156 Tryz.f156 (Tryz.f156.body.getD .skip) 27:=⟨Tryz.func156,rfl,Tryz.ntmps156⟩
instance :TFn Tryz.prog 157:=⟨Tryz.call157⟩
instance :TBody Tryz.prog 157 Tryz.f157 (Tryz.f157.body.getD .skip) 13:=⟨Tryz.func157,rfl,Tryz.ntmps157⟩
instance :TFn Tryz.prog 158:=⟨Tryz.call158⟩
instance :TBody Tryz.prog 158 Tryz.f158 (Tryz.f158.body.getD .skip) 28:=⟨Tryz.func158,rfl,Tryz.ntmps158⟩
instance :TFn Tryz.prog 159:=⟨Tryz.call159⟩
instance :TFn Tryz.prog 179:=⟨Tryz.call179⟩
instance :TBody Tryz.prog 179 Tryz.f179 (Tryz.f179.body.getD .skip) 18:=⟨Tryz.func179,rfl,Tryz.ntmps179⟩
instance :TFn Tryz.prog 180:=⟨Tryz.call180⟩
instance :TBody Tryz.prog 180 Tryz.f180 (Tryz.f180.body.getD .skip) 39:=⟨Tryz.func180,rfl,Tryz.ntmps180⟩
instance :TFn Tryz.prog 181:=⟨Tryz.call181⟩
instance :TBody Tryz.prog 181 Tryz.f181 (Tryz.f181.body.getD .skip) 12:=⟨Tryz.func181,rfl,Tryz.ntmps181⟩
instance :TFn Tryz.prog 182:=⟨Tryz.call182⟩
instance :TBody Tryz.prog 182 Tryz.f182 (Tryz.f182.body.getD .skip) 25:=⟨Tryz.func182,rfl,Tryz.ntmps182⟩
instance :TFn Tryz.prog 183:=⟨Tryz.call183⟩
instance :TBody Tryz.prog 183 Tryz.f183 (Tryz.f183.body.getD .skip) 9:=⟨Tryz.func183,rfl,Tryz.ntmps183⟩
instance :TFn Tryz.prog 185:=⟨Tryz.call185⟩
instance :TFn Tryz.prog 186:=⟨Tryz.call186⟩
instance :TFn Tryz.prog 197:=⟨Tryz.call197⟩
instance :TBody Tryz.prog 197 Tryz.f197 (Tryz.f197.body.getD .skip) 31:=⟨Tryz.func197,rfl,Tryz.ntmps197⟩
instance :TMix Tryz.prog:=⟨rfl⟩
end Go.Proofs.YtlflbkpmfhhikaaGreatDoor
