/- SRB to SRF, for another map and another order (printed by gen_srt.py). -/
import Derived.Test.YtlflbkpmfhhikaaGreatDoorKInst
import Derived.Test.YtlflbkpmfhhikaaGreatDoorKKD
import Derived.Test.YtlflbkpmfhhikaaGreatDoorKSRE
set_option linter.unusedVariables false
set_option linter.unusedSimpArgs false
namespace Go.Proofs.YtlflbkpmfhhikaaGreatDoor
open Go Go.Sx Go.Proofs
structure Work where
  Robot:Int
  Take:(List ByteArray)
  Drop:(List ByteArray)
  deriving DecidableEq
abbrev Work.cv (x:Work) (s1:Value) (s2:Value):List Value:=[.int .i64 x.Robot,s1,s2]
def Qi_:Rd Work:=fun H c x=>∃s1 s2,c=x.cv s1 s2∧fits x.Robot∧SlB rStr 1 16 H s1 x.Take∧SlB rStr 1 16 H s2 x.Drop
instance :RdOk Qi_ 3:=⟨fun ⟨s1,s2,e,h0,h1,h2⟩=>by subst e;rfl,fun ⟨s1,s2,e,h0,h1,h2⟩=>by subst e;simp only [List.all_cons,List.all_nil,qm_ h1,qm_ h2];rfl,fun hl ⟨s1,s2,e,h0,h1,h2⟩=>⟨s1,s2,e,h0,h1.mono hl,h2.mono hl⟩⟩
def zac_:Work:=⟨0,[],[]⟩
theorem Zat_ {H:Heap}:Qi_ H [.int .i64 0,.slice none 0 0,.slice none 0 0] zac_:=⟨nilS,nilS,rfl,Zg_,SlB.nil,SlB.nil⟩
theorem zdu_:Rds Tryz.prog 50 Qi_:=by
 intro H enc W fuel cs d ps h hw;have hst:=Tryz.underlying50;obtain ⟨hlen,he⟩:=QbV_ hst h hw;have hl:cs.length=3:=hlen.trans (by kernel_rfl);obtain ⟨y0,hy0⟩:=he 0 _ rfl 0 1 ⟨rfl,by kernel_rfl⟩ (zdG_ Tryz.underlying3);obtain ⟨y1,hy1⟩:=he 1 _ rfl 1 1 ⟨rfl,by kernel_rfl⟩ (ZaU_ Tryz.underlying48 (by kernel_rfl) (by kernel_rfl) (by decide) (QcP_ Tryz.underlying9));obtain ⟨y2,hy2⟩:=he 2 _ rfl 2 1 ⟨rfl,by kernel_rfl⟩ (ZaU_ Tryz.underlying48 (by kernel_rfl) (by kernel_rfl) (by decide) (QcP_ Tryz.underlying9));obtain ⟨e0,k0_0⟩:=hy0;have t0:=cutd (o':=1) e0 rfl;obtain ⟨v1_0,e1,k1_0⟩:=hy1;have t1:=cutd (o':=2) e1 rfl;obtain ⟨v2_0,e2,k2_0⟩:=hy2;have t2:=cutd (o':=3) e2 rfl;refine ⟨⟨y0,y1,y2⟩,⟨v1_0,v2_0,?_,k0_0,k1_0,k2_0⟩⟩;refine t0.trans ?_;rw [t1,t2,List.drop_eq_nil_of_le (Nat.le_of_eq hl)]
 try rfl
structure Move where
  Kind:Int
  A:Int
  Works:(List Work)
  deriving DecidableEq
abbrev Move.cv (x:Move) (s1:Value):List Value:=[.int .i64 x.Kind,.int .i64 x.A,s1]
def QcW_:Rd Move:=fun H c x=>∃s1,c=x.cv s1∧fits x.Kind∧fits x.A∧SlB Qi_ 3 56 H s1 x.Works
instance :RdOk QcW_ 3:=⟨fun ⟨s1,e,h0,h1,h2⟩=>by subst e;rfl,fun ⟨s1,e,h0,h1,h2⟩=>by subst e;simp only [List.all_cons,List.all_nil,qm_ h2];rfl,fun hl ⟨s1,e,h0,h1,h2⟩=>⟨s1,e,h0,h1,h2.mono hl⟩⟩
structure Hold where
  Key:ByteArray
  Robot:Int
  deriving DecidableEq
abbrev Hold.cv (x:Hold):List Value:=[.string x.Key,.int .i64 x.Robot]
def qao_:Rd Hold:=fun H c x=>c=x.cv∧x.Key.size≤zb_∧fits x.Robot
instance :RdOk qao_ 2:=⟨fun ⟨e,h0,h1⟩=>by subst e;rfl,fun ⟨e,h0,h1⟩=>by subst e;simp only [List.all_cons,List.all_nil];rfl,fun hl ⟨e,h0,h1⟩=>⟨e,h0,h1⟩⟩
structure Txn where
  Node:Int
  Life:Int
  Count:Int
  deriving DecidableEq
abbrev Txn.cv (x:Txn):List Value:=[.int .i64 x.Node,.int .i64 x.Life,.int .i64 x.Count]
def rTxn:Rd Txn:=fun H c x=>c=x.cv∧fits x.Node∧fits x.Life∧fits x.Count
instance :RdOk rTxn 3:=⟨fun ⟨e,h0,h1,h2⟩=>by subst e;rfl,fun ⟨e,h0,h1,h2⟩=>by subst e;simp only [List.all_cons,List.all_nil];rfl,fun hl ⟨e,h0,h1,h2⟩=>⟨e,h0,h1,h2⟩⟩
def zTxn:Txn:=⟨0,0,0⟩
structure Rec where
  Kind:Int
  Txn:Txn
  Work:Work
  Yes:Bool
  Parts:(List Int)
  deriving DecidableEq
abbrev Rec.cv (x:Rec) (s1:Value) (s2:Value) (s3:Value):List Value:=[.int .i64 x.Kind,.int .i64 x.Txn.Node,.int .i64 x.Txn.Life,.int .i64 x.Txn.Count,.int .i64 x.Work.Robot,s1,s2,.bool x.Yes,s3]
def rRec:Rd Rec:=fun H c x=>∃s1 s2 s3,c=x.cv s1 s2 s3∧fits x.Kind∧fits x.Txn.Node∧fits x.Txn.Life∧fits x.Txn.Count∧fits x.Work.Robot∧SlB rStr 1 16 H s1 x.Work.Take∧SlB rStr 1 16 H s2 x.Work.Drop∧SlB rInt 1 8 H s3 x.Parts
instance :RdOk rRec 9:=⟨fun ⟨s1,s2,s3,e,h0,h1,h2,h3,h4,h5,h6,h7⟩=>by subst e;rfl,fun ⟨s1,s2,s3,e,h0,h1,h2,h3,h4,h5,h6,h7⟩=>by subst e;simp only [List.all_cons,List.all_nil,qm_ h5,qm_ h6,qm_ h7];rfl,fun hl ⟨s1,s2,s3,e,h0,h1,h2,h3,h4,h5,h6,h7⟩=>⟨s1,s2,s3,e,h0,h1,h2,h3,h4,h5.mono hl,h6.mono hl,h7.mono hl⟩⟩
structure Table where
  Held:(List Hold)
  Prep:(List Rec)
  deriving DecidableEq
abbrev Table.cv (x:Table) (s1:Value) (s2:Value):List Value:=[s1,s2]
def QJ_:Rd Table:=fun H c x=>∃s1 s2,c=x.cv s1 s2∧SlB qao_ 2 24 H s1 x.Held∧SlB rRec 9 120 H s2 x.Prep
instance :RdOk QJ_ 2:=⟨fun ⟨s1,s2,e,h0,h1⟩=>by subst e;rfl,fun ⟨s1,s2,e,h0,h1⟩=>by subst e;simp only [List.all_cons,List.all_nil,qm_ h0,qm_ h1];rfl,fun hl ⟨s1,s2,e,h0,h1⟩=>⟨s1,s2,e,h0.mono hl,h1.mono hl⟩⟩
structure Convoyref15Done where
  Txn:Txn
  Until:Int
  deriving DecidableEq
abbrev Convoyref15Done.cv (x:Convoyref15Done):List Value:=[.int .i64 x.Txn.Node,.int .i64 x.Txn.Life,.int .i64 x.Txn.Count,.int .i64 x.Until]
def zp_:Rd Convoyref15Done:=fun H c x=>c=x.cv∧fits x.Txn.Node∧fits x.Txn.Life∧fits x.Txn.Count∧fits x.Until
instance :RdOk zp_ 4:=⟨fun ⟨e,h0,h1,h2,h3⟩=>by subst e;rfl,fun ⟨e,h0,h1,h2,h3⟩=>by subst e;simp only [List.all_cons,List.all_nil];rfl,fun hl ⟨e,h0,h1,h2,h3⟩=>⟨e,h0,h1,h2,h3⟩⟩
structure Part where
  Shard:Int
  T:Table
  Done:(List Convoyref15Done)
  deriving DecidableEq
abbrev Part.cv (x:Part) (s1:Value) (s2:Value) (s3:Value):List Value:=[.int .i64 x.Shard,s1,s2,s3]
def zaz_:Rd Part:=fun H c x=>∃s1 s2 s3,c=x.cv s1 s2 s3∧fits x.Shard∧SlB qao_ 2 24 H s1 x.T.Held∧SlB rRec 9 120 H s2 x.T.Prep∧SlB zp_ 4 32 H s3 x.Done
instance :RdOk zaz_ 4:=⟨fun ⟨s1,s2,s3,e,h0,h1,h2,h3⟩=>by subst e;rfl,fun ⟨s1,s2,s3,e,h0,h1,h2,h3⟩=>by subst e;simp only [List.all_cons,List.all_nil,qm_ h1,qm_ h2,qm_ h3];rfl,fun hl ⟨s1,s2,s3,e,h0,h1,h2,h3⟩=>⟨s1,s2,s3,e,h0,h1.mono hl,h2.mono hl,h3.mono hl⟩⟩
structure Convoyref16Txn where
  X:Txn
  Open:Bool
  Began:Int
  Parts:(List Int)
  Works:(List Work)
  Heard:(List Bool)
  deriving DecidableEq
abbrev Convoyref16Txn.cv (x:Convoyref16Txn) (s1:Value) (s2:Value) (s3:Value):List Value:=[.int .i64 x.X.Node,.int .i64 x.X.Life,.int .i64 x.X.Count,.bool x.Open,.int .i64 x.Began,s1,s2,s3]
def ZQ_:Rd Convoyref16Txn:=fun H c x=>∃s1 s2 s3,c=x.cv s1 s2 s3∧fits x.X.Node∧fits x.X.Life∧fits x.X.Count∧fits x.Began∧SlB rInt 1 8 H s1 x.Parts∧SlB Qi_ 3 56 H s2 x.Works∧SlB Zbd_ 1 1 H s3 x.Heard
instance :RdOk ZQ_ 8:=⟨fun ⟨s1,s2,s3,e,h0,h1,h2,h3,h4,h5,h6⟩=>by subst e;rfl,fun ⟨s1,s2,s3,e,h0,h1,h2,h3,h4,h5,h6⟩=>by subst e;simp only [List.all_cons,List.all_nil,qm_ h4,qm_ h5,qm_ h6];rfl,fun hl ⟨s1,s2,s3,e,h0,h1,h2,h3,h4,h5,h6⟩=>⟨s1,s2,s3,e,h0,h1,h2,h3,h4.mono hl,h5.mono hl,h6.mono hl⟩⟩
structure Coord where
  Node:Int
  Life:Int
  Count:Int
  Txns:(List Convoyref16Txn)
  deriving DecidableEq
abbrev Coord.cv (x:Coord) (s1:Value):List Value:=[.int .i64 x.Node,.int .i64 x.Life,.int .i64 x.Count,s1]
def qu_:Rd Coord:=fun H c x=>∃s1,c=x.cv s1∧fits x.Node∧fits x.Life∧fits x.Count∧SlB ZQ_ 8 112 H s1 x.Txns
instance :RdOk qu_ 4:=⟨fun ⟨s1,e,h0,h1,h2,h3⟩=>by subst e;rfl,fun ⟨s1,e,h0,h1,h2,h3⟩=>by subst e;simp only [List.all_cons,List.all_nil,qm_ h3];rfl,fun hl ⟨s1,e,h0,h1,h2,h3⟩=>⟨s1,e,h0,h1,h2,h3.mono hl⟩⟩
structure Route where
  Start:Int
  Cells:(List Int)
  deriving DecidableEq
abbrev Route.cv (x:Route) (s1:Value):List Value:=[.int .i64 x.Start,s1]
structure Call where
  Verb:Int
  Epoch:Int
  Route:Route
  deriving DecidableEq
abbrev Call.cv (x:Call) (s1:Value):List Value:=[.int .i64 x.Verb,.int .i64 x.Epoch,.int .i64 x.Route.Start,s1]
structure Reply where
  Code:Int
  Epoch:Int
  Route:Route
  deriving DecidableEq
abbrev Reply.cv (x:Reply) (s1:Value):List Value:=[.int .i64 x.Code,.int .i64 x.Epoch,.int .i64 x.Route.Start,s1]
structure Message where
  From:Int
  To:Int
  Kind:Int
  Txn:Txn
  Work:Work
  Yes:Bool
  ID:Int
  Call:Call
  Reply:Reply
  deriving DecidableEq
abbrev Message.cv (x:Message) (s1:Value) (s2:Value) (s3:Value) (s4:Value):List Value:=[.int .i64 x.From,.int .i64 x.To,.int .i64 x.Kind,.int .i64 x.Txn.Node,.int .i64 x.Txn.Life,.int .i64 x.Txn.Count,.int .i64 x.Work.Robot,s1,s2,.bool x.Yes,.int .i64 x.ID,.int .i64 x.Call.Verb,.int .i64 x.Call.Epoch,.int .i64 x.Call.Route.Start,s3,.int .i64 x.Reply.Code,.int .i64 x.Reply.Epoch,.int .i64 x.Reply.Route.Start,s4]
def Qa_:Rd Message:=fun H c x=>∃s1 s2 s3 s4,c=x.cv s1 s2 s3 s4∧fits x.From∧fits x.To∧fits x.Kind∧fits x.Txn.Node∧fits x.Txn.Life∧fits x.Txn.Count∧fits x.Work.Robot∧SlB rStr 1 16 H s1 x.Work.Take∧SlB rStr 1 16 H s2 x.Work.Drop∧fits x.ID∧fits x.Call.Verb∧fits x.Call.Epoch∧fits x.Call.Route.Start∧SlB rInt 1 8 H s3 x.Call.Route.Cells∧fits x.Reply.Code∧fits x.Reply.Epoch∧fits x.Reply.Route.Start∧SlB rInt 1 8 H s4 x.Reply.Route.Cells
instance :RdOk Qa_ 19:=⟨fun ⟨s1,s2,s3,s4,e,h0,h1,h2,h3,h4,h5,h6,h7,h8,h9,h10,h11,h12,h13,h14,h15,h16,h17⟩=>by subst e;rfl,fun ⟨s1,s2,s3,s4,e,h0,h1,h2,h3,h4,h5,h6,h7,h8,h9,h10,h11,h12,h13,h14,h15,h16,h17⟩=>by subst e;simp only [List.all_cons,List.all_nil,qm_ h7,qm_ h8,qm_ h13,qm_ h17];rfl,fun hl ⟨s1,s2,s3,s4,e,h0,h1,h2,h3,h4,h5,h6,h7,h8,h9,h10,h11,h12,h13,h14,h15,h16,h17⟩=>⟨s1,s2,s3,s4,e,h0,h1,h2,h3,h4,h5,h6,h7.mono hl,h8.mono hl,h9,h10,h11,h12,h13.mono hl,h14,h15,h16,h17.mono hl⟩⟩
def Qk_:Message:=⟨0,0,0,⟨0,0,0⟩,⟨0,[],[]⟩,false,0,⟨0,0,⟨0,[]⟩⟩,⟨0,0,⟨0,[]⟩⟩⟩
theorem qbe_ {H:Heap}:Qa_ H [.int .i64 0,.int .i64 0,.int .i64 0,.int .i64 0,.int .i64 0,.int .i64 0,.int .i64 0,.slice none 0 0,.slice none 0 0,.bool false,.int .i64 0,.int .i64 0,.int .i64 0,.int .i64 0,.slice none 0 0,.int .i64 0,.int .i64 0,.int .i64 0,.slice none 0 0] Qk_:=⟨nilS,nilS,nilS,nilS,rfl,Zg_,Zg_,Zg_,Zg_,Zg_,Zg_,Zg_,SlB.nil,SlB.nil,Zg_,Zg_,Zg_,Zg_,SlB.nil,Zg_,Zg_,Zg_,SlB.nil⟩
structure Convoyref17Note where
  Node:Int
  Rec:Rec
  deriving DecidableEq
abbrev Convoyref17Note.cv (x:Convoyref17Note) (s1:Value) (s2:Value) (s3:Value):List Value:=[.int .i64 x.Node,.int .i64 x.Rec.Kind,.int .i64 x.Rec.Txn.Node,.int .i64 x.Rec.Txn.Life,.int .i64 x.Rec.Txn.Count,.int .i64 x.Rec.Work.Robot,s1,s2,.bool x.Rec.Yes,s3]
def qw_:Rd Convoyref17Note:=fun H c x=>∃s1 s2 s3,c=x.cv s1 s2 s3∧fits x.Node∧fits x.Rec.Kind∧fits x.Rec.Txn.Node∧fits x.Rec.Txn.Life∧fits x.Rec.Txn.Count∧fits x.Rec.Work.Robot∧SlB rStr 1 16 H s1 x.Rec.Work.Take∧SlB rStr 1 16 H s2 x.Rec.Work.Drop∧SlB rInt 1 8 H s3 x.Rec.Parts
instance :RdOk qw_ 10:=⟨fun ⟨s1,s2,s3,e,h0,h1,h2,h3,h4,h5,h6,h7,h8⟩=>by subst e;rfl,fun ⟨s1,s2,s3,e,h0,h1,h2,h3,h4,h5,h6,h7,h8⟩=>by subst e;simp only [List.all_cons,List.all_nil,qm_ h6,qm_ h7,qm_ h8];rfl,fun hl ⟨s1,s2,s3,e,h0,h1,h2,h3,h4,h5,h6,h7,h8⟩=>⟨s1,s2,s3,e,h0,h1,h2,h3,h4,h5,h6.mono hl,h7.mono hl,h8.mono hl⟩⟩
structure Convoyref17World where
  Parts:(List Part)
  Coords:(List Coord)
  Net:(List Message)
  Now:Int
  Log:(List Convoyref17Note)
  deriving DecidableEq
abbrev Convoyref17World.cv (x:Convoyref17World) (s1:Value) (s2:Value) (s3:Value) (s4:Value):List Value:=[s1,s2,s3,.int .i64 x.Now,s4]
def zX_:Rd Convoyref17World:=fun H c x=>∃s1 s2 s3 s4,c=x.cv s1 s2 s3 s4∧SlB zaz_ 4 80 H s1 x.Parts∧SlB qu_ 4 48 H s2 x.Coords∧SlB Qa_ 19 216 H s3 x.Net∧fits x.Now∧SlB qw_ 10 128 H s4 x.Log
instance :RdOk zX_ 5:=⟨fun ⟨s1,s2,s3,s4,e,h0,h1,h2,h3,h4⟩=>by subst e;rfl,fun ⟨s1,s2,s3,s4,e,h0,h1,h2,h3,h4⟩=>by subst e;simp only [List.all_cons,List.all_nil,qm_ h0,qm_ h1,qm_ h2,qm_ h4];rfl,fun hl ⟨s1,s2,s3,s4,e,h0,h1,h2,h3,h4⟩=>⟨s1,s2,s3,s4,e,h0.mono hl,h1.mono hl,h2.mono hl,h3,h4.mono hl⟩⟩
structure PactNote where
  Node:Int
  Rec:Rec
  deriving DecidableEq
abbrev PactNote.cv (x:PactNote) (s1:Value) (s2:Value) (s3:Value):List Value:=[.int .i64 x.Node,.int .i64 x.Rec.Kind,.int .i64 x.Rec.Txn.Node,.int .i64 x.Rec.Txn.Life,.int .i64 x.Rec.Txn.Count,.int .i64 x.Rec.Work.Robot,s1,s2,.bool x.Rec.Yes,s3]
def ZJ_:Rd PactNote:=fun H c x=>∃s1 s2 s3,c=x.cv s1 s2 s3∧fits x.Node∧fits x.Rec.Kind∧fits x.Rec.Txn.Node∧fits x.Rec.Txn.Life∧fits x.Rec.Txn.Count∧fits x.Rec.Work.Robot∧SlB rStr 1 16 H s1 x.Rec.Work.Take∧SlB rStr 1 16 H s2 x.Rec.Work.Drop∧SlB rInt 1 8 H s3 x.Rec.Parts
instance :RdOk ZJ_ 10:=⟨fun ⟨s1,s2,s3,e,h0,h1,h2,h3,h4,h5,h6,h7,h8⟩=>by subst e;rfl,fun ⟨s1,s2,s3,e,h0,h1,h2,h3,h4,h5,h6,h7,h8⟩=>by subst e;simp only [List.all_cons,List.all_nil,qm_ h6,qm_ h7,qm_ h8];rfl,fun hl ⟨s1,s2,s3,e,h0,h1,h2,h3,h4,h5,h6,h7,h8⟩=>⟨s1,s2,s3,e,h0,h1,h2,h3,h4,h5,h6.mono hl,h7.mono hl,h8.mono hl⟩⟩
structure Net where
  flight:(List Message)
  deriving DecidableEq
abbrev Net.cv (x:Net) (s1:Value):List Value:=[s1]
structure CoordOutcome where
  Txn:Txn
  Yes:Bool
  Done:Bool
  deriving DecidableEq
abbrev CoordOutcome.cv (x:CoordOutcome):List Value:=[.int .i64 x.Txn.Node,.int .i64 x.Txn.Life,.int .i64 x.Txn.Count,.bool x.Yes,.bool x.Done]
def Qaz_:Rd CoordOutcome:=fun H c x=>c=x.cv∧fits x.Txn.Node∧fits x.Txn.Life∧fits x.Txn.Count
instance :RdOk Qaz_ 5:=⟨fun ⟨e,h0,h1,h2⟩=>by subst e;rfl,fun ⟨e,h0,h1,h2⟩=>by subst e;simp only [List.all_cons,List.all_nil];rfl,fun hl ⟨e,h0,h1,h2⟩=>⟨e,h0,h1,h2⟩⟩
structure Convoyref16Outcome where
  X:Txn
  Yes:Bool
  Done:Bool
  deriving DecidableEq
abbrev Convoyref16Outcome.cv (x:Convoyref16Outcome):List Value:=[.int .i64 x.X.Node,.int .i64 x.X.Life,.int .i64 x.X.Count,.bool x.Yes,.bool x.Done]
def qR_:Rd Convoyref16Outcome:=fun H c x=>c=x.cv∧fits x.X.Node∧fits x.X.Life∧fits x.X.Count
instance :RdOk qR_ 5:=⟨fun ⟨e,h0,h1,h2⟩=>by subst e;rfl,fun ⟨e,h0,h1,h2⟩=>by subst e;simp only [List.all_cons,List.all_nil];rfl,fun hl ⟨e,h0,h1,h2⟩=>⟨e,h0,h1,h2⟩⟩
structure PartDone where
  Txn:Txn
  Until:Int
  deriving DecidableEq
abbrev PartDone.cv (x:PartDone):List Value:=[.int .i64 x.Txn.Node,.int .i64 x.Txn.Life,.int .i64 x.Txn.Count,.int .i64 x.Until]
structure GridKey where
  Cell:Int
  Other:Int
  Tick:Int
  deriving DecidableEq
abbrev GridKey.cv (x:GridKey):List Value:=[.int .i64 x.Cell,.int .i64 x.Other,.int .i64 x.Tick]
structure Convoyref12Key where
  Cell:Int
  Other:Int
  Tick:Int
  deriving DecidableEq
abbrev Convoyref12Key.cv (x:Convoyref12Key):List Value:=[.int .i64 x.Cell,.int .i64 x.Other,.int .i64 x.Tick]
structure ErrorString where
  s:ByteArray
  deriving DecidableEq
abbrev ErrorString.cv (x:ErrorString):List Value:=[.string x.s]
end Go.Proofs.YtlflbkpmfhhikaaGreatDoor
set_option maxHeartbeats 16000000
set_option maxRecDepth 100000
namespace Go.Proofs.YtlflbkpmfhhikaaGreatDoor
open Go Go.Sx Go.Proofs Go.RowKit Go.Maps Go.Sort Go.Shelf Go.Lib
section
variable {ν:Type} {RV:Go.Sx.Rd ν} {ag:Bool} {H:Heap}
open Classical in
noncomputable def kf3 (e:MapEntry):K3:=if h:∃k,e.key=ek3 k then h.choose else (0,0,0)
theorem ZdR_ {e:MapEntry} {k:K3} (h:e.key=ek3 k):kf3 e=k:=by
 have hx:∃k,e.key=ek3 k:=⟨k,h⟩;unfold kf3;rw [dif_pos hx];exact ZbT_ (hx.choose_spec.symm.trans h)
theorem QcL_:∀{es:List MapEntry} {m:List (K3×ν)},EL ek3 RV ag H es m→es.map kf3=m.map (·.1)∧∀e∈es,e.key=ek3 (kf3 e)
 | [],[],_=>⟨rfl,fun _ h=>by cases h⟩
 | e::es,(k,v)::m,⟨a,_,d⟩=>by
  obtain ⟨h1,h2⟩:=QcL_ d;have hk:=ZdR_ a;refine ⟨by simp [h1,hk],fun x hx=>?_⟩;rcases List.mem_cons.1 hx with rfl | hx
  ·rw [hk];exact a
  ·exact h2 x hx
 | [],_::_,h=>h.elim
 | _::_,[],h=>h.elim
theorem Zcu_ {l l':List K3} (h:l.Perm l'):sort3 l=sort3 l':=by
 have hO:=swoK
 have tot:∀x y,ltOf ordI x y=false→ltOf ordI y x=false→x=y:=fun x y h1 h2=>by
  have e1:¬ltK x y:=fun h=>by rw [←ZA_] at h;rw [h] at h1;cases h1
  have e2:¬ltK y x:=fun h=>by rw [←ZA_] at h;rw [h] at h2;cases h2
  exact Qas_ e1 e2
 have tr:∀a b c:K3,(!(ltOf ordI) b a)=true→(!(ltOf ordI) c b)=true→(!(ltOf ordI) c a)=true:=fun a b c h1 h2=>by
  simp only [Bool.not_eq_true',←Bool.not_eq_true,ZA_] at*;unfold ltK at*;omega
 have to:∀a b:K3,((!(ltOf ordI) b a) || (!(ltOf ordI) a b))=true:=fun a b=>by
  simp only [Bool.or_eq_true,Bool.not_eq_true',←Bool.not_eq_true,ZA_];unfold ltK;omega
 refine List.Perm.eq_of_pairwise (le:=fun x y=>(!(ltOf ordI) y x)=true) (fun a b _ _ h1 h2=>?_) (List.pairwise_mergeSort tr to l) (List.pairwise_mergeSort tr to l') (((List.mergeSort_perm l _).trans h).trans (List.mergeSort_perm l' _).symm);simp only [Bool.not_eq_true'] at h1 h2;exact tot a b h2 h1
theorem QdD_ {W0 w w':World} {H:Heap} {L:List za_} {T n:Nat} {v:Value} {xs:List Value} (hS:St W0 H w L) (hb:Below w.heap.size w w') (hr:w'.ownsRow w.heap.size T 3 v n xs):St W0 H w' (Go.Sx.own T 3 v n xs::L):=by
 have hS':=hS.below hb;obtain ⟨hx,h⟩:=hr;rcases h with ⟨rfl,rfl⟩ | ⟨g,cap,cur,rfl,hg,hcell,h1,h2,h3,h4⟩
 ·exact v96_
 ·obtain ⟨h,a,l,d⟩:=hS.own;have hnew:hp w g=none:=by simp only [hp];exact Array.getElem?_eq_none hg
  let hA:Heap:=fun b=>if b=g then some (.cells cur T (0,0)) else none
  have hAw:hA.le (hp w'):=fun b o e=>by
   simp only [hA] at e;split at e
   ·next e1=>subst e1;cases e;exact hcell
   ·cases e
  have dis:∀(x:Heap),x.le (hp w)→Disj hA x:=fun x hx b=>by
   exact v69_
  have keep:∀(x:Heap),x.le (hp w)→x.le (hp w'):=fun x hx b o e=>by
   have h1:=hx b o e;exact v79_
  refine St.of_parts hS'.env hS'.ro (hA:=hA) ?_ a (dis h l) (dis H hS.ro).symm d hAw (keep h l);by_cases h0:cap=0
  ·exact v74_
  ·have hsplit:cur.toList=xs++cur.toList.drop (n*3):=by rw [←h4,List.take_append_drop]
   refine ⟨hx,.inr ⟨g,cap,cur.toList.drop (n*3),rfl,by omega,h1,h2,?_,?_⟩⟩
   ·rw [←hsplit];simpa using h3
   ·rw [←hsplit];simp [hA]
def toTx (k:K3):Txn:=⟨k.1,k.2.1,k.2.2⟩
theorem rl3 {H:Heap}:∀{l:List K3},(∀k∈l,fits k.1∧fits k.2.1∧fits k.2.2)→RL rTxn H (c3s l) (l.map toTx)
 | [],_=>rfl
 | k::l,h=>⟨c3 k,c3s l,rfl,⟨rfl,(h k (by simp)).1,(h k (by simp)).2.1,(h k (by simp)).2.2⟩,rl3 fun y hy=>h y (by simp [hy])⟩
theorem Qdm_:∀args w,(callFunc 119 args).run Tryz.prog w= .ok (.enter 119 args) w:=fun _ _=>rfl
theorem ZbS_ (n:Nat) (hn:1≤n) (Bm b:Nat) (es:Array MapEntry) (clock:Nat) (w:World) (hBm:Bm<w.heap.size) (hm:w.cell? ⟨Bm,0,none⟩=some (.map (some b))) (hb:w.heap[b]?=some (.map es clock))
  (hold:∀x∈es.toList,x.born<clock) (hnd:(es.toList.map (·.born)).Nodup) (hk:∀e∈es.toList,e.key=ek3 (kf3 e)):
  SeqGives Fence.wide n Tryz.prog 119 #[.pointer (some ⟨Bm,0,none⟩)] ek3 (fun ss=>ss.Perm (es.toList.map kf3)) es.size w:=fun l J W hW hJ hY h0=>
 ZcM_ Fence.wide n trivial rfl hn l Bm b es clock kf3 J (fun pre x W1 hj hl=>hY pre x W1 hj hl) W hJ ((hW.cell (p:=⟨Bm,0,none⟩) hBm).trans hm) ((hW.block b (Array.getElem?_eq_some_iff.1 hb).1).trans hb) hold hnd hk h0
theorem v27_ {P:Prop} (h:P:=by
 rintro e w' ⟨v,ss,rfl,hss,hrow,_,hbl⟩;have hS2:St W0 H w (mapO ek3 RV ag H0 b ms::R):=hS.sub (Sub.drop (Sub.refl _));have hS3:=QdD_ hS2 hbl hrow;rw [hk1] at hss;have hsort:sort3 ss=sort3 (ms.map (·.1)):=Zcu_ hss;refine ⟨v,H,[ownS rTxn 3 24 47 H v ((sort3 (ms.map (·.1))).map toTx),mapO ek3 RV ag H0 b ms],rfl,.refl _,⟨rfl,rfl⟩,?_⟩;refine hS3.sub ?_
 have hlen2:ss.length=((sort3 (ms.map (·.1))).map toTx).length:=by
  rw [List.length_map,ZP_];exact hss.length_eq
 rw [hsort,hlen2];refine QK_ (rl3 fun k hk=>?_) ?_
 ·unfold sort3 at hk;rw [List.mem_mergeSort] at hk;obtain ⟨q,hq,rfl⟩:=List.mem_map.1 hk;exact hs q hq
 ·rw [←hlen2,hss.length_eq,List.length_map];exact hl):P:=h
theorem ZaD_ {W0:World} {H0:Heap} {p b:Nat} {ms:List (K3×ν)} (hs:∀q∈ms,fits q.1.1∧fits q.1.2.1∧fits q.1.2.2) (hl:ms.length*24≤zb_):
  Ct Tryz.prog 81 #[.func (.func 119) #[] #[.pointer (some ⟨p,0,none⟩)],.func (.func 83) #[] #[]] W0 H [row p 195 [.map (some b)],mapO ek3 RV ag H0 b ms]
   (fun r H' B=>B=[ownS rTxn 3 24 47 H r ((sort3 (ms.map (·.1))).map toTx),mapO ek3 RV ag H0 b ms]∧H'=H):=by
 intro w R hS;have hcap:zb_≤maxLen:=by decide
 obtain ⟨hA,hR,a,r,d,dA,dR,lA,lR⟩:=hS.parts;obtain ⟨hB,hR2,⟨es,clock,hm,hpt⟩,r2,d2,l2,l3⟩:=r;have h1:w.heap[p]?=some (.cells #[.map (some b)] 195 (0,0)):=lA _ _ a;have hcellp:w.cell? ⟨p,0,none⟩=some (.map (some b)):=by simp [World.cell?,h1]
 have hplt:p<w.heap.size:=(Array.getElem?_eq_some_iff.1 h1).1;have hbm:w.heap[b]?=some (.map es clock):=lR _ _ (l2 _ _ hpt);have hlm:ms.length≤maxLen:=by have:=hl;simp only [zb_] at this hcap;omega
 have hlen:es.size=ms.length:=by simpa using hm.el.len
 obtain ⟨hk1,hk2⟩:=QcL_ hm.el;have hnd:(es.toList.map (·.born)).Nodup:=hm.rise.imp fun h=>Nat.ne_of_lt h
 refine (callsIn_wide.1 (Qbm_ Fence.wide 4 trivial trivial trivial trivial rfl (fun _ _ _ _ h=>callsIn_wide.2 h) (fun _=>trivial) (Nat.le_refl _) _ _ Qdm_ (fun ss=>ss.Perm (es.toList.map kf3)) es.size (by rw [hlen];exact hlm) (by rw [hlen];exact hl) w
  (ZbS_ 1 (Nat.le_refl _) p b es clock w hplt hcellp hbm hm.lt hnd hk2))).mono ?_
 exact v27_
theorem Zch_ {W0:World} {H:Heap} {b:Nat}:
  Ct Tryz.prog 82 #[.map (some b)] W0 H [] (fun r H' B=>∃p,r= .func (.func 119) #[] #[.pointer (some ⟨p,0,none⟩)]∧B=[row p 195 [.map (some b)]]∧H'=H):=
 zbU_ fun mb W=>callsIn_wide.1 (qcM_ Fence.wide 0 trivial rfl mb W)
end
#print axioms ZaD_
theorem Qcy_ (F:Fence) (n:Nat) (h10:F.fn 142) (hro:F.round=none) (hn:1≤n) (l Bm b:Nat) (es:Array MapEntry) (clock:Nat) (kf:MapEntry→K3) (J:List K3→World→Prop)
  (hY:∀pre x W,J pre W→pre.length<es.size→YieldAt F (n - 1) Tryz.prog l #[ek3 x] W fun e W'=>e= .returned (.bool true)∧J (pre++[x]) W'∧KeepsWalks W W')
  (W:World) (hJ:AbidesFrom W.heap.size J) (hm:W.cell? ⟨Bm,0,none⟩=some (.map (some b))) (hb:W.heap[b]?=some (.map es clock)) (hold:∀x∈es.toList,x.born<clock) (hnd:(es.toList.map (·.born)).Nodup) (hk:∀e∈es.toList,e.key=ek3 (kf e)) (h0:J [] W):
  CallsIn F n Tryz.prog 142 #[.func (.yield l) #[] #[],.pointer (some ⟨Bm,0,none⟩)] W fun e W'=>(∃v,e= .returned v)∧∃ss:List K3,ss.Perm (es.toList.map kf)∧J ss W':=by
 have hblt:b<W.heap.size:=(Array.getElem?_eq_some_iff.1 hb).1;refine callsIn_of_wp Tryz.func142 rfl h10 ?_ hro;simp only [Tryz.ntmps142,List.size_toArray,List.length_cons,List.length_nil,Nat.reduceAdd,Nat.reduceSub,Array.replicate_succ,Array.replicate_zero,List.push_toArray,List.append_toArray,List.nil_append,List.cons_append]
 gi_wp2_with (first
  | (gi_at_range;refine qaJ_ _ rfl _ 158 rfl 47 161 Tryz.underlying158 b es clock rfl hb ?_)
  | gi_in)
 go_frame
 gi_loopw [3] (fun _ wr=>∃(seen:Array Nat) (c0:Nat) (ss:List K3),wr.heap[b]?=some (.map es clock)∧wr.heap[W.heap.size]?=some (.mapIter (some b) clock seen c0)∧clock≤c0∧ss.Perm ((Qbd_ es seen).map kf)∧J ss wr)
  (fun _ wr=>wr.rangeLeft b W.heap.size)
 case atStart=>
  exact v57_
 case round=>
  exact v9_
theorem zbH_ (x y:K3) (W:World):Calls Tryz.prog 113 #[.agg (c3 x).toArray,.agg (c3 y).toArray] W fun e w'=>e= .returned (.int .i64 (ordI x y))∧∃q os',w'=grow (W.drewN q) os':=by
 obtain ⟨x1,x2,x3⟩:=x;obtain ⟨y1,y2,y3⟩:=y;simp only [c3,ordI];have h1:=fun W=>ZM_ x1 y1 W;have h2:=fun W=>ZM_ x2 y2 W;have h3:=fun W=>ZM_ x3 y3 W;generalize compareInt x1 y1=r1 at*;generalize compareInt x2 y2=r2 at*;generalize compareInt x3 y3=r3 at*;have h4:=fun (blk:Nat) (w:World) (c0:w.cell? ⟨blk,0,none⟩=some (.int .i64 r1)) (c1:w.cell? ⟨blk,1,none⟩=some (.int .i64 r2)) (c2:w.cell? ⟨blk,2,none⟩=some (.int .i64 r3))=>or3 r1 r2 r3 blk w c0 c1 c2;generalize (if r1=0 then (if r2=0 then r3 else r2) else r1)=rr at*;go_enter Tryz.func113,Tryz.ntmps113;go_wp2;exact v7_
theorem qdw_ (blk off size:Nat) (w:World):CmpLays Tryz.prog 113 #[] c3 3 ordI blk off size w:=fun _ _ _ _ x y=>zbH_ x y _
theorem qaY_ (gb cap:Nat) (ss:List K3) (W:World) (cur:Array Value) (hgb:W.heap[gb]?=some (.cells cur 47 (0,0))) (r4:cur.toList.take (ss.length*3)=c3s ss) (hsz:ss.length<4611686018427387904):
  Calls Tryz.prog 118 #[.slice (some ⟨gb,0,none⟩) ss.length cap,.func (.func 113) #[] #[]] W fun e w'=>e= .returned (.tuple #[])∧∃n os,w'=grow (putRow id (Sort.ahead W n) gb 0 (c3s (sort3 ss)).toArray) os:=by
 have hgl:gb<W.heap.size:=(Array.getElem?_eq_some_iff.1 hgb).1
 have hH:HoldsK c3 3 W gb 0 ss.toArray:=by
  unfold HoldsK;rw [ZdD_];exact Zad_ hgb (by rw [Zbm_];exact r4)
 have h:=AnyQ.slices_SortFunc_total Tryz.sortTx 3 Tryz.isAgg47 Tryz.sizeOf47 c3 (fun _=>rfl) (by intro x v hv;simp [c3] at hv;rcases hv with rfl | rfl | rfl<;>rfl) ordI swoK 113 #[] gb 0 cap ss.toArray W (fun _ _=>rfl) (qdw_ gb 0 ss.toArray.size W) hH hgl (by simpa using hsz) (by
  intro x y h1 h2;have e1:¬ltK x y:=fun h=>by rw [←ZA_] at h;rw [h] at h1;cases h1
  have e2:¬ltK y x:=fun h=>by rw [←ZA_] at h;rw [h] at h2;cases h2
  exact Qas_ e1 e2)
 refine (show Calls Tryz.prog 118 #[.slice (some ⟨gb,0,none⟩) ss.toArray.size cap,.func (.func 113) #[] #[]] W _ from h).mono ?_;exact v64_
theorem zbe_ (F:Fence) (n:Nat) (h6:F.fn 81) (h8:F.fn 117) (h9:F.fn 118) (h11:F.fn 146) (hro:F.round=none) (hwd:∀f args w R,Calls Tryz.prog f args w R→CallsIn F (n - 1) Tryz.prog f args w R) (hFg:∀g,F.fn g) (hn:4≤n) (g:Nat) (lb:Array Value) (eg:∀args w,(callFunc g args).run Tryz.prog w= .ok (.enter g args) w)
  (S:List K3→Prop) (N:Nat) (hN:N≤maxLen) (hNb:N*24≤140737488355328) (w:World) (hseq:SeqGives F (n - 1 - 1 - 1) Tryz.prog g lb ek3 S N w):
  CallsIn F n Tryz.prog 81 #[.func (.func g) #[] lb,.func (.func 113) #[] #[]] w fun e w'=>∃(v:Value) (ss:List K3),e= .returned v∧S ss∧w'.ownsRow w.heap.size 47 3 v ss.length (c3s (sort3 ss))∧(v= .slice none 0 0↔ss=[])∧Below w.heap.size w w':=by
 have h1:1≤n:=by omega
 refine callsIn_of_wp Tryz.func81 rfl h6 ?_ hro;simp only [Tryz.ntmps81,List.size_toArray,List.length_cons,List.length_nil,Nat.reduceAdd,Nat.reduceSub,Array.replicate_succ,Array.replicate_zero,List.push_toArray,List.append_toArray,List.nil_append,List.cons_append];gi_wp2_with (gi_at_call 117;refine (Zbg_ F (n - 1) h8 h11 hro (by omega) g lb (hFg g) eg _ N hN hNb _ hseq.bounded).mono ?_;rintro e W ⟨v,ss,rfl,⟨hS,hlen⟩,hrow,hnil,hb⟩);rcases hrow.2 with ⟨rfl,hz⟩ | ⟨gb,cap,cur,rfl,hbase,hgb,r1,r2,r3,r4⟩
 ·exact v51_
 ·have hsz:ss.length<4611686018427387904:=by omega
  have cS:=qaY_ gb cap ss W cur hgb r4 hsz;gi_wp2_with (gi_at_call 118;refine (hwd _ _ _ _ cS).mono ?_;rintro e w' ⟨rfl,nn,os,rfl⟩);go_ret;exact v66_
theorem Zcy_ (F:Fence) (n:Nat) (h7:F.fn 112) (hro:F.round=none) (mb:Option Nat) (w:World):
  CallsIn F n Tryz.prog 112 #[.map mb] w fun e w'=>e= .returned (.func (.func 142) #[] #[.pointer (some ⟨w.heap.size,0,none⟩)])∧w'=w.alloc (.cells #[.map mb] 158):=by
 refine callsIn_of_wp Tryz.func112 rfl h7 ?_ hro;simp only [Tryz.ntmps112,List.size_toArray,List.length_cons,List.length_nil,Nat.reduceAdd,Nat.reduceSub,Array.replicate_succ,Array.replicate_zero,List.push_toArray,List.append_toArray,List.nil_append,List.cons_append];gi_wp2;go_ret;exact ⟨rfl,rfl⟩
section
variable {ν:Type} {RV:Go.Sx.Rd ν} {ag:Bool} {H:Heap}
theorem qda_:∀args w,(callFunc 142 args).run Tryz.prog w= .ok (.enter 142 args) w:=fun _ _=>rfl
theorem QbH_ (n:Nat) (hn:1≤n) (Bm b:Nat) (es:Array MapEntry) (clock:Nat) (w:World) (hBm:Bm<w.heap.size) (hm:w.cell? ⟨Bm,0,none⟩=some (.map (some b))) (hb:w.heap[b]?=some (.map es clock))
  (hold:∀x∈es.toList,x.born<clock) (hnd:(es.toList.map (·.born)).Nodup) (hk:∀e∈es.toList,e.key=ek3 (kf3 e)):
  SeqGives Fence.wide n Tryz.prog 142 #[.pointer (some ⟨Bm,0,none⟩)] ek3 (fun ss=>ss.Perm (es.toList.map kf3)) es.size w:=fun l J W hW hJ hY h0=>
 Qcy_ Fence.wide n trivial rfl hn l Bm b es clock kf3 J (fun pre x W1 hj hl=>hY pre x W1 hj hl) W hJ ((hW.cell (p:=⟨Bm,0,none⟩) hBm).trans hm) ((hW.block b (Array.getElem?_eq_some_iff.1 hb).1).trans hb) hold hnd hk h0
theorem QbY_ {W0:World} {H0:Heap} {p b:Nat} {ms:List (K3×ν)} (hs:∀q∈ms,fits q.1.1∧fits q.1.2.1∧fits q.1.2.2) (hl:ms.length*24≤zb_):
  Ct Tryz.prog 81 #[.func (.func 142) #[] #[.pointer (some ⟨p,0,none⟩)],.func (.func 113) #[] #[]] W0 H [row p 158 [.map (some b)],mapO ek3 RV ag H0 b ms]
   (fun r H' B=>B=[ownS rTxn 3 24 47 H r ((sort3 (ms.map (·.1))).map toTx),mapO ek3 RV ag H0 b ms]∧H'=H):=by
 intro w R hS;have hcap:zb_≤maxLen:=by decide
 obtain ⟨hA,hR,a,r,d,dA,dR,lA,lR⟩:=hS.parts;obtain ⟨hB,hR2,⟨es,clock,hm,hpt⟩,r2,d2,l2,l3⟩:=r;have h1:w.heap[p]?=some (.cells #[.map (some b)] 158 (0,0)):=lA _ _ a;have hcellp:w.cell? ⟨p,0,none⟩=some (.map (some b)):=by simp [World.cell?,h1]
 have hplt:p<w.heap.size:=(Array.getElem?_eq_some_iff.1 h1).1;have hbm:w.heap[b]?=some (.map es clock):=lR _ _ (l2 _ _ hpt);have hlm:ms.length≤maxLen:=by have:=hl;simp only [zb_] at this hcap;omega
 have hlen:es.size=ms.length:=by simpa using hm.el.len
 obtain ⟨hk1,hk2⟩:=QcL_ hm.el;have hnd:(es.toList.map (·.born)).Nodup:=hm.rise.imp fun h=>Nat.ne_of_lt h
 refine (callsIn_wide.1 (zbe_ Fence.wide 4 trivial trivial trivial trivial rfl (fun _ _ _ _ h=>callsIn_wide.2 h) (fun _=>trivial) (Nat.le_refl _) _ _ qda_ (fun ss=>ss.Perm (es.toList.map kf3)) es.size (by rw [hlen];exact hlm) (by rw [hlen];exact hl) w
  (QbH_ 1 (Nat.le_refl _) p b es clock w hplt hcellp hbm hm.lt hnd hk2))).mono ?_
 exact v27_
theorem zda_ {W0:World} {H:Heap} {b:Nat}:
  Ct Tryz.prog 112 #[.map (some b)] W0 H [] (fun r H' B=>∃p,r= .func (.func 142) #[] #[.pointer (some ⟨p,0,none⟩)]∧B=[row p 158 [.map (some b)]]∧H'=H):=
 zbU_ fun mb W=>callsIn_wide.1 (Zcy_ Fence.wide 0 trivial rfl mb W)
end
end Go.Proofs.YtlflbkpmfhhikaaGreatDoor
