/- Numerals and keys, texts. -/
import Derived.Test.YtpphdbnifbjfmaaGreatDoorJInst
import Derived.Test.YtpphdbnifbjfmaaGreatDoorJKC
import Derived.Test.YtpphdbnifbjfmaaGreatDoorJKD
import Derived.Shelf.LaysM
import Derived.Shelf.Strconv.Itoa3
import Derived.Ground.Names2Prog
import Derived.Test.YtpphdbnifbjfmaaGreatDoorProg
import Derived.Laws.BitsLemmas
set_option linter.unusedVariables false
set_option linter.unusedSimpArgs false
namespace Go.Proofs.YtpphdbnifbjfmaaGreatDoor
open Go Go.Sx Go.Proofs
structure Work where
  Robot : Int
  Take : (List ByteArray)
  Drop : (List ByteArray)
  deriving DecidableEq
abbrev Work.cv (x : Work) (s1 : Value) (s2 : Value) : List Value := [.int .i64 x.Robot, s1, s2]
def rWork : Rd Work := fun H c x => ∃ s1 s2, c = x.cv s1 s2 ∧ fits x.Robot ∧ SlB rStr 1 16 H s1 x.Take ∧ SlB rStr 1 16 H s2 x.Drop
instance : RdOk rWork 3 := ⟨fun ⟨s1, s2, e, h0, h1, h2⟩ => by subst e; rfl, fun ⟨s1, s2, e, h0, h1, h2⟩ => by subst e; simp only [List.all_cons, List.all_nil, slb_one h1, slb_one h2]; rfl, fun hl ⟨s1, s2, e, h0, h1, h2⟩ => ⟨s1, s2, e, h0, h1.mono hl, h2.mono hl⟩⟩
def zWork : Work := ⟨0, [], []⟩
theorem zWork_reads {H : Heap} : rWork H [.int .i64 0, .slice none 0 0, .slice none 0 0] zWork := ⟨nilS, nilS, rfl, fits0, SlB.nil, SlB.nil⟩
theorem rds_Work : Rds Tryz.prog 38 rWork := by
  intro H enc W fuel cs d ps h hw
  have hst := Tryz.underlying38
  obtain ⟨hlen, he⟩ := trod_fields hst h hw
  have hl : cs.length = 3 := hlen.trans (by kernel_rfl)
  obtain ⟨y0, hy0⟩ := he 0 _ rfl 0 1 ⟨rfl, by kernel_rfl⟩ (rds_int Tryz.underlying3)
  obtain ⟨y1, hy1⟩ := he 1 _ rfl 1 1 ⟨rfl, by kernel_rfl⟩ (rds_slice Tryz.underlying36 (by kernel_rfl) (by kernel_rfl) (by decide) (rds_str Tryz.underlying9))
  obtain ⟨y2, hy2⟩ := he 2 _ rfl 2 1 ⟨rfl, by kernel_rfl⟩ (rds_slice Tryz.underlying36 (by kernel_rfl) (by kernel_rfl) (by decide) (rds_str Tryz.underlying9))
  obtain ⟨e0, k0_0⟩ := hy0
  have t0 := cutd (o' := 1) e0 rfl
  obtain ⟨v1_0, e1, k1_0⟩ := hy1
  have t1 := cutd (o' := 2) e1 rfl
  obtain ⟨v2_0, e2, k2_0⟩ := hy2
  have t2 := cutd (o' := 3) e2 rfl
  refine ⟨⟨y0, y1, y2⟩, ⟨v1_0, v2_0, ?_, k0_0, k1_0, k2_0⟩⟩
  refine t0.trans ?_
  rw [t1, t2, List.drop_eq_nil_of_le (Nat.le_of_eq hl)]
  try rfl
structure Move where
  Kind : Int
  A : Int
  Works : (List Work)
  deriving DecidableEq
abbrev Move.cv (x : Move) (s1 : Value) : List Value := [.int .i64 x.Kind, .int .i64 x.A, s1]
def rMove : Rd Move := fun H c x => ∃ s1, c = x.cv s1 ∧ fits x.Kind ∧ fits x.A ∧ SlB rWork 3 56 H s1 x.Works
instance : RdOk rMove 3 := ⟨fun ⟨s1, e, h0, h1, h2⟩ => by subst e; rfl, fun ⟨s1, e, h0, h1, h2⟩ => by subst e; simp only [List.all_cons, List.all_nil, slb_one h2]; rfl, fun hl ⟨s1, e, h0, h1, h2⟩ => ⟨s1, e, h0, h1, h2.mono hl⟩⟩
theorem rds_Move : Rds Tryz.prog 33 rMove := by
  intro H enc W fuel cs d ps h hw
  have hst := Tryz.underlying33
  obtain ⟨hlen, he⟩ := trod_fields hst h hw
  have hl : cs.length = 3 := hlen.trans (by kernel_rfl)
  obtain ⟨y0, hy0⟩ := he 0 _ rfl 0 1 ⟨rfl, by kernel_rfl⟩ (rds_int Tryz.underlying30)
  obtain ⟨y1, hy1⟩ := he 1 _ rfl 1 1 ⟨rfl, by kernel_rfl⟩ (rds_int Tryz.underlying3)
  obtain ⟨y2, hy2⟩ := he 2 _ rfl 2 1 ⟨rfl, by kernel_rfl⟩ (rds_slice Tryz.underlying31 (by kernel_rfl) (by kernel_rfl) (by decide) rds_Work)
  obtain ⟨e0, k0_0⟩ := hy0
  have t0 := cutd (o' := 1) e0 rfl
  obtain ⟨e1, k1_0⟩ := hy1
  have t1 := cutd (o' := 2) e1 rfl
  obtain ⟨v2_0, e2, k2_0⟩ := hy2
  have t2 := cutd (o' := 3) e2 rfl
  refine ⟨⟨y0, y1, y2⟩, ⟨v2_0, ?_, k0_0, k1_0, k2_0⟩⟩
  refine t0.trans ?_
  rw [t1, t2, List.drop_eq_nil_of_le (Nat.le_of_eq hl)]
  try rfl
structure Txn where
  Node : Int
  Life : Int
  Count : Int
  deriving DecidableEq
abbrev Txn.cv (x : Txn) : List Value := [.int .i64 x.Node, .int .i64 x.Life, .int .i64 x.Count]
def rTxn : Rd Txn := fun H c x => c = x.cv ∧ fits x.Node ∧ fits x.Life ∧ fits x.Count
instance : RdOk rTxn 3 := ⟨fun ⟨e, h0, h1, h2⟩ => by subst e; rfl, fun ⟨e, h0, h1, h2⟩ => by subst e; simp only [List.all_cons, List.all_nil]; rfl, fun hl ⟨e, h0, h1, h2⟩ => ⟨e, h0, h1, h2⟩⟩
def zTxn : Txn := ⟨0, 0, 0⟩
structure Rec where
  Kind : Int
  Txn : Txn
  Work : Work
  Yes : Bool
  Parts : (List Int)
  deriving DecidableEq
abbrev Rec.cv (x : Rec) (s1 : Value) (s2 : Value) (s3 : Value) : List Value := [.int .i64 x.Kind, .int .i64 x.Txn.Node, .int .i64 x.Txn.Life, .int .i64 x.Txn.Count, .int .i64 x.Work.Robot, s1, s2, .bool x.Yes, s3]
def rRec : Rd Rec := fun H c x => ∃ s1 s2 s3, c = x.cv s1 s2 s3 ∧ fits x.Kind ∧ fits x.Txn.Node ∧ fits x.Txn.Life ∧ fits x.Txn.Count ∧ fits x.Work.Robot ∧ SlB rStr 1 16 H s1 x.Work.Take ∧ SlB rStr 1 16 H s2 x.Work.Drop ∧ SlB rInt 1 8 H s3 x.Parts
instance : RdOk rRec 9 := ⟨fun ⟨s1, s2, s3, e, h0, h1, h2, h3, h4, h5, h6, h7⟩ => by subst e; rfl, fun ⟨s1, s2, s3, e, h0, h1, h2, h3, h4, h5, h6, h7⟩ => by subst e; simp only [List.all_cons, List.all_nil, slb_one h5, slb_one h6, slb_one h7]; rfl, fun hl ⟨s1, s2, s3, e, h0, h1, h2, h3, h4, h5, h6, h7⟩ => ⟨s1, s2, s3, e, h0, h1, h2, h3, h4, h5.mono hl, h6.mono hl, h7.mono hl⟩⟩
structure PactNote where
  Node : Int
  Rec : Rec
  deriving DecidableEq
abbrev PactNote.cv (x : PactNote) (s1 : Value) (s2 : Value) (s3 : Value) : List Value := [.int .i64 x.Node, .int .i64 x.Rec.Kind, .int .i64 x.Rec.Txn.Node, .int .i64 x.Rec.Txn.Life, .int .i64 x.Rec.Txn.Count, .int .i64 x.Rec.Work.Robot, s1, s2, .bool x.Rec.Yes, s3]
def rPactNote : Rd PactNote := fun H c x => ∃ s1 s2 s3, c = x.cv s1 s2 s3 ∧ fits x.Node ∧ fits x.Rec.Kind ∧ fits x.Rec.Txn.Node ∧ fits x.Rec.Txn.Life ∧ fits x.Rec.Txn.Count ∧ fits x.Rec.Work.Robot ∧ SlB rStr 1 16 H s1 x.Rec.Work.Take ∧ SlB rStr 1 16 H s2 x.Rec.Work.Drop ∧ SlB rInt 1 8 H s3 x.Rec.Parts
instance : RdOk rPactNote 10 := ⟨fun ⟨s1, s2, s3, e, h0, h1, h2, h3, h4, h5, h6, h7, h8⟩ => by subst e; rfl, fun ⟨s1, s2, s3, e, h0, h1, h2, h3, h4, h5, h6, h7, h8⟩ => by subst e; simp only [List.all_cons, List.all_nil, slb_one h6, slb_one h7, slb_one h8]; rfl, fun hl ⟨s1, s2, s3, e, h0, h1, h2, h3, h4, h5, h6, h7, h8⟩ => ⟨s1, s2, s3, e, h0, h1, h2, h3, h4, h5, h6.mono hl, h7.mono hl, h8.mono hl⟩⟩
structure Hold where
  Key : ByteArray
  Robot : Int
  deriving DecidableEq
abbrev Hold.cv (x : Hold) : List Value := [.string x.Key, .int .i64 x.Robot]
def rHold : Rd Hold := fun H c x => c = x.cv ∧ x.Key.size ≤ cap47 ∧ fits x.Robot
instance : RdOk rHold 2 := ⟨fun ⟨e, h0, h1⟩ => by subst e; rfl, fun ⟨e, h0, h1⟩ => by subst e; simp only [List.all_cons, List.all_nil]; rfl, fun hl ⟨e, h0, h1⟩ => ⟨e, h0, h1⟩⟩
structure Route where
  Start : Int
  Cells : (List Int)
  deriving DecidableEq
abbrev Route.cv (x : Route) (s1 : Value) : List Value := [.int .i64 x.Start, s1]
structure Call where
  Verb : Int
  Epoch : Int
  Route : Route
  deriving DecidableEq
abbrev Call.cv (x : Call) (s1 : Value) : List Value := [.int .i64 x.Verb, .int .i64 x.Epoch, .int .i64 x.Route.Start, s1]
structure Reply where
  Code : Int
  Epoch : Int
  Route : Route
  deriving DecidableEq
abbrev Reply.cv (x : Reply) (s1 : Value) : List Value := [.int .i64 x.Code, .int .i64 x.Epoch, .int .i64 x.Route.Start, s1]
structure Message where
  From : Int
  To : Int
  Kind : Int
  Txn : Txn
  Work : Work
  Yes : Bool
  ID : Int
  Call : Call
  Reply : Reply
  deriving DecidableEq
abbrev Message.cv (x : Message) (s1 : Value) (s2 : Value) (s3 : Value) (s4 : Value) : List Value := [.int .i64 x.From, .int .i64 x.To, .int .i64 x.Kind, .int .i64 x.Txn.Node, .int .i64 x.Txn.Life, .int .i64 x.Txn.Count, .int .i64 x.Work.Robot, s1, s2, .bool x.Yes, .int .i64 x.ID, .int .i64 x.Call.Verb, .int .i64 x.Call.Epoch, .int .i64 x.Call.Route.Start, s3, .int .i64 x.Reply.Code, .int .i64 x.Reply.Epoch, .int .i64 x.Reply.Route.Start, s4]
def rMessage : Rd Message := fun H c x => ∃ s1 s2 s3 s4, c = x.cv s1 s2 s3 s4 ∧ fits x.From ∧ fits x.To ∧ fits x.Kind ∧ fits x.Txn.Node ∧ fits x.Txn.Life ∧ fits x.Txn.Count ∧ fits x.Work.Robot ∧ SlB rStr 1 16 H s1 x.Work.Take ∧ SlB rStr 1 16 H s2 x.Work.Drop ∧ fits x.ID ∧ fits x.Call.Verb ∧ fits x.Call.Epoch ∧ fits x.Call.Route.Start ∧ SlB rInt 1 8 H s3 x.Call.Route.Cells ∧ fits x.Reply.Code ∧ fits x.Reply.Epoch ∧ fits x.Reply.Route.Start ∧ SlB rInt 1 8 H s4 x.Reply.Route.Cells
instance : RdOk rMessage 19 := ⟨fun ⟨s1, s2, s3, s4, e, h0, h1, h2, h3, h4, h5, h6, h7, h8, h9, h10, h11, h12, h13, h14, h15, h16, h17⟩ => by subst e; rfl, fun ⟨s1, s2, s3, s4, e, h0, h1, h2, h3, h4, h5, h6, h7, h8, h9, h10, h11, h12, h13, h14, h15, h16, h17⟩ => by subst e; simp only [List.all_cons, List.all_nil, slb_one h7, slb_one h8, slb_one h13, slb_one h17]; rfl, fun hl ⟨s1, s2, s3, s4, e, h0, h1, h2, h3, h4, h5, h6, h7, h8, h9, h10, h11, h12, h13, h14, h15, h16, h17⟩ => ⟨s1, s2, s3, s4, e, h0, h1, h2, h3, h4, h5, h6, h7.mono hl, h8.mono hl, h9, h10, h11, h12, h13.mono hl, h14, h15, h16, h17.mono hl⟩⟩
def zMessage : Message := ⟨0, 0, 0, ⟨0, 0, 0⟩, ⟨0, [], []⟩, false, 0, ⟨0, 0, ⟨0, []⟩⟩, ⟨0, 0, ⟨0, []⟩⟩⟩
structure Net where
  flight : (List Message)
  deriving DecidableEq
abbrev Net.cv (x : Net) (s1 : Value) : List Value := [s1]
structure CoordOutcome where
  Txn : Txn
  Yes : Bool
  Done : Bool
  deriving DecidableEq
abbrev CoordOutcome.cv (x : CoordOutcome) : List Value := [.int .i64 x.Txn.Node, .int .i64 x.Txn.Life, .int .i64 x.Txn.Count, .bool x.Yes, .bool x.Done]
def rCoordOutcome : Rd CoordOutcome := fun H c x => c = x.cv ∧ fits x.Txn.Node ∧ fits x.Txn.Life ∧ fits x.Txn.Count
instance : RdOk rCoordOutcome 5 := ⟨fun ⟨e, h0, h1, h2⟩ => by subst e; rfl, fun ⟨e, h0, h1, h2⟩ => by subst e; simp only [List.all_cons, List.all_nil]; rfl, fun hl ⟨e, h0, h1, h2⟩ => ⟨e, h0, h1, h2⟩⟩
structure PartDone where
  Txn : Txn
  Until : Int
  deriving DecidableEq
abbrev PartDone.cv (x : PartDone) : List Value := [.int .i64 x.Txn.Node, .int .i64 x.Txn.Life, .int .i64 x.Txn.Count, .int .i64 x.Until]
def rPartDone : Rd PartDone := fun H c x => c = x.cv ∧ fits x.Txn.Node ∧ fits x.Txn.Life ∧ fits x.Txn.Count ∧ fits x.Until
instance : RdOk rPartDone 4 := ⟨fun ⟨e, h0, h1, h2, h3⟩ => by subst e; rfl, fun ⟨e, h0, h1, h2, h3⟩ => by subst e; simp only [List.all_cons, List.all_nil]; rfl, fun hl ⟨e, h0, h1, h2, h3⟩ => ⟨e, h0, h1, h2, h3⟩⟩
structure GridKey where
  Cell : Int
  Other : Int
  Tick : Int
  deriving DecidableEq
abbrev GridKey.cv (x : GridKey) : List Value := [.int .i64 x.Cell, .int .i64 x.Other, .int .i64 x.Tick]
structure ErrorString where
  s : ByteArray
  deriving DecidableEq
abbrev ErrorString.cv (x : ErrorString) : List Value := [.string x.s]
structure Table where
  Held : (List Hold)
  Prep : (List Rec)
  deriving DecidableEq
abbrev Table.cv (x : Table) (s1 : Value) (s2 : Value) : List Value := [s1, s2]
structure Convoyref15Done where
  Txn : Txn
  Until : Int
  deriving DecidableEq
abbrev Convoyref15Done.cv (x : Convoyref15Done) : List Value := [.int .i64 x.Txn.Node, .int .i64 x.Txn.Life, .int .i64 x.Txn.Count, .int .i64 x.Until]
structure Part where
  Shard : Int
  T : Table
  Done : (List Convoyref15Done)
  deriving DecidableEq
abbrev Part.cv (x : Part) (s1 : Value) (s2 : Value) (s3 : Value) : List Value := [.int .i64 x.Shard, s1, s2, s3]
structure Convoyref16Txn where
  X : Txn
  Open : Bool
  Began : Int
  Parts : (List Int)
  Works : (List Work)
  Heard : (List Bool)
  deriving DecidableEq
abbrev Convoyref16Txn.cv (x : Convoyref16Txn) (s1 : Value) (s2 : Value) (s3 : Value) : List Value := [.int .i64 x.X.Node, .int .i64 x.X.Life, .int .i64 x.X.Count, .bool x.Open, .int .i64 x.Began, s1, s2, s3]
structure Coord where
  Node : Int
  Life : Int
  Count : Int
  Txns : (List Convoyref16Txn)
  deriving DecidableEq
abbrev Coord.cv (x : Coord) (s1 : Value) : List Value := [.int .i64 x.Node, .int .i64 x.Life, .int .i64 x.Count, s1]
structure Convoyref17Note where
  Node : Int
  Rec : Rec
  deriving DecidableEq
abbrev Convoyref17Note.cv (x : Convoyref17Note) (s1 : Value) (s2 : Value) (s3 : Value) : List Value := [.int .i64 x.Node, .int .i64 x.Rec.Kind, .int .i64 x.Rec.Txn.Node, .int .i64 x.Rec.Txn.Life, .int .i64 x.Rec.Txn.Count, .int .i64 x.Rec.Work.Robot, s1, s2, .bool x.Rec.Yes, s3]
structure Convoyref17World where
  Parts : (List Part)
  Coords : (List Coord)
  Net : (List Message)
  Now : Int
  Log : (List Convoyref17Note)
  deriving DecidableEq
abbrev Convoyref17World.cv (x : Convoyref17World) (s1 : Value) (s2 : Value) (s3 : Value) (s4 : Value) : List Value := [s1, s2, s3, .int .i64 x.Now, s4]
structure Convoyref16Outcome where
  X : Txn
  Yes : Bool
  Done : Bool
  deriving DecidableEq
abbrev Convoyref16Outcome.cv (x : Convoyref16Outcome) : List Value := [.int .i64 x.X.Node, .int .i64 x.X.Life, .int .i64 x.X.Count, .bool x.Yes, .bool x.Done]
structure Convoyref12Key where
  Cell : Int
  Other : Int
  Tick : Int
  deriving DecidableEq
abbrev Convoyref12Key.cv (x : Convoyref12Key) : List Value := [.int .i64 x.Cell, .int .i64 x.Other, .int .i64 x.Tick]
end Go.Proofs.YtpphdbnifbjfmaaGreatDoor
namespace Go.Proofs
open Go.Shelf
def Tryz.laysM171_ren : Go.Shelf.Ren := ⟨fun | 171 => 112 | 243 => 131 | 246 => 146 | 283 => 153 | 284 => 154 | 285 => 155 | 286 => 156 | 129 => 109 | 317 => 159 | 318 => 160 | 319 => 161 | 320 => 162 | 337 => 163 | 338 => 164 | n => n, fun | 3 => 3 | 9 => 9 | 2 => 2 | 4 => 4 | 171 => 254 | 0 => 0 | 53 => 213 | 37 => 35 | 5 => 5 | 173 => 256 | 212 => 264 | 51 => 211 | 20 => 20 | 213 => 265 | 46 => 34 | 232 => 266 | 233 => 267 | n => n, fun | 17 => 3 | 18 => 4 | 19 => 5 | n => n⟩
theorem Tryz.laysM171 : Go.Proofs.LaysM.n171 Tryz.prog Tryz.laysM171_ren := {
  mixed := by kernel_rfl
  f129 := Tryz.func109.trans (congrArg some (by kernel_rfl))
  f171 := Tryz.func112.trans (congrArg some (by kernel_rfl))
  f243 := Tryz.func131.trans (congrArg some (by kernel_rfl))
  f246 := Tryz.func146.trans (congrArg some (by kernel_rfl))
  f283 := Tryz.func153.trans (congrArg some (by kernel_rfl))
  f284 := Tryz.func154.trans (congrArg some (by kernel_rfl))
  f285 := Tryz.func155.trans (congrArg some (by kernel_rfl))
  f286 := Tryz.func156.trans (congrArg some (by kernel_rfl))
  f317 := Tryz.func159.trans (congrArg some (by kernel_rfl))
  f318 := Tryz.func160.trans (congrArg some (by kernel_rfl))
  f319 := Tryz.func161.trans (congrArg some (by kernel_rfl))
  f320 := Tryz.func162.trans (congrArg some (by kernel_rfl))
  f337 := Tryz.func163.trans (congrArg some (by kernel_rfl))
  f338 := Tryz.func164.trans (congrArg some (by kernel_rfl))
  t0 := Tryz.underlying0
  a0 := Tryz.isAgg0
  z0 := Tryz.sizeOf0
  v0 := Tryz.zeroValue0
  t2 := Tryz.underlying2
  a2 := Tryz.isAgg2
  z2 := Tryz.sizeOf2
  v2 := Tryz.zeroValue2
  t3 := Tryz.underlying3
  a3 := Tryz.isAgg3
  z3 := Tryz.sizeOf3
  v3 := Tryz.zeroValue3
  t4 := Tryz.underlying4
  a4 := Tryz.isAgg4
  z4 := Tryz.sizeOf4
  v4 := Tryz.zeroValue4
  t5 := Tryz.underlying5
  a5 := Tryz.isAgg5
  z5 := Tryz.sizeOf5
  v5 := Tryz.zeroValue5
  t9 := Tryz.underlying9
  a9 := Tryz.isAgg9
  z9 := Tryz.sizeOf9
  v9 := Tryz.zeroValue9
  t20 := Tryz.underlying20
  a20 := Tryz.isAgg20
  z20 := Tryz.sizeOf20
  v20 := Tryz.zeroValue20
  t37 := Tryz.underlying35
  a37 := Tryz.isAgg35
  z37 := Tryz.sizeOf35
  v37 := Tryz.zeroValue35
  t46 := Tryz.underlying34
  a46 := Tryz.isAgg34
  z46 := Tryz.sizeOf34
  v46 := Tryz.zeroValue34
  t51 := Tryz.underlying211
  a51 := Tryz.isAgg211
  z51 := Tryz.sizeOf211
  v51 := Tryz.zeroValue211
  t53 := Tryz.underlying213
  a53 := Tryz.isAgg213
  z53 := Tryz.sizeOf213
  v53 := Tryz.zeroValue213
  t171 := Tryz.underlying254
  a171 := Tryz.isAgg254
  z171 := Tryz.sizeOf254
  v171 := Tryz.zeroValue254
  t173 := Tryz.underlying256
  a173 := Tryz.isAgg256
  z173 := Tryz.sizeOf256
  v173 := Tryz.zeroValue256
  t212 := Tryz.underlying264
  a212 := Tryz.isAgg264
  z212 := Tryz.sizeOf264
  v212 := Tryz.zeroValue264
  t213 := Tryz.underlying265
  a213 := Tryz.isAgg265
  z213 := Tryz.sizeOf265
  t232 := Tryz.underlying266
  a232 := Tryz.isAgg266
  z232 := Tryz.sizeOf266
  v232 := Tryz.zeroValue266
  t233 := Tryz.underlying267
  a233 := Tryz.isAgg267
  z233 := Tryz.sizeOf267
  v233 := Tryz.zeroValue267
  g17 := by kernel_rfl
  g18 := by kernel_rfl
  g19 := by kernel_rfl
  i0 := by kernel_rfl
  i2 := by kernel_rfl
  i3 := by kernel_rfl
  i4 := by kernel_rfl
  i5 := by kernel_rfl
  i9 := by kernel_rfl
  i20 := by kernel_rfl
  i37 := by kernel_rfl
  i46 := by kernel_rfl
  i51 := by kernel_rfl
  i53 := by kernel_rfl
  i171 := by kernel_rfl
  i173 := by kernel_rfl
  i212 := by kernel_rfl
  i232 := by kernel_rfl
  i233 := by kernel_rfl
  m17 := by kernel_rfl
  m18 := by kernel_rfl
  m19 := by kernel_rfl }
open Go.RowKit Go.Sort Go.Lib in
theorem Tryz.strconv_Itoa (n : Int) (h0 : -9223372036854775808 ≤ n) (h1 : n ≤ 9223372036854775807) (w : World) (htab : Lib.TabIs Tryz.prog w "internal/strconv.uint64pow10" .u64 Lib.pow10Tab) :
    Calls Tryz.prog 112 #[.int .i64 n] w fun e w' => e = .returned (.string ⟨(Lib.itoa n).toArray⟩) ∧ ∃ k os, w' = grow (w.drewN k) os := Any.strconv_Itoa Tryz.laysM171 n h0 h1 w htab
end Go.Proofs
namespace Go.Proofs.YtpphdbnifbjfmaaGreatDoor
open Go Go.Sx Go.Proofs
abbrev I (n : Int) : Value := .int .i64 n
theorem bdec {p q : Prop} [Decidable p] [Decidable q] (h : p ↔ q) : Value.bool (decide p) = Value.bool (decide q) := by rw [decide_eq_decide.2 h]
instance eqTxn : TEq3 Tryz.prog 45 := ⟨by kernel_rfl, fun a b c d e f w => by
  have u3 := Tryz.underlying3
  have a3 := Tryz.isAgg3
  have z3 := Tryz.sizeOf3
  have hS : Tryz.prog.underlying 45 = some (.struct (Tryz.prog.fieldsOf 45)) := by kernel_rfl
  have hp : Tryz.prog.stoodInHeld 45 = false := by kernel_rfl
  rw [show (10000 : Nat) = 9999 + 1 from rfl, run_equalIn_agg w 9999 45 _ _ hS hp]
  simp only [Program.fieldsOf, Tryz.underlying45]
  go_simp
  by_cases h1 : a = d <;> by_cases h2 : b = e <;> by_cases h3 : c = f <;> simp [h1, h2, h3]⟩
instance : TKey3 Tryz.prog 45 where
  toTEq3 := eqTxn
  und := ⟨_, Tryz.underlying45⟩
  chk e a b c w := by
    have u3 := Tryz.underlying3
    have a3 := Tryz.isAgg3
    have z3 := Tryz.sizeOf3
    rw [show (10000 : Nat) = 9998 + 1 + 1 from rfl, Instr.checkKey]
    simp only [Sem.run_bind, run_underlying Tryz.underlying45, Result.andThen_ok]
    rw [← Array.forIn_toList]
    simp only [List.forIn_cons, List.forIn_nil]
    go_simp
    have hc : ∀ (x : Int) (w : World), (Instr.checkKey e 9999 3 (.int .i64 x)).run Tryz.prog w = .ok () w := fun x w => by
      rw [show (9999 : Nat) = 9998 + 1 from rfl, Instr.checkKey]; simp [run_underlying u3]
    simp only [hc, Result.andThen_ok]
def nd : Nat → List UInt8
  | 0 => []
  | n + 1 => nd ((n + 1) / 10) ++ [UInt8.ofNat (48 + (n + 1) % 10)]
decreasing_by omega
theorem nd_step {n : Nat} (h : n ≠ 0) : nd n = nd (n / 10) ++ [UInt8.ofNat (48 + n % 10)] := by
  cases n with
  | zero => exact absurd rfl h
  | succ n => rw [nd]
def dgs (n : Int) : List UInt8 := if n = 0 then [48] else if n < 0 then [45] ++ nd n.natAbs else nd n.natAbs
def slotL (c t : Int) : List UInt8 := [99] ++ dgs c ++ [64] ++ dgs t
def passL (a b t : Int) : List UInt8 := [112] ++ dgs (min a b) ++ [45] ++ dgs (max a b) ++ [64] ++ dgs t
def isDig (b : UInt8) : Prop := 48 ≤ b.toNat ∧ b.toNat ≤ 57
def dval (l : List UInt8) : Nat := l.foldl (fun a b => a * 10 + (b.toNat - 48)) 0
theorem dval_snoc {l : List UInt8} {b : UInt8} : dval (l ++ [b]) = dval l * 10 + (b.toNat - 48) := by simp [dval]
theorem dig_nat {k : Nat} : (UInt8.ofNat (48 + k % 10)).toNat = 48 + k % 10 := by
  rw [UInt8.toNat_ofNat']; omega
theorem nd_val (n : Nat) : dval (nd n) = n := by
  induction n using Nat.strongRecOn with
  | ind n ih =>
    by_cases h : n = 0
    · subst h; simp [nd, dval]
    · rw [nd_step h, dval_snoc, ih (n / 10) (by omega), dig_nat]; omega
theorem nd_dig (n : Nat) : ∀ b ∈ nd n, isDig b := by
  induction n using Nat.strongRecOn with
  | ind n ih =>
    by_cases h : n = 0
    · subst h; simp [nd]
    · rw [nd_step h]
      intro b hb
      rcases List.mem_append.1 hb with hb | hb
      · exact ih (n / 10) (by omega) b hb
      · rw [List.mem_singleton.1 hb]; unfold isDig; rw [dig_nat]; omega
theorem dgs_dig {n : Int} (h : 0 ≤ n) : ∀ b ∈ dgs n, isDig b := by
  unfold dgs
  split
  · intro b hb; rw [List.mem_singleton.1 hb]; unfold isDig; decide
  · rw [if_neg (by omega)]; exact nd_dig _
theorem dgs_val {n : Int} (h : 0 ≤ n) : dval (dgs n) = n.toNat := by
  unfold dgs
  split
  · next e => subst e; decide
  · rw [if_neg (by omega), nd_val]; omega
theorem dgs_inj {a b : Int} (ha : 0 ≤ a) (hb : 0 ≤ b) (h : dgs a = dgs b) : a = b := by
  have h1 := dgs_val ha
  rw [h, dgs_val hb] at h1
  omega
theorem cut_at {s : UInt8} (hs : ¬ isDig s) : ∀ {u u' v v' : List UInt8}, (∀ b ∈ u, isDig b) → (∀ b ∈ u', isDig b) → u ++ s :: v = u' ++ s :: v' → u = u' ∧ v = v'
  | [], [], v, v', _, _, h => by simpa using h
  | [], b :: u', v, v', _, h2, h => by
    simp only [List.nil_append, List.cons_append, List.cons.injEq] at h
    exact absurd (h.1 ▸ h2 b (by simp)) hs
  | b :: u, [], v, v', h1, _, h => by
    simp only [List.nil_append, List.cons_append, List.cons.injEq] at h
    exact absurd (h.1 ▸ h1 b (by simp)) hs
  | b :: u, b' :: u', v, v', h1, h2, h => by
    simp only [List.cons_append, List.cons.injEq] at h
    obtain ⟨e1, e2⟩ := cut_at hs (fun x hx => h1 x (by simp [hx])) (fun x hx => h2 x (by simp [hx])) h.2
    exact ⟨by rw [h.1, e1], e2⟩
theorem slot_inj {c c' t t' : Int} (h1 : 0 ≤ c) (h2 : 0 ≤ c') (h3 : 0 ≤ t) (h4 : 0 ≤ t') (h : slotL c t = slotL c' t') : c = c' ∧ t = t' := by
  simp only [slotL, List.append_assoc, List.cons_append, List.nil_append, List.cons.injEq, true_and] at h
  obtain ⟨e1, e2⟩ := cut_at (s := 64) (by unfold isDig; decide) (dgs_dig h1) (dgs_dig h2) h
  exact ⟨dgs_inj h1 h2 e1, dgs_inj h3 h4 e2⟩
theorem pass_inj {a b a' b' t t' : Int} (h1 : 0 ≤ a) (h2 : 0 ≤ b) (h3 : 0 ≤ a') (h4 : 0 ≤ b') (h5 : 0 ≤ t) (h6 : 0 ≤ t') (h : passL a b t = passL a' b' t') : (min a b = min a' b' ∧ max a b = max a' b') ∧ t = t' := by
  simp only [passL, List.append_assoc, List.cons_append, List.nil_append, List.cons.injEq, true_and] at h
  obtain ⟨e1, e2⟩ := cut_at (s := 45) (by unfold isDig; decide) (dgs_dig (by omega)) (dgs_dig (by omega)) h
  obtain ⟨e3, e4⟩ := cut_at (s := 64) (by unfold isDig; decide) (dgs_dig (by omega)) (dgs_dig (by omega)) e2
  exact ⟨⟨dgs_inj (by omega) (by omega) e1, dgs_inj (by omega) (by omega) e3⟩, dgs_inj h5 h6 e4⟩
theorem slot_pass {c t a b t' : Int} : slotL c t ≠ passL a b t' := by
  intro h
  simp only [slotL, passL, List.append_assoc, List.cons_append, List.nil_append, List.cons.injEq] at h
  exact absurd h.1 (by decide)
theorem sb_inj {a b : List UInt8} (h : sb a = sb b) : a = b := by
  unfold sb at h
  simpa using h
abbrev tickI (t : Int) : Prop := 0 ≤ t ∧ t ≤ 1073741824
theorem dec_nd : ∀ {u : Nat}, u ≠ 0 → Lib.decDigits u = nd u := fun {u} => by
  induction u using Nat.strongRecOn with
  | ind u ih =>
    intro h
    rw [Lib.decDigits, nd_step h]
    split
    · next h1 =>
      rw [show u / 10 = 0 by omega, show u % 10 = u by omega]; simp [nd]
    · next h1 => rw [ih (u / 10) (by omega) (by omega)]
theorem itoa_dgs {n : Int} : Lib.itoa n = dgs n := by
  unfold Lib.itoa dgs
  by_cases h0 : n = 0
  · subst h0; rw [if_neg (by omega), if_pos rfl]; simp [Lib.decDigits]
  rw [if_neg h0]
  by_cases h1 : n < 0
  · rw [if_pos h1, if_pos h1, dec_nd (by omega)]; rfl
  · rw [if_neg h1, if_neg h1, dec_nd (by omega), show n.toNat = n.natAbs by omega]
theorem itoa_spec {W0 : World} {H : Heap} {n : Int} (hT : TabH Tryz.prog H) (hn : fits n) :
    Ct Tryz.prog 112 #[I n] W0 H [] (fun r H' B => r = .string (sb (dgs n)) ∧ B = [] ∧ H' = H) := by
  have h := ct_itoa (W0 := W0) hT hn Tryz.strconv_Itoa
  rw [itoa_dgs] at h; exact h
end Go.Proofs.YtpphdbnifbjfmaaGreatDoor
