/- Written by program (gen_types.py): the values of this seat's types, and how they lie in memory. -/
import Derived.Test.YthoafjeampbkeaaInst
set_option linter.unusedVariables false
set_option linter.unusedSimpArgs false
namespace Go.Proofs.Ythoafjeampbkeaa
open Go Go.Sx Go.Proofs
/-- convoy/api.Txn -/
structure Txn where
  Node : Int
  Life : Int
  Count : Int
  deriving DecidableEq
abbrev Txn.cv (x : Txn) : List Value := [.int .i64 x.Node, .int .i64 x.Life, .int .i64 x.Count]
def rTxn : Rd Txn := fun H c x => c = x.cv ∧ fits x.Node ∧ fits x.Life ∧ fits x.Count
instance : RdOk rTxn 3 := ⟨fun ⟨e, h0, h1, h2⟩ => by subst e; rfl, fun ⟨e, h0, h1, h2⟩ => by subst e; simp only [List.all_cons, List.all_nil]; rfl, fun hl ⟨e, h0, h1, h2⟩ => ⟨e, h0, h1, h2⟩⟩
def zTxn : Txn := ⟨0, 0, 0⟩
theorem zTxn_reads {H : Heap} : rTxn H [.int .i64 0, .int .i64 0, .int .i64 0] zTxn := ⟨rfl, fits0, fits0, fits0⟩
theorem rds_Txn : Rds Try.prog 28 rTxn := by
  intro H enc W fuel cs d ps h hw
  have hst := Try.underlying28
  obtain ⟨hlen, he⟩ := trod_fields hst h hw
  have hl : cs.length = 3 := hlen.trans (by kernel_rfl)
  obtain ⟨y0, hy0⟩ := he 0 _ rfl 0 1 ⟨rfl, by kernel_rfl⟩ (rds_int Try.underlying3)
  obtain ⟨y1, hy1⟩ := he 1 _ rfl 1 1 ⟨rfl, by kernel_rfl⟩ (rds_int Try.underlying3)
  obtain ⟨y2, hy2⟩ := he 2 _ rfl 2 1 ⟨rfl, by kernel_rfl⟩ (rds_int Try.underlying3)
  obtain ⟨e0, k0_0⟩ := hy0
  have t0 := cutd (o' := 1) e0 rfl
  obtain ⟨e1, k1_0⟩ := hy1
  have t1 := cutd (o' := 2) e1 rfl
  obtain ⟨e2, k2_0⟩ := hy2
  have t2 := cutd (o' := 3) e2 rfl
  refine ⟨⟨y0, y1, y2⟩, ⟨?_, k0_0, k1_0, k2_0⟩⟩
  refine t0.trans ?_
  rw [t1, t2, List.drop_eq_nil_of_le (Nat.le_of_eq hl)]
  try rfl
/-- convoy/api.Work -/
structure Work where
  Robot : Int
  Take : (List ByteArray)
  Drop : (List ByteArray)
  deriving DecidableEq
abbrev Work.cv (x : Work) (s1 : Value) (s2 : Value) : List Value := [.int .i64 x.Robot, s1, s2]
def rWork : Rd Work := fun H c x => ∃ s1 s2, c = x.cv s1 s2 ∧ fits x.Robot ∧ SlB rStr 1 16 H s1 x.Take ∧ SlB rStr 1 16 H s2 x.Drop
instance : RdOk rWork 3 := ⟨fun ⟨s1, s2, e, h0, h1, h2⟩ => by subst e; rfl, fun ⟨s1, s2, e, h0, h1, h2⟩ => by subst e; simp only [List.all_cons, List.all_nil, slb_one h1, slb_one h2]; rfl, fun hl ⟨s1, s2, e, h0, h1, h2⟩ => ⟨s1, s2, e, h0, h1.mono hl, h2.mono hl⟩⟩
def zWork : Work := ⟨0, [], []⟩
theorem zWork_reads {H : Heap} : rWork H [.int .i64 0, .slice none 0 0, .slice none 0 0] zWork := ⟨nilS, nilS, rfl, fits0, SlB.nil, SlB.nil⟩
theorem rds_Work : Rds Try.prog 41 rWork := by
  intro H enc W fuel cs d ps h hw
  have hst := Try.underlying41
  obtain ⟨hlen, he⟩ := trod_fields hst h hw
  have hl : cs.length = 3 := hlen.trans (by kernel_rfl)
  obtain ⟨y0, hy0⟩ := he 0 _ rfl 0 1 ⟨rfl, by kernel_rfl⟩ (rds_int Try.underlying3)
  obtain ⟨y1, hy1⟩ := he 1 _ rfl 1 1 ⟨rfl, by kernel_rfl⟩ (rds_slice Try.underlying39 (by kernel_rfl) (by kernel_rfl) (by decide) (rds_str Try.underlying9))
  obtain ⟨y2, hy2⟩ := he 2 _ rfl 2 1 ⟨rfl, by kernel_rfl⟩ (rds_slice Try.underlying39 (by kernel_rfl) (by kernel_rfl) (by decide) (rds_str Try.underlying9))
  obtain ⟨e0, k0_0⟩ := hy0
  have t0 := cutd (o' := 1) e0 rfl
  obtain ⟨v1_0, e1, k1_0⟩ := hy1
  have t1 := cutd (o' := 2) e1 rfl
  obtain ⟨v2_0, e2, k2_0⟩ := hy2
  have t2 := cutd (o' := 3) e2 rfl
  refine ⟨⟨y0, y1, y2⟩, ⟨v1_0, v2_0, ?_, k0_0, k1_0, k2_0⟩⟩
  refine t0.trans ?_
  rw [t1, t2, List.drop_eq_nil_of_le (Nat.le_of_eq hl)]
  try rfl
/-- convoy/convoyref16.Txn -/
structure Convoyref16Txn where
  X : Txn
  Open : Bool
  Began : Int
  Parts : (List Int)
  Works : (List Work)
  Heard : (List Bool)
  deriving DecidableEq
abbrev Convoyref16Txn.cv (x : Convoyref16Txn) (s1 : Value) (s2 : Value) (s3 : Value) : List Value := [.int .i64 x.X.Node, .int .i64 x.X.Life, .int .i64 x.X.Count, .bool x.Open, .int .i64 x.Began, s1, s2, s3]
def rConvoyref16Txn : Rd Convoyref16Txn := fun H c x => ∃ s1 s2 s3, c = x.cv s1 s2 s3 ∧ fits x.X.Node ∧ fits x.X.Life ∧ fits x.X.Count ∧ fits x.Began ∧ SlB rInt 1 8 H s1 x.Parts ∧ SlB rWork 3 56 H s2 x.Works ∧ SlB rBool 1 1 H s3 x.Heard
instance : RdOk rConvoyref16Txn 8 := ⟨fun ⟨s1, s2, s3, e, h0, h1, h2, h3, h4, h5, h6⟩ => by subst e; rfl, fun ⟨s1, s2, s3, e, h0, h1, h2, h3, h4, h5, h6⟩ => by subst e; simp only [List.all_cons, List.all_nil, slb_one h4, slb_one h5, slb_one h6]; rfl, fun hl ⟨s1, s2, s3, e, h0, h1, h2, h3, h4, h5, h6⟩ => ⟨s1, s2, s3, e, h0, h1, h2, h3, h4.mono hl, h5.mono hl, h6.mono hl⟩⟩
def zConvoyref16Txn : Convoyref16Txn := ⟨⟨0, 0, 0⟩, false, 0, [], [], []⟩
theorem zConvoyref16Txn_reads {H : Heap} : rConvoyref16Txn H [.int .i64 0, .int .i64 0, .int .i64 0, .bool false, .int .i64 0, .slice none 0 0, .slice none 0 0, .slice none 0 0] zConvoyref16Txn := ⟨nilS, nilS, nilS, rfl, fits0, fits0, fits0, fits0, SlB.nil, SlB.nil, SlB.nil⟩
theorem rds_Convoyref16Txn : Rds Try.prog 98 rConvoyref16Txn := by
  intro H enc W fuel cs d ps h hw
  have hst := Try.underlying98
  obtain ⟨hlen, he⟩ := trod_fields hst h hw
  have hl : cs.length = 8 := hlen.trans (by kernel_rfl)
  obtain ⟨y0, hy0⟩ := he 0 _ rfl 0 3 ⟨rfl, by kernel_rfl⟩ rds_Txn
  obtain ⟨y1, hy1⟩ := he 1 _ rfl 3 1 ⟨rfl, by kernel_rfl⟩ (rds_bool Try.underlying4)
  obtain ⟨y2, hy2⟩ := he 2 _ rfl 4 1 ⟨rfl, by kernel_rfl⟩ (rds_int Try.underlying3)
  obtain ⟨y3, hy3⟩ := he 3 _ rfl 5 1 ⟨rfl, by kernel_rfl⟩ (rds_slice Try.underlying45 (by kernel_rfl) (by kernel_rfl) (by decide) (rds_int Try.underlying3))
  obtain ⟨y4, hy4⟩ := he 4 _ rfl 6 1 ⟨rfl, by kernel_rfl⟩ (rds_slice Try.underlying22 (by kernel_rfl) (by kernel_rfl) (by decide) rds_Work)
  obtain ⟨y5, hy5⟩ := he 5 _ rfl 7 1 ⟨rfl, by kernel_rfl⟩ (rds_slice Try.underlying96 (by kernel_rfl) (by kernel_rfl) (by decide) (rds_bool Try.underlying4))
  obtain ⟨e0, k0_0, k0_1, k0_2⟩ := hy0
  have t0 := cutd (o' := 3) e0 rfl
  have e1 := hy1
  have t1 := cutd (o' := 4) e1 rfl
  obtain ⟨e2, k2_0⟩ := hy2
  have t2 := cutd (o' := 5) e2 rfl
  obtain ⟨v3_0, e3, k3_0⟩ := hy3
  have t3 := cutd (o' := 6) e3 rfl
  obtain ⟨v4_0, e4, k4_0⟩ := hy4
  have t4 := cutd (o' := 7) e4 rfl
  obtain ⟨v5_0, e5, k5_0⟩ := hy5
  have t5 := cutd (o' := 8) e5 rfl
  refine ⟨⟨y0, y1, y2, y3, y4, y5⟩, ⟨v3_0, v4_0, v5_0, ?_, k0_0, k0_1, k0_2, k2_0, k3_0, k4_0, k5_0⟩⟩
  refine t0.trans ?_
  rw [t1, t2, t3, t4, t5, List.drop_eq_nil_of_le (Nat.le_of_eq hl)]
  try rfl
/-- convoy/convoyref16.Coord -/
structure Coord where
  Node : Int
  Life : Int
  Count : Int
  Txns : (List Convoyref16Txn)
  deriving DecidableEq
abbrev Coord.cv (x : Coord) (s1 : Value) : List Value := [.int .i64 x.Node, .int .i64 x.Life, .int .i64 x.Count, s1]
def rCoord : Rd Coord := fun H c x => ∃ s1, c = x.cv s1 ∧ fits x.Node ∧ fits x.Life ∧ fits x.Count ∧ SlB rConvoyref16Txn 8 112 H s1 x.Txns
instance : RdOk rCoord 4 := ⟨fun ⟨s1, e, h0, h1, h2, h3⟩ => by subst e; rfl, fun ⟨s1, e, h0, h1, h2, h3⟩ => by subst e; simp only [List.all_cons, List.all_nil, slb_one h3]; rfl, fun hl ⟨s1, e, h0, h1, h2, h3⟩ => ⟨s1, e, h0, h1, h2, h3.mono hl⟩⟩
def zCoord : Coord := ⟨0, 0, 0, []⟩
theorem zCoord_reads {H : Heap} : rCoord H [.int .i64 0, .int .i64 0, .int .i64 0, .slice none 0 0] zCoord := ⟨nilS, rfl, fits0, fits0, fits0, SlB.nil⟩
theorem rds_Coord : Rds Try.prog 35 rCoord := by
  intro H enc W fuel cs d ps h hw
  have hst := Try.underlying35
  obtain ⟨hlen, he⟩ := trod_fields hst h hw
  have hl : cs.length = 4 := hlen.trans (by kernel_rfl)
  obtain ⟨y0, hy0⟩ := he 0 _ rfl 0 1 ⟨rfl, by kernel_rfl⟩ (rds_int Try.underlying3)
  obtain ⟨y1, hy1⟩ := he 1 _ rfl 1 1 ⟨rfl, by kernel_rfl⟩ (rds_int Try.underlying3)
  obtain ⟨y2, hy2⟩ := he 2 _ rfl 2 1 ⟨rfl, by kernel_rfl⟩ (rds_int Try.underlying3)
  obtain ⟨y3, hy3⟩ := he 3 _ rfl 3 1 ⟨rfl, by kernel_rfl⟩ (rds_slice Try.underlying33 (by kernel_rfl) (by kernel_rfl) (by decide) rds_Convoyref16Txn)
  obtain ⟨e0, k0_0⟩ := hy0
  have t0 := cutd (o' := 1) e0 rfl
  obtain ⟨e1, k1_0⟩ := hy1
  have t1 := cutd (o' := 2) e1 rfl
  obtain ⟨e2, k2_0⟩ := hy2
  have t2 := cutd (o' := 3) e2 rfl
  obtain ⟨v3_0, e3, k3_0⟩ := hy3
  have t3 := cutd (o' := 4) e3 rfl
  refine ⟨⟨y0, y1, y2, y3⟩, ⟨v3_0, ?_, k0_0, k1_0, k2_0, k3_0⟩⟩
  refine t0.trans ?_
  rw [t1, t2, t3, List.drop_eq_nil_of_le (Nat.le_of_eq hl)]
  try rfl
/-- convoy/api.Route -/
structure Route where
  Start : Int
  Cells : (List Int)
  deriving DecidableEq
abbrev Route.cv (x : Route) (s1 : Value) : List Value := [.int .i64 x.Start, s1]
def rRoute : Rd Route := fun H c x => ∃ s1, c = x.cv s1 ∧ fits x.Start ∧ SlB rInt 1 8 H s1 x.Cells
instance : RdOk rRoute 2 := ⟨fun ⟨s1, e, h0, h1⟩ => by subst e; rfl, fun ⟨s1, e, h0, h1⟩ => by subst e; simp only [List.all_cons, List.all_nil, slb_one h1]; rfl, fun hl ⟨s1, e, h0, h1⟩ => ⟨s1, e, h0, h1.mono hl⟩⟩
def zRoute : Route := ⟨0, []⟩
theorem zRoute_reads {H : Heap} : rRoute H [.int .i64 0, .slice none 0 0] zRoute := ⟨nilS, rfl, fits0, SlB.nil⟩
theorem rds_Route : Rds Try.prog 47 rRoute := by
  intro H enc W fuel cs d ps h hw
  have hst := Try.underlying47
  obtain ⟨hlen, he⟩ := trod_fields hst h hw
  have hl : cs.length = 2 := hlen.trans (by kernel_rfl)
  obtain ⟨y0, hy0⟩ := he 0 _ rfl 0 1 ⟨rfl, by kernel_rfl⟩ (rds_int Try.underlying3)
  obtain ⟨y1, hy1⟩ := he 1 _ rfl 1 1 ⟨rfl, by kernel_rfl⟩ (rds_slice Try.underlying45 (by kernel_rfl) (by kernel_rfl) (by decide) (rds_int Try.underlying3))
  obtain ⟨e0, k0_0⟩ := hy0
  have t0 := cutd (o' := 1) e0 rfl
  obtain ⟨v1_0, e1, k1_0⟩ := hy1
  have t1 := cutd (o' := 2) e1 rfl
  refine ⟨⟨y0, y1⟩, ⟨v1_0, ?_, k0_0, k1_0⟩⟩
  refine t0.trans ?_
  rw [t1, List.drop_eq_nil_of_le (Nat.le_of_eq hl)]
  try rfl
/-- convoy/api.Call -/
structure Call where
  Verb : Int
  Epoch : Int
  Route : Route
  deriving DecidableEq
abbrev Call.cv (x : Call) (s1 : Value) : List Value := [.int .i64 x.Verb, .int .i64 x.Epoch, .int .i64 x.Route.Start, s1]
def rCall : Rd Call := fun H c x => ∃ s1, c = x.cv s1 ∧ fits x.Verb ∧ fits x.Epoch ∧ fits x.Route.Start ∧ SlB rInt 1 8 H s1 x.Route.Cells
instance : RdOk rCall 4 := ⟨fun ⟨s1, e, h0, h1, h2, h3⟩ => by subst e; rfl, fun ⟨s1, e, h0, h1, h2, h3⟩ => by subst e; simp only [List.all_cons, List.all_nil, slb_one h3]; rfl, fun hl ⟨s1, e, h0, h1, h2, h3⟩ => ⟨s1, e, h0, h1, h2, h3.mono hl⟩⟩
def zCall : Call := ⟨0, 0, ⟨0, []⟩⟩
theorem zCall_reads {H : Heap} : rCall H [.int .i64 0, .int .i64 0, .int .i64 0, .slice none 0 0] zCall := ⟨nilS, rfl, fits0, fits0, fits0, SlB.nil⟩
theorem rds_Call : Rds Try.prog 49 rCall := by
  intro H enc W fuel cs d ps h hw
  have hst := Try.underlying49
  obtain ⟨hlen, he⟩ := trod_fields hst h hw
  have hl : cs.length = 4 := hlen.trans (by kernel_rfl)
  obtain ⟨y0, hy0⟩ := he 0 _ rfl 0 1 ⟨rfl, by kernel_rfl⟩ (rds_int Try.underlying44)
  obtain ⟨y1, hy1⟩ := he 1 _ rfl 1 1 ⟨rfl, by kernel_rfl⟩ (rds_int Try.underlying3)
  obtain ⟨y2, hy2⟩ := he 2 _ rfl 2 2 ⟨rfl, by kernel_rfl⟩ rds_Route
  obtain ⟨e0, k0_0⟩ := hy0
  have t0 := cutd (o' := 1) e0 rfl
  obtain ⟨e1, k1_0⟩ := hy1
  have t1 := cutd (o' := 2) e1 rfl
  obtain ⟨v2_0, e2, k2_0, k2_1⟩ := hy2
  have t2 := cutd (o' := 4) e2 rfl
  refine ⟨⟨y0, y1, y2⟩, ⟨v2_0, ?_, k0_0, k1_0, k2_0, k2_1⟩⟩
  refine t0.trans ?_
  rw [t1, t2, List.drop_eq_nil_of_le (Nat.le_of_eq hl)]
  try rfl
/-- convoy/api.Reply -/
structure Reply where
  Code : Int
  Epoch : Int
  Route : Route
  deriving DecidableEq
abbrev Reply.cv (x : Reply) (s1 : Value) : List Value := [.int .i64 x.Code, .int .i64 x.Epoch, .int .i64 x.Route.Start, s1]
def rReply : Rd Reply := fun H c x => ∃ s1, c = x.cv s1 ∧ fits x.Code ∧ fits x.Epoch ∧ fits x.Route.Start ∧ SlB rInt 1 8 H s1 x.Route.Cells
instance : RdOk rReply 4 := ⟨fun ⟨s1, e, h0, h1, h2, h3⟩ => by subst e; rfl, fun ⟨s1, e, h0, h1, h2, h3⟩ => by subst e; simp only [List.all_cons, List.all_nil, slb_one h3]; rfl, fun hl ⟨s1, e, h0, h1, h2, h3⟩ => ⟨s1, e, h0, h1, h2, h3.mono hl⟩⟩
def zReply : Reply := ⟨0, 0, ⟨0, []⟩⟩
theorem zReply_reads {H : Heap} : rReply H [.int .i64 0, .int .i64 0, .int .i64 0, .slice none 0 0] zReply := ⟨nilS, rfl, fits0, fits0, fits0, SlB.nil⟩
theorem rds_Reply : Rds Try.prog 51 rReply := by
  intro H enc W fuel cs d ps h hw
  have hst := Try.underlying51
  obtain ⟨hlen, he⟩ := trod_fields hst h hw
  have hl : cs.length = 4 := hlen.trans (by kernel_rfl)
  obtain ⟨y0, hy0⟩ := he 0 _ rfl 0 1 ⟨rfl, by kernel_rfl⟩ (rds_int Try.underlying30)
  obtain ⟨y1, hy1⟩ := he 1 _ rfl 1 1 ⟨rfl, by kernel_rfl⟩ (rds_int Try.underlying3)
  obtain ⟨y2, hy2⟩ := he 2 _ rfl 2 2 ⟨rfl, by kernel_rfl⟩ rds_Route
  obtain ⟨e0, k0_0⟩ := hy0
  have t0 := cutd (o' := 1) e0 rfl
  obtain ⟨e1, k1_0⟩ := hy1
  have t1 := cutd (o' := 2) e1 rfl
  obtain ⟨v2_0, e2, k2_0, k2_1⟩ := hy2
  have t2 := cutd (o' := 4) e2 rfl
  refine ⟨⟨y0, y1, y2⟩, ⟨v2_0, ?_, k0_0, k1_0, k2_0, k2_1⟩⟩
  refine t0.trans ?_
  rw [t1, t2, List.drop_eq_nil_of_le (Nat.le_of_eq hl)]
  try rfl
/-- convoy/api.Message -/
structure Message where
  From : Int
  To : Int
  Kind : Int
  Txn : Txn
  Work : Work
  Yes : Bool
  ID : Int
  Call : Call
  Reply : Reply
  deriving DecidableEq
abbrev Message.cv (x : Message) (s1 : Value) (s2 : Value) (s3 : Value) (s4 : Value) : List Value := [.int .i64 x.From, .int .i64 x.To, .int .i64 x.Kind, .int .i64 x.Txn.Node, .int .i64 x.Txn.Life, .int .i64 x.Txn.Count, .int .i64 x.Work.Robot, s1, s2, .bool x.Yes, .int .i64 x.ID, .int .i64 x.Call.Verb, .int .i64 x.Call.Epoch, .int .i64 x.Call.Route.Start, s3, .int .i64 x.Reply.Code, .int .i64 x.Reply.Epoch, .int .i64 x.Reply.Route.Start, s4]
def rMessage : Rd Message := fun H c x => ∃ s1 s2 s3 s4, c = x.cv s1 s2 s3 s4 ∧ fits x.From ∧ fits x.To ∧ fits x.Kind ∧ fits x.Txn.Node ∧ fits x.Txn.Life ∧ fits x.Txn.Count ∧ fits x.Work.Robot ∧ SlB rStr 1 16 H s1 x.Work.Take ∧ SlB rStr 1 16 H s2 x.Work.Drop ∧ fits x.ID ∧ fits x.Call.Verb ∧ fits x.Call.Epoch ∧ fits x.Call.Route.Start ∧ SlB rInt 1 8 H s3 x.Call.Route.Cells ∧ fits x.Reply.Code ∧ fits x.Reply.Epoch ∧ fits x.Reply.Route.Start ∧ SlB rInt 1 8 H s4 x.Reply.Route.Cells
instance : RdOk rMessage 19 := ⟨fun ⟨s1, s2, s3, s4, e, h0, h1, h2, h3, h4, h5, h6, h7, h8, h9, h10, h11, h12, h13, h14, h15, h16, h17⟩ => by subst e; rfl, fun ⟨s1, s2, s3, s4, e, h0, h1, h2, h3, h4, h5, h6, h7, h8, h9, h10, h11, h12, h13, h14, h15, h16, h17⟩ => by subst e; simp only [List.all_cons, List.all_nil, slb_one h7, slb_one h8, slb_one h13, slb_one h17]; rfl, fun hl ⟨s1, s2, s3, s4, e, h0, h1, h2, h3, h4, h5, h6, h7, h8, h9, h10, h11, h12, h13, h14, h15, h16, h17⟩ => ⟨s1, s2, s3, s4, e, h0, h1, h2, h3, h4, h5, h6, h7.mono hl, h8.mono hl, h9, h10, h11, h12, h13.mono hl, h14, h15, h16, h17.mono hl⟩⟩
def zMessage : Message := ⟨0, 0, 0, ⟨0, 0, 0⟩, ⟨0, [], []⟩, false, 0, ⟨0, 0, ⟨0, []⟩⟩, ⟨0, 0, ⟨0, []⟩⟩⟩
theorem zMessage_reads {H : Heap} : rMessage H [.int .i64 0, .int .i64 0, .int .i64 0, .int .i64 0, .int .i64 0, .int .i64 0, .int .i64 0, .slice none 0 0, .slice none 0 0, .bool false, .int .i64 0, .int .i64 0, .int .i64 0, .int .i64 0, .slice none 0 0, .int .i64 0, .int .i64 0, .int .i64 0, .slice none 0 0] zMessage := ⟨nilS, nilS, nilS, nilS, rfl, fits0, fits0, fits0, fits0, fits0, fits0, fits0, SlB.nil, SlB.nil, fits0, fits0, fits0, fits0, SlB.nil, fits0, fits0, fits0, SlB.nil⟩
theorem rds_Message : Rds Try.prog 53 rMessage := by
  intro H enc W fuel cs d ps h hw
  have hst := Try.underlying53
  obtain ⟨hlen, he⟩ := trod_fields hst h hw
  have hl : cs.length = 19 := hlen.trans (by kernel_rfl)
  obtain ⟨y0, hy0⟩ := he 0 _ rfl 0 1 ⟨rfl, by kernel_rfl⟩ (rds_int Try.underlying3)
  obtain ⟨y1, hy1⟩ := he 1 _ rfl 1 1 ⟨rfl, by kernel_rfl⟩ (rds_int Try.underlying3)
  obtain ⟨y2, hy2⟩ := he 2 _ rfl 2 1 ⟨rfl, by kernel_rfl⟩ (rds_int Try.underlying43)
  obtain ⟨y3, hy3⟩ := he 3 _ rfl 3 3 ⟨rfl, by kernel_rfl⟩ rds_Txn
  obtain ⟨y4, hy4⟩ := he 4 _ rfl 6 3 ⟨rfl, by kernel_rfl⟩ rds_Work
  obtain ⟨y5, hy5⟩ := he 5 _ rfl 9 1 ⟨rfl, by kernel_rfl⟩ (rds_bool Try.underlying4)
  obtain ⟨y6, hy6⟩ := he 6 _ rfl 10 1 ⟨rfl, by kernel_rfl⟩ (rds_int Try.underlying3)
  obtain ⟨y7, hy7⟩ := he 7 _ rfl 11 4 ⟨rfl, by kernel_rfl⟩ rds_Call
  obtain ⟨y8, hy8⟩ := he 8 _ rfl 15 4 ⟨rfl, by kernel_rfl⟩ rds_Reply
  obtain ⟨e0, k0_0⟩ := hy0
  have t0 := cutd (o' := 1) e0 rfl
  obtain ⟨e1, k1_0⟩ := hy1
  have t1 := cutd (o' := 2) e1 rfl
  obtain ⟨e2, k2_0⟩ := hy2
  have t2 := cutd (o' := 3) e2 rfl
  obtain ⟨e3, k3_0, k3_1, k3_2⟩ := hy3
  have t3 := cutd (o' := 6) e3 rfl
  obtain ⟨v4_0, v4_1, e4, k4_0, k4_1, k4_2⟩ := hy4
  have t4 := cutd (o' := 9) e4 rfl
  have e5 := hy5
  have t5 := cutd (o' := 10) e5 rfl
  obtain ⟨e6, k6_0⟩ := hy6
  have t6 := cutd (o' := 11) e6 rfl
  obtain ⟨v7_0, e7, k7_0, k7_1, k7_2, k7_3⟩ := hy7
  have t7 := cutd (o' := 15) e7 rfl
  obtain ⟨v8_0, e8, k8_0, k8_1, k8_2, k8_3⟩ := hy8
  have t8 := cutd (o' := 19) e8 rfl
  refine ⟨⟨y0, y1, y2, y3, y4, y5, y6, y7, y8⟩, ⟨v4_0, v4_1, v7_0, v8_0, ?_, k0_0, k1_0, k2_0, k3_0, k3_1, k3_2, k4_0, k4_1, k4_2, k6_0, k7_0, k7_1, k7_2, k7_3, k8_0, k8_1, k8_2, k8_3⟩⟩
  refine t0.trans ?_
  rw [t1, t2, t3, t4, t5, t6, t7, t8, List.drop_eq_nil_of_le (Nat.le_of_eq hl)]
  try rfl
/-- convoy/api.Rec -/
structure Rec where
  Kind : Int
  Txn : Txn
  Work : Work
  Yes : Bool
  Parts : (List Int)
  deriving DecidableEq
abbrev Rec.cv (x : Rec) (s1 : Value) (s2 : Value) (s3 : Value) : List Value := [.int .i64 x.Kind, .int .i64 x.Txn.Node, .int .i64 x.Txn.Life, .int .i64 x.Txn.Count, .int .i64 x.Work.Robot, s1, s2, .bool x.Yes, s3]
def rRec : Rd Rec := fun H c x => ∃ s1 s2 s3, c = x.cv s1 s2 s3 ∧ fits x.Kind ∧ fits x.Txn.Node ∧ fits x.Txn.Life ∧ fits x.Txn.Count ∧ fits x.Work.Robot ∧ SlB rStr 1 16 H s1 x.Work.Take ∧ SlB rStr 1 16 H s2 x.Work.Drop ∧ SlB rInt 1 8 H s3 x.Parts
instance : RdOk rRec 9 := ⟨fun ⟨s1, s2, s3, e, h0, h1, h2, h3, h4, h5, h6, h7⟩ => by subst e; rfl, fun ⟨s1, s2, s3, e, h0, h1, h2, h3, h4, h5, h6, h7⟩ => by subst e; simp only [List.all_cons, List.all_nil, slb_one h5, slb_one h6, slb_one h7]; rfl, fun hl ⟨s1, s2, s3, e, h0, h1, h2, h3, h4, h5, h6, h7⟩ => ⟨s1, s2, s3, e, h0, h1, h2, h3, h4, h5.mono hl, h6.mono hl, h7.mono hl⟩⟩
def zRec : Rec := ⟨0, ⟨0, 0, 0⟩, ⟨0, [], []⟩, false, []⟩
theorem zRec_reads {H : Heap} : rRec H [.int .i64 0, .int .i64 0, .int .i64 0, .int .i64 0, .int .i64 0, .slice none 0 0, .slice none 0 0, .bool false, .slice none 0 0] zRec := ⟨nilS, nilS, nilS, rfl, fits0, fits0, fits0, fits0, fits0, SlB.nil, SlB.nil, SlB.nil⟩
theorem rds_Rec : Rds Try.prog 63 rRec := by
  intro H enc W fuel cs d ps h hw
  have hst := Try.underlying63
  obtain ⟨hlen, he⟩ := trod_fields hst h hw
  have hl : cs.length = 9 := hlen.trans (by kernel_rfl)
  obtain ⟨y0, hy0⟩ := he 0 _ rfl 0 1 ⟨rfl, by kernel_rfl⟩ (rds_int Try.underlying61)
  obtain ⟨y1, hy1⟩ := he 1 _ rfl 1 3 ⟨rfl, by kernel_rfl⟩ rds_Txn
  obtain ⟨y2, hy2⟩ := he 2 _ rfl 4 3 ⟨rfl, by kernel_rfl⟩ rds_Work
  obtain ⟨y3, hy3⟩ := he 3 _ rfl 7 1 ⟨rfl, by kernel_rfl⟩ (rds_bool Try.underlying4)
  obtain ⟨y4, hy4⟩ := he 4 _ rfl 8 1 ⟨rfl, by kernel_rfl⟩ (rds_slice Try.underlying45 (by kernel_rfl) (by kernel_rfl) (by decide) (rds_int Try.underlying3))
  obtain ⟨e0, k0_0⟩ := hy0
  have t0 := cutd (o' := 1) e0 rfl
  obtain ⟨e1, k1_0, k1_1, k1_2⟩ := hy1
  have t1 := cutd (o' := 4) e1 rfl
  obtain ⟨v2_0, v2_1, e2, k2_0, k2_1, k2_2⟩ := hy2
  have t2 := cutd (o' := 7) e2 rfl
  have e3 := hy3
  have t3 := cutd (o' := 8) e3 rfl
  obtain ⟨v4_0, e4, k4_0⟩ := hy4
  have t4 := cutd (o' := 9) e4 rfl
  refine ⟨⟨y0, y1, y2, y3, y4⟩, ⟨v2_0, v2_1, v4_0, ?_, k0_0, k1_0, k1_1, k1_2, k2_0, k2_1, k2_2, k4_0⟩⟩
  refine t0.trans ?_
  rw [t1, t2, t3, t4, List.drop_eq_nil_of_le (Nat.le_of_eq hl)]
  try rfl
/-- convoy/convoylaw16.Op -/
structure Op where
  Kind : Int
  M : Message
  Works : (List Work)
  Now : Int
  deriving DecidableEq
abbrev Op.cv (x : Op) (s1 : Value) (s2 : Value) (s3 : Value) (s4 : Value) (s5 : Value) : List Value := [.int .i64 x.Kind, .int .i64 x.M.From, .int .i64 x.M.To, .int .i64 x.M.Kind, .int .i64 x.M.Txn.Node, .int .i64 x.M.Txn.Life, .int .i64 x.M.Txn.Count, .int .i64 x.M.Work.Robot, s1, s2, .bool x.M.Yes, .int .i64 x.M.ID, .int .i64 x.M.Call.Verb, .int .i64 x.M.Call.Epoch, .int .i64 x.M.Call.Route.Start, s3, .int .i64 x.M.Reply.Code, .int .i64 x.M.Reply.Epoch, .int .i64 x.M.Reply.Route.Start, s4, s5, .int .i64 x.Now]
def rOp : Rd Op := fun H c x => ∃ s1 s2 s3 s4 s5, c = x.cv s1 s2 s3 s4 s5 ∧ fits x.Kind ∧ fits x.M.From ∧ fits x.M.To ∧ fits x.M.Kind ∧ fits x.M.Txn.Node ∧ fits x.M.Txn.Life ∧ fits x.M.Txn.Count ∧ fits x.M.Work.Robot ∧ SlB rStr 1 16 H s1 x.M.Work.Take ∧ SlB rStr 1 16 H s2 x.M.Work.Drop ∧ fits x.M.ID ∧ fits x.M.Call.Verb ∧ fits x.M.Call.Epoch ∧ fits x.M.Call.Route.Start ∧ SlB rInt 1 8 H s3 x.M.Call.Route.Cells ∧ fits x.M.Reply.Code ∧ fits x.M.Reply.Epoch ∧ fits x.M.Reply.Route.Start ∧ SlB rInt 1 8 H s4 x.M.Reply.Route.Cells ∧ SlB rWork 3 56 H s5 x.Works ∧ fits x.Now
instance : RdOk rOp 22 := ⟨fun ⟨s1, s2, s3, s4, s5, e, h0, h1, h2, h3, h4, h5, h6, h7, h8, h9, h10, h11, h12, h13, h14, h15, h16, h17, h18, h19, h20⟩ => by subst e; rfl, fun ⟨s1, s2, s3, s4, s5, e, h0, h1, h2, h3, h4, h5, h6, h7, h8, h9, h10, h11, h12, h13, h14, h15, h16, h17, h18, h19, h20⟩ => by subst e; simp only [List.all_cons, List.all_nil, slb_one h8, slb_one h9, slb_one h14, slb_one h18, slb_one h19]; rfl, fun hl ⟨s1, s2, s3, s4, s5, e, h0, h1, h2, h3, h4, h5, h6, h7, h8, h9, h10, h11, h12, h13, h14, h15, h16, h17, h18, h19, h20⟩ => ⟨s1, s2, s3, s4, s5, e, h0, h1, h2, h3, h4, h5, h6, h7, h8.mono hl, h9.mono hl, h10, h11, h12, h13, h14.mono hl, h15, h16, h17, h18.mono hl, h19.mono hl, h20⟩⟩
def zOp : Op := ⟨0, ⟨0, 0, 0, ⟨0, 0, 0⟩, ⟨0, [], []⟩, false, 0, ⟨0, 0, ⟨0, []⟩⟩, ⟨0, 0, ⟨0, []⟩⟩⟩, [], 0⟩
theorem zOp_reads {H : Heap} : rOp H [.int .i64 0, .int .i64 0, .int .i64 0, .int .i64 0, .int .i64 0, .int .i64 0, .int .i64 0, .int .i64 0, .slice none 0 0, .slice none 0 0, .bool false, .int .i64 0, .int .i64 0, .int .i64 0, .int .i64 0, .slice none 0 0, .int .i64 0, .int .i64 0, .int .i64 0, .slice none 0 0, .slice none 0 0, .int .i64 0] zOp := ⟨nilS, nilS, nilS, nilS, nilS, rfl, fits0, fits0, fits0, fits0, fits0, fits0, fits0, fits0, SlB.nil, SlB.nil, fits0, fits0, fits0, fits0, SlB.nil, fits0, fits0, fits0, SlB.nil, SlB.nil, fits0⟩
theorem rds_Op : Rds Try.prog 68 rOp := by
  intro H enc W fuel cs d ps h hw
  have hst := Try.underlying68
  obtain ⟨hlen, he⟩ := trod_fields hst h hw
  have hl : cs.length = 22 := hlen.trans (by kernel_rfl)
  obtain ⟨y0, hy0⟩ := he 0 _ rfl 0 1 ⟨rfl, by kernel_rfl⟩ (rds_int Try.underlying3)
  obtain ⟨y1, hy1⟩ := he 1 _ rfl 1 19 ⟨rfl, by kernel_rfl⟩ rds_Message
  obtain ⟨y2, hy2⟩ := he 2 _ rfl 20 1 ⟨rfl, by kernel_rfl⟩ (rds_slice Try.underlying22 (by kernel_rfl) (by kernel_rfl) (by decide) rds_Work)
  obtain ⟨y3, hy3⟩ := he 3 _ rfl 21 1 ⟨rfl, by kernel_rfl⟩ (rds_int Try.underlying3)
  obtain ⟨e0, k0_0⟩ := hy0
  have t0 := cutd (o' := 1) e0 rfl
  obtain ⟨v1_0, v1_1, v1_2, v1_3, e1, k1_0, k1_1, k1_2, k1_3, k1_4, k1_5, k1_6, k1_7, k1_8, k1_9, k1_10, k1_11, k1_12, k1_13, k1_14, k1_15, k1_16, k1_17⟩ := hy1
  have t1 := cutd (o' := 20) e1 rfl
  obtain ⟨v2_0, e2, k2_0⟩ := hy2
  have t2 := cutd (o' := 21) e2 rfl
  obtain ⟨e3, k3_0⟩ := hy3
  have t3 := cutd (o' := 22) e3 rfl
  refine ⟨⟨y0, y1, y2, y3⟩, ⟨v1_0, v1_1, v1_2, v1_3, v2_0, ?_, k0_0, k1_0, k1_1, k1_2, k1_3, k1_4, k1_5, k1_6, k1_7, k1_8, k1_9, k1_10, k1_11, k1_12, k1_13, k1_14, k1_15, k1_16, k1_17, k2_0, k3_0⟩⟩
  refine t0.trans ?_
  rw [t1, t2, t3, List.drop_eq_nil_of_le (Nat.le_of_eq hl)]
  try rfl
/-- convoy/coord.Outcome -/
structure CoordOutcome where
  Txn : Txn
  Yes : Bool
  Done : Bool
  deriving DecidableEq
abbrev CoordOutcome.cv (x : CoordOutcome) : List Value := [.int .i64 x.Txn.Node, .int .i64 x.Txn.Life, .int .i64 x.Txn.Count, .bool x.Yes, .bool x.Done]
def rCoordOutcome : Rd CoordOutcome := fun H c x => c = x.cv ∧ fits x.Txn.Node ∧ fits x.Txn.Life ∧ fits x.Txn.Count
instance : RdOk rCoordOutcome 5 := ⟨fun ⟨e, h0, h1, h2⟩ => by subst e; rfl, fun ⟨e, h0, h1, h2⟩ => by subst e; simp only [List.all_cons, List.all_nil]; rfl, fun hl ⟨e, h0, h1, h2⟩ => ⟨e, h0, h1, h2⟩⟩
def zCoordOutcome : CoordOutcome := ⟨⟨0, 0, 0⟩, false, false⟩
theorem zCoordOutcome_reads {H : Heap} : rCoordOutcome H [.int .i64 0, .int .i64 0, .int .i64 0, .bool false, .bool false] zCoordOutcome := ⟨rfl, fits0, fits0, fits0⟩
theorem rds_CoordOutcome : Rds Try.prog 88 rCoordOutcome := by
  intro H enc W fuel cs d ps h hw
  have hst := Try.underlying88
  obtain ⟨hlen, he⟩ := trod_fields hst h hw
  have hl : cs.length = 5 := hlen.trans (by kernel_rfl)
  obtain ⟨y0, hy0⟩ := he 0 _ rfl 0 3 ⟨rfl, by kernel_rfl⟩ rds_Txn
  obtain ⟨y1, hy1⟩ := he 1 _ rfl 3 1 ⟨rfl, by kernel_rfl⟩ (rds_bool Try.underlying4)
  obtain ⟨y2, hy2⟩ := he 2 _ rfl 4 1 ⟨rfl, by kernel_rfl⟩ (rds_bool Try.underlying4)
  obtain ⟨e0, k0_0, k0_1, k0_2⟩ := hy0
  have t0 := cutd (o' := 3) e0 rfl
  have e1 := hy1
  have t1 := cutd (o' := 4) e1 rfl
  have e2 := hy2
  have t2 := cutd (o' := 5) e2 rfl
  refine ⟨⟨y0, y1, y2⟩, ⟨?_, k0_0, k0_1, k0_2⟩⟩
  refine t0.trans ?_
  rw [t1, t2, List.drop_eq_nil_of_le (Nat.le_of_eq hl)]
  try rfl
/-- convoy/convoyref16.Outcome -/
structure Convoyref16Outcome where
  X : Txn
  Yes : Bool
  Done : Bool
  deriving DecidableEq
abbrev Convoyref16Outcome.cv (x : Convoyref16Outcome) : List Value := [.int .i64 x.X.Node, .int .i64 x.X.Life, .int .i64 x.X.Count, .bool x.Yes, .bool x.Done]
def rConvoyref16Outcome : Rd Convoyref16Outcome := fun H c x => c = x.cv ∧ fits x.X.Node ∧ fits x.X.Life ∧ fits x.X.Count
instance : RdOk rConvoyref16Outcome 5 := ⟨fun ⟨e, h0, h1, h2⟩ => by subst e; rfl, fun ⟨e, h0, h1, h2⟩ => by subst e; simp only [List.all_cons, List.all_nil]; rfl, fun hl ⟨e, h0, h1, h2⟩ => ⟨e, h0, h1, h2⟩⟩
def zConvoyref16Outcome : Convoyref16Outcome := ⟨⟨0, 0, 0⟩, false, false⟩
theorem zConvoyref16Outcome_reads {H : Heap} : rConvoyref16Outcome H [.int .i64 0, .int .i64 0, .int .i64 0, .bool false, .bool false] zConvoyref16Outcome := ⟨rfl, fits0, fits0, fits0⟩
theorem rds_Convoyref16Outcome : Rds Try.prog 133 rConvoyref16Outcome := by
  intro H enc W fuel cs d ps h hw
  have hst := Try.underlying133
  obtain ⟨hlen, he⟩ := trod_fields hst h hw
  have hl : cs.length = 5 := hlen.trans (by kernel_rfl)
  obtain ⟨y0, hy0⟩ := he 0 _ rfl 0 3 ⟨rfl, by kernel_rfl⟩ rds_Txn
  obtain ⟨y1, hy1⟩ := he 1 _ rfl 3 1 ⟨rfl, by kernel_rfl⟩ (rds_bool Try.underlying4)
  obtain ⟨y2, hy2⟩ := he 2 _ rfl 4 1 ⟨rfl, by kernel_rfl⟩ (rds_bool Try.underlying4)
  obtain ⟨e0, k0_0, k0_1, k0_2⟩ := hy0
  have t0 := cutd (o' := 3) e0 rfl
  have e1 := hy1
  have t1 := cutd (o' := 4) e1 rfl
  have e2 := hy2
  have t2 := cutd (o' := 5) e2 rfl
  refine ⟨⟨y0, y1, y2⟩, ⟨?_, k0_0, k0_1, k0_2⟩⟩
  refine t0.trans ?_
  rw [t1, t2, List.drop_eq_nil_of_le (Nat.le_of_eq hl)]
  try rfl
end Go.Proofs.Ythoafjeampbkeaa
