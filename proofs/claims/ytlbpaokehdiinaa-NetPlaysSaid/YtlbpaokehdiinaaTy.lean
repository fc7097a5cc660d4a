/- Written by program (gen_types.py): the values of this seat's types, and how they lie in memory. -/
import Derived.Test.YtlbpaokehdiinaaInst
set_option linter.unusedVariables false
set_option linter.unusedSimpArgs false
namespace Go.Proofs.Ytlbpaokehdiinaa
open Go Go.Sx Go.Proofs
/-- convoy/api.Txn -/
structure Txn where
  Node : Int
  Life : Int
  Count : Int
  deriving DecidableEq
abbrev Txn.cv (x : Txn) : List Value := [.int .i64 x.Node, .int .i64 x.Life, .int .i64 x.Count]
def rTxn : Rd Txn := fun H c x => c = x.cv ∧ fits x.Node ∧ fits x.Life ∧ fits x.Count
instance : RdOk rTxn 3 := ⟨fun ⟨e, h0, h1, h2⟩ => by subst e; rfl, fun ⟨e, h0, h1, h2⟩ => by subst e; simp only [List.all_cons, List.all_nil]; rfl, fun hl ⟨e, h0, h1, h2⟩ => ⟨e, h0, h1, h2⟩⟩
def zTxn : Txn := ⟨0, 0, 0⟩
theorem zTxn_reads {H : Heap} : rTxn H [.int .i64 0, .int .i64 0, .int .i64 0] zTxn := ⟨rfl, fits0, fits0, fits0⟩
theorem rds_Txn : Rds Try.prog 30 rTxn := by
  intro H enc W fuel cs d ps h hw
  have hst := Try.underlying30
  obtain ⟨hlen, he⟩ := trod_fields hst h hw
  have hl : cs.length = 3 := hlen.trans (by kernel_rfl)
  obtain ⟨y0, hy0⟩ := he 0 _ rfl 0 1 ⟨rfl, by kernel_rfl⟩ (rds_int Try.underlying3)
  obtain ⟨y1, hy1⟩ := he 1 _ rfl 1 1 ⟨rfl, by kernel_rfl⟩ (rds_int Try.underlying3)
  obtain ⟨y2, hy2⟩ := he 2 _ rfl 2 1 ⟨rfl, by kernel_rfl⟩ (rds_int Try.underlying3)
  obtain ⟨e0, k0_0⟩ := hy0
  have t0 := cutd (o' := 1) e0 rfl
  obtain ⟨e1, k1_0⟩ := hy1
  have t1 := cutd (o' := 2) e1 rfl
  obtain ⟨e2, k2_0⟩ := hy2
  have t2 := cutd (o' := 3) e2 rfl
  refine ⟨⟨y0, y1, y2⟩, ⟨?_, k0_0, k1_0, k2_0⟩⟩
  refine t0.trans ?_
  rw [t1, t2, List.drop_eq_nil_of_le (Nat.le_of_eq hl)]
  try rfl
/-- convoy/api.Work -/
structure Work where
  Robot : Int
  Take : (List ByteArray)
  Drop : (List ByteArray)
  deriving DecidableEq
abbrev Work.cv (x : Work) (s1 : Value) (s2 : Value) : List Value := [.int .i64 x.Robot, s1, s2]
def rWork : Rd Work := fun H c x => ∃ s1 s2, c = x.cv s1 s2 ∧ fits x.Robot ∧ SlB rStr 1 16 H s1 x.Take ∧ SlB rStr 1 16 H s2 x.Drop
instance : RdOk rWork 3 := ⟨fun ⟨s1, s2, e, h0, h1, h2⟩ => by subst e; rfl, fun ⟨s1, s2, e, h0, h1, h2⟩ => by subst e; simp only [List.all_cons, List.all_nil, slb_one h1, slb_one h2]; rfl, fun hl ⟨s1, s2, e, h0, h1, h2⟩ => ⟨s1, s2, e, h0, h1.mono hl, h2.mono hl⟩⟩
def zWork : Work := ⟨0, [], []⟩
theorem zWork_reads {H : Heap} : rWork H [.int .i64 0, .slice none 0 0, .slice none 0 0] zWork := ⟨nilS, nilS, rfl, fits0, SlB.nil, SlB.nil⟩
theorem rds_Work : Rds Try.prog 33 rWork := by
  intro H enc W fuel cs d ps h hw
  have hst := Try.underlying33
  obtain ⟨hlen, he⟩ := trod_fields hst h hw
  have hl : cs.length = 3 := hlen.trans (by kernel_rfl)
  obtain ⟨y0, hy0⟩ := he 0 _ rfl 0 1 ⟨rfl, by kernel_rfl⟩ (rds_int Try.underlying3)
  obtain ⟨y1, hy1⟩ := he 1 _ rfl 1 1 ⟨rfl, by kernel_rfl⟩ (rds_slice Try.underlying31 (by kernel_rfl) (by kernel_rfl) (by decide) (rds_str Try.underlying9))
  obtain ⟨y2, hy2⟩ := he 2 _ rfl 2 1 ⟨rfl, by kernel_rfl⟩ (rds_slice Try.underlying31 (by kernel_rfl) (by kernel_rfl) (by decide) (rds_str Try.underlying9))
  obtain ⟨e0, k0_0⟩ := hy0
  have t0 := cutd (o' := 1) e0 rfl
  obtain ⟨v1_0, e1, k1_0⟩ := hy1
  have t1 := cutd (o' := 2) e1 rfl
  obtain ⟨v2_0, e2, k2_0⟩ := hy2
  have t2 := cutd (o' := 3) e2 rfl
  refine ⟨⟨y0, y1, y2⟩, ⟨v1_0, v2_0, ?_, k0_0, k1_0, k2_0⟩⟩
  refine t0.trans ?_
  rw [t1, t2, List.drop_eq_nil_of_le (Nat.le_of_eq hl)]
  try rfl
/-- convoy/api.Route -/
structure Route where
  Start : Int
  Cells : (List Int)
  deriving DecidableEq
abbrev Route.cv (x : Route) (s1 : Value) : List Value := [.int .i64 x.Start, s1]
def rRoute : Rd Route := fun H c x => ∃ s1, c = x.cv s1 ∧ fits x.Start ∧ SlB rInt 1 8 H s1 x.Cells
instance : RdOk rRoute 2 := ⟨fun ⟨s1, e, h0, h1⟩ => by subst e; rfl, fun ⟨s1, e, h0, h1⟩ => by subst e; simp only [List.all_cons, List.all_nil, slb_one h1]; rfl, fun hl ⟨s1, e, h0, h1⟩ => ⟨s1, e, h0, h1.mono hl⟩⟩
def zRoute : Route := ⟨0, []⟩
theorem zRoute_reads {H : Heap} : rRoute H [.int .i64 0, .slice none 0 0] zRoute := ⟨nilS, rfl, fits0, SlB.nil⟩
theorem rds_Route : Rds Try.prog 36 rRoute := by
  intro H enc W fuel cs d ps h hw
  have hst := Try.underlying36
  obtain ⟨hlen, he⟩ := trod_fields hst h hw
  have hl : cs.length = 2 := hlen.trans (by kernel_rfl)
  obtain ⟨y0, hy0⟩ := he 0 _ rfl 0 1 ⟨rfl, by kernel_rfl⟩ (rds_int Try.underlying3)
  obtain ⟨y1, hy1⟩ := he 1 _ rfl 1 1 ⟨rfl, by kernel_rfl⟩ (rds_slice Try.underlying22 (by kernel_rfl) (by kernel_rfl) (by decide) (rds_int Try.underlying3))
  obtain ⟨e0, k0_0⟩ := hy0
  have t0 := cutd (o' := 1) e0 rfl
  obtain ⟨v1_0, e1, k1_0⟩ := hy1
  have t1 := cutd (o' := 2) e1 rfl
  refine ⟨⟨y0, y1⟩, ⟨v1_0, ?_, k0_0, k1_0⟩⟩
  refine t0.trans ?_
  rw [t1, List.drop_eq_nil_of_le (Nat.le_of_eq hl)]
  try rfl
/-- convoy/api.Call -/
structure Call where
  Verb : Int
  Epoch : Int
  Route : Route
  deriving DecidableEq
abbrev Call.cv (x : Call) (s1 : Value) : List Value := [.int .i64 x.Verb, .int .i64 x.Epoch, .int .i64 x.Route.Start, s1]
def rCall : Rd Call := fun H c x => ∃ s1, c = x.cv s1 ∧ fits x.Verb ∧ fits x.Epoch ∧ fits x.Route.Start ∧ SlB rInt 1 8 H s1 x.Route.Cells
instance : RdOk rCall 4 := ⟨fun ⟨s1, e, h0, h1, h2, h3⟩ => by subst e; rfl, fun ⟨s1, e, h0, h1, h2, h3⟩ => by subst e; simp only [List.all_cons, List.all_nil, slb_one h3]; rfl, fun hl ⟨s1, e, h0, h1, h2, h3⟩ => ⟨s1, e, h0, h1, h2, h3.mono hl⟩⟩
def zCall : Call := ⟨0, 0, ⟨0, []⟩⟩
theorem zCall_reads {H : Heap} : rCall H [.int .i64 0, .int .i64 0, .int .i64 0, .slice none 0 0] zCall := ⟨nilS, rfl, fits0, fits0, fits0, SlB.nil⟩
theorem rds_Call : Rds Try.prog 38 rCall := by
  intro H enc W fuel cs d ps h hw
  have hst := Try.underlying38
  obtain ⟨hlen, he⟩ := trod_fields hst h hw
  have hl : cs.length = 4 := hlen.trans (by kernel_rfl)
  obtain ⟨y0, hy0⟩ := he 0 _ rfl 0 1 ⟨rfl, by kernel_rfl⟩ (rds_int Try.underlying34)
  obtain ⟨y1, hy1⟩ := he 1 _ rfl 1 1 ⟨rfl, by kernel_rfl⟩ (rds_int Try.underlying3)
  obtain ⟨y2, hy2⟩ := he 2 _ rfl 2 2 ⟨rfl, by kernel_rfl⟩ rds_Route
  obtain ⟨e0, k0_0⟩ := hy0
  have t0 := cutd (o' := 1) e0 rfl
  obtain ⟨e1, k1_0⟩ := hy1
  have t1 := cutd (o' := 2) e1 rfl
  obtain ⟨v2_0, e2, k2_0, k2_1⟩ := hy2
  have t2 := cutd (o' := 4) e2 rfl
  refine ⟨⟨y0, y1, y2⟩, ⟨v2_0, ?_, k0_0, k1_0, k2_0, k2_1⟩⟩
  refine t0.trans ?_
  rw [t1, t2, List.drop_eq_nil_of_le (Nat.le_of_eq hl)]
  try rfl
/-- convoy/api.Reply -/
structure Reply where
  Code : Int
  Epoch : Int
  Route : Route
  deriving DecidableEq
abbrev Reply.cv (x : Reply) (s1 : Value) : List Value := [.int .i64 x.Code, .int .i64 x.Epoch, .int .i64 x.Route.Start, s1]
def rReply : Rd Reply := fun H c x => ∃ s1, c = x.cv s1 ∧ fits x.Code ∧ fits x.Epoch ∧ fits x.Route.Start ∧ SlB rInt 1 8 H s1 x.Route.Cells
instance : RdOk rReply 4 := ⟨fun ⟨s1, e, h0, h1, h2, h3⟩ => by subst e; rfl, fun ⟨s1, e, h0, h1, h2, h3⟩ => by subst e; simp only [List.all_cons, List.all_nil, slb_one h3]; rfl, fun hl ⟨s1, e, h0, h1, h2, h3⟩ => ⟨s1, e, h0, h1, h2, h3.mono hl⟩⟩
def zReply : Reply := ⟨0, 0, ⟨0, []⟩⟩
theorem zReply_reads {H : Heap} : rReply H [.int .i64 0, .int .i64 0, .int .i64 0, .slice none 0 0] zReply := ⟨nilS, rfl, fits0, fits0, fits0, SlB.nil⟩
theorem rds_Reply : Rds Try.prog 40 rReply := by
  intro H enc W fuel cs d ps h hw
  have hst := Try.underlying40
  obtain ⟨hlen, he⟩ := trod_fields hst h hw
  have hl : cs.length = 4 := hlen.trans (by kernel_rfl)
  obtain ⟨y0, hy0⟩ := he 0 _ rfl 0 1 ⟨rfl, by kernel_rfl⟩ (rds_int Try.underlying26)
  obtain ⟨y1, hy1⟩ := he 1 _ rfl 1 1 ⟨rfl, by kernel_rfl⟩ (rds_int Try.underlying3)
  obtain ⟨y2, hy2⟩ := he 2 _ rfl 2 2 ⟨rfl, by kernel_rfl⟩ rds_Route
  obtain ⟨e0, k0_0⟩ := hy0
  have t0 := cutd (o' := 1) e0 rfl
  obtain ⟨e1, k1_0⟩ := hy1
  have t1 := cutd (o' := 2) e1 rfl
  obtain ⟨v2_0, e2, k2_0, k2_1⟩ := hy2
  have t2 := cutd (o' := 4) e2 rfl
  refine ⟨⟨y0, y1, y2⟩, ⟨v2_0, ?_, k0_0, k1_0, k2_0, k2_1⟩⟩
  refine t0.trans ?_
  rw [t1, t2, List.drop_eq_nil_of_le (Nat.le_of_eq hl)]
  try rfl
/-- convoy/api.Message -/
structure Message where
  From : Int
  To : Int
  Kind : Int
  Txn : Txn
  Work : Work
  Yes : Bool
  ID : Int
  Call : Call
  Reply : Reply
  deriving DecidableEq
abbrev Message.cv (x : Message) (s1 : Value) (s2 : Value) (s3 : Value) (s4 : Value) : List Value := [.int .i64 x.From, .int .i64 x.To, .int .i64 x.Kind, .int .i64 x.Txn.Node, .int .i64 x.Txn.Life, .int .i64 x.Txn.Count, .int .i64 x.Work.Robot, s1, s2, .bool x.Yes, .int .i64 x.ID, .int .i64 x.Call.Verb, .int .i64 x.Call.Epoch, .int .i64 x.Call.Route.Start, s3, .int .i64 x.Reply.Code, .int .i64 x.Reply.Epoch, .int .i64 x.Reply.Route.Start, s4]
def rMessage : Rd Message := fun H c x => ∃ s1 s2 s3 s4, c = x.cv s1 s2 s3 s4 ∧ fits x.From ∧ fits x.To ∧ fits x.Kind ∧ fits x.Txn.Node ∧ fits x.Txn.Life ∧ fits x.Txn.Count ∧ fits x.Work.Robot ∧ SlB rStr 1 16 H s1 x.Work.Take ∧ SlB rStr 1 16 H s2 x.Work.Drop ∧ fits x.ID ∧ fits x.Call.Verb ∧ fits x.Call.Epoch ∧ fits x.Call.Route.Start ∧ SlB rInt 1 8 H s3 x.Call.Route.Cells ∧ fits x.Reply.Code ∧ fits x.Reply.Epoch ∧ fits x.Reply.Route.Start ∧ SlB rInt 1 8 H s4 x.Reply.Route.Cells
instance : RdOk rMessage 19 := ⟨fun ⟨s1, s2, s3, s4, e, h0, h1, h2, h3, h4, h5, h6, h7, h8, h9, h10, h11, h12, h13, h14, h15, h16, h17⟩ => by subst e; rfl, fun ⟨s1, s2, s3, s4, e, h0, h1, h2, h3, h4, h5, h6, h7, h8, h9, h10, h11, h12, h13, h14, h15, h16, h17⟩ => by subst e; simp only [List.all_cons, List.all_nil, slb_one h7, slb_one h8, slb_one h13, slb_one h17]; rfl, fun hl ⟨s1, s2, s3, s4, e, h0, h1, h2, h3, h4, h5, h6, h7, h8, h9, h10, h11, h12, h13, h14, h15, h16, h17⟩ => ⟨s1, s2, s3, s4, e, h0, h1, h2, h3, h4, h5, h6, h7.mono hl, h8.mono hl, h9, h10, h11, h12, h13.mono hl, h14, h15, h16, h17.mono hl⟩⟩
def zMessage : Message := ⟨0, 0, 0, ⟨0, 0, 0⟩, ⟨0, [], []⟩, false, 0, ⟨0, 0, ⟨0, []⟩⟩, ⟨0, 0, ⟨0, []⟩⟩⟩
theorem zMessage_reads {H : Heap} : rMessage H [.int .i64 0, .int .i64 0, .int .i64 0, .int .i64 0, .int .i64 0, .int .i64 0, .int .i64 0, .slice none 0 0, .slice none 0 0, .bool false, .int .i64 0, .int .i64 0, .int .i64 0, .int .i64 0, .slice none 0 0, .int .i64 0, .int .i64 0, .int .i64 0, .slice none 0 0] zMessage := ⟨nilS, nilS, nilS, nilS, rfl, fits0, fits0, fits0, fits0, fits0, fits0, fits0, SlB.nil, SlB.nil, fits0, fits0, fits0, fits0, SlB.nil, fits0, fits0, fits0, SlB.nil⟩
theorem rds_Message : Rds Try.prog 42 rMessage := by
  intro H enc W fuel cs d ps h hw
  have hst := Try.underlying42
  obtain ⟨hlen, he⟩ := trod_fields hst h hw
  have hl : cs.length = 19 := hlen.trans (by kernel_rfl)
  obtain ⟨y0, hy0⟩ := he 0 _ rfl 0 1 ⟨rfl, by kernel_rfl⟩ (rds_int Try.underlying3)
  obtain ⟨y1, hy1⟩ := he 1 _ rfl 1 1 ⟨rfl, by kernel_rfl⟩ (rds_int Try.underlying3)
  obtain ⟨y2, hy2⟩ := he 2 _ rfl 2 1 ⟨rfl, by kernel_rfl⟩ (rds_int Try.underlying28)
  obtain ⟨y3, hy3⟩ := he 3 _ rfl 3 3 ⟨rfl, by kernel_rfl⟩ rds_Txn
  obtain ⟨y4, hy4⟩ := he 4 _ rfl 6 3 ⟨rfl, by kernel_rfl⟩ rds_Work
  obtain ⟨y5, hy5⟩ := he 5 _ rfl 9 1 ⟨rfl, by kernel_rfl⟩ (rds_bool Try.underlying4)
  obtain ⟨y6, hy6⟩ := he 6 _ rfl 10 1 ⟨rfl, by kernel_rfl⟩ (rds_int Try.underlying3)
  obtain ⟨y7, hy7⟩ := he 7 _ rfl 11 4 ⟨rfl, by kernel_rfl⟩ rds_Call
  obtain ⟨y8, hy8⟩ := he 8 _ rfl 15 4 ⟨rfl, by kernel_rfl⟩ rds_Reply
  obtain ⟨e0, k0_0⟩ := hy0
  have t0 := cutd (o' := 1) e0 rfl
  obtain ⟨e1, k1_0⟩ := hy1
  have t1 := cutd (o' := 2) e1 rfl
  obtain ⟨e2, k2_0⟩ := hy2
  have t2 := cutd (o' := 3) e2 rfl
  obtain ⟨e3, k3_0, k3_1, k3_2⟩ := hy3
  have t3 := cutd (o' := 6) e3 rfl
  obtain ⟨v4_0, v4_1, e4, k4_0, k4_1, k4_2⟩ := hy4
  have t4 := cutd (o' := 9) e4 rfl
  have e5 := hy5
  have t5 := cutd (o' := 10) e5 rfl
  obtain ⟨e6, k6_0⟩ := hy6
  have t6 := cutd (o' := 11) e6 rfl
  obtain ⟨v7_0, e7, k7_0, k7_1, k7_2, k7_3⟩ := hy7
  have t7 := cutd (o' := 15) e7 rfl
  obtain ⟨v8_0, e8, k8_0, k8_1, k8_2, k8_3⟩ := hy8
  have t8 := cutd (o' := 19) e8 rfl
  refine ⟨⟨y0, y1, y2, y3, y4, y5, y6, y7, y8⟩, ⟨v4_0, v4_1, v7_0, v8_0, ?_, k0_0, k1_0, k2_0, k3_0, k3_1, k3_2, k4_0, k4_1, k4_2, k6_0, k7_0, k7_1, k7_2, k7_3, k8_0, k8_1, k8_2, k8_3⟩⟩
  refine t0.trans ?_
  rw [t1, t2, t3, t4, t5, t6, t7, t8, List.drop_eq_nil_of_le (Nat.le_of_eq hl)]
  try rfl
/-- convoy/convoylaw10.Op -/
structure Op where
  Kind : Int
  I : Int
  M : Message
  deriving DecidableEq
abbrev Op.cv (x : Op) (s1 : Value) (s2 : Value) (s3 : Value) (s4 : Value) : List Value := [.int .i64 x.Kind, .int .i64 x.I, .int .i64 x.M.From, .int .i64 x.M.To, .int .i64 x.M.Kind, .int .i64 x.M.Txn.Node, .int .i64 x.M.Txn.Life, .int .i64 x.M.Txn.Count, .int .i64 x.M.Work.Robot, s1, s2, .bool x.M.Yes, .int .i64 x.M.ID, .int .i64 x.M.Call.Verb, .int .i64 x.M.Call.Epoch, .int .i64 x.M.Call.Route.Start, s3, .int .i64 x.M.Reply.Code, .int .i64 x.M.Reply.Epoch, .int .i64 x.M.Reply.Route.Start, s4]
def rOp : Rd Op := fun H c x => ∃ s1 s2 s3 s4, c = x.cv s1 s2 s3 s4 ∧ fits x.Kind ∧ fits x.I ∧ fits x.M.From ∧ fits x.M.To ∧ fits x.M.Kind ∧ fits x.M.Txn.Node ∧ fits x.M.Txn.Life ∧ fits x.M.Txn.Count ∧ fits x.M.Work.Robot ∧ SlB rStr 1 16 H s1 x.M.Work.Take ∧ SlB rStr 1 16 H s2 x.M.Work.Drop ∧ fits x.M.ID ∧ fits x.M.Call.Verb ∧ fits x.M.Call.Epoch ∧ fits x.M.Call.Route.Start ∧ SlB rInt 1 8 H s3 x.M.Call.Route.Cells ∧ fits x.M.Reply.Code ∧ fits x.M.Reply.Epoch ∧ fits x.M.Reply.Route.Start ∧ SlB rInt 1 8 H s4 x.M.Reply.Route.Cells
instance : RdOk rOp 21 := ⟨fun ⟨s1, s2, s3, s4, e, h0, h1, h2, h3, h4, h5, h6, h7, h8, h9, h10, h11, h12, h13, h14, h15, h16, h17, h18, h19⟩ => by subst e; rfl, fun ⟨s1, s2, s3, s4, e, h0, h1, h2, h3, h4, h5, h6, h7, h8, h9, h10, h11, h12, h13, h14, h15, h16, h17, h18, h19⟩ => by subst e; simp only [List.all_cons, List.all_nil, slb_one h9, slb_one h10, slb_one h15, slb_one h19]; rfl, fun hl ⟨s1, s2, s3, s4, e, h0, h1, h2, h3, h4, h5, h6, h7, h8, h9, h10, h11, h12, h13, h14, h15, h16, h17, h18, h19⟩ => ⟨s1, s2, s3, s4, e, h0, h1, h2, h3, h4, h5, h6, h7, h8, h9.mono hl, h10.mono hl, h11, h12, h13, h14, h15.mono hl, h16, h17, h18, h19.mono hl⟩⟩
def zOp : Op := ⟨0, 0, ⟨0, 0, 0, ⟨0, 0, 0⟩, ⟨0, [], []⟩, false, 0, ⟨0, 0, ⟨0, []⟩⟩, ⟨0, 0, ⟨0, []⟩⟩⟩⟩
theorem zOp_reads {H : Heap} : rOp H [.int .i64 0, .int .i64 0, .int .i64 0, .int .i64 0, .int .i64 0, .int .i64 0, .int .i64 0, .int .i64 0, .int .i64 0, .slice none 0 0, .slice none 0 0, .bool false, .int .i64 0, .int .i64 0, .int .i64 0, .int .i64 0, .slice none 0 0, .int .i64 0, .int .i64 0, .int .i64 0, .slice none 0 0] zOp := ⟨nilS, nilS, nilS, nilS, rfl, fits0, fits0, fits0, fits0, fits0, fits0, fits0, fits0, fits0, SlB.nil, SlB.nil, fits0, fits0, fits0, fits0, SlB.nil, fits0, fits0, fits0, SlB.nil⟩
theorem rds_Op : Rds Try.prog 60 rOp := by
  intro H enc W fuel cs d ps h hw
  have hst := Try.underlying60
  obtain ⟨hlen, he⟩ := trod_fields hst h hw
  have hl : cs.length = 21 := hlen.trans (by kernel_rfl)
  obtain ⟨y0, hy0⟩ := he 0 _ rfl 0 1 ⟨rfl, by kernel_rfl⟩ (rds_int Try.underlying3)
  obtain ⟨y1, hy1⟩ := he 1 _ rfl 1 1 ⟨rfl, by kernel_rfl⟩ (rds_int Try.underlying3)
  obtain ⟨y2, hy2⟩ := he 2 _ rfl 2 19 ⟨rfl, by kernel_rfl⟩ rds_Message
  obtain ⟨e0, k0_0⟩ := hy0
  have t0 := cutd (o' := 1) e0 rfl
  obtain ⟨e1, k1_0⟩ := hy1
  have t1 := cutd (o' := 2) e1 rfl
  obtain ⟨v2_0, v2_1, v2_2, v2_3, e2, k2_0, k2_1, k2_2, k2_3, k2_4, k2_5, k2_6, k2_7, k2_8, k2_9, k2_10, k2_11, k2_12, k2_13, k2_14, k2_15, k2_16, k2_17⟩ := hy2
  have t2 := cutd (o' := 21) e2 rfl
  refine ⟨⟨y0, y1, y2⟩, ⟨v2_0, v2_1, v2_2, v2_3, ?_, k0_0, k1_0, k2_0, k2_1, k2_2, k2_3, k2_4, k2_5, k2_6, k2_7, k2_8, k2_9, k2_10, k2_11, k2_12, k2_13, k2_14, k2_15, k2_16, k2_17⟩⟩
  refine t0.trans ?_
  rw [t1, t2, List.drop_eq_nil_of_le (Nat.le_of_eq hl)]
  try rfl
/-- convoy/simnet.Net -/
structure Net where
  flight : (List Message)
  deriving DecidableEq
abbrev Net.cv (x : Net) (s1 : Value) : List Value := [s1]
def rNet : Rd Net := fun H c x => ∃ s1, c = x.cv s1 ∧ SlB rMessage 19 216 H s1 x.flight
instance : RdOk rNet 1 := ⟨fun ⟨s1, e, h0⟩ => by subst e; rfl, fun ⟨s1, e, h0⟩ => by subst e; simp only [List.all_cons, List.all_nil, slb_one h0]; rfl, fun hl ⟨s1, e, h0⟩ => ⟨s1, e, h0.mono hl⟩⟩
def zNet : Net := ⟨[]⟩
theorem zNet_reads {H : Heap} : rNet H [.slice none 0 0] zNet := ⟨nilS, rfl, SlB.nil⟩
theorem rds_Net : Rds Try.prog 65 rNet := by
  intro H enc W fuel cs d ps h hw
  have hst := Try.underlying65
  obtain ⟨hlen, he⟩ := trod_fields hst h hw
  have hl : cs.length = 1 := hlen.trans (by kernel_rfl)
  obtain ⟨y0, hy0⟩ := he 0 _ rfl 0 1 ⟨rfl, by kernel_rfl⟩ (rds_slice Try.underlying56 (by kernel_rfl) (by kernel_rfl) (by decide) rds_Message)
  obtain ⟨v0_0, e0, k0_0⟩ := hy0
  have t0 := cutd (o' := 1) e0 rfl
  refine ⟨⟨y0⟩, ⟨v0_0, ?_, k0_0⟩⟩
  refine t0.trans ?_
  rw [List.drop_eq_nil_of_le (Nat.le_of_eq hl)]
  try rfl
end Go.Proofs.Ytlbpaokehdiinaa
