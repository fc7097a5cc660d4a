/- Written by program (gen_types.py): the values of this seat's types, and how they lie in memory. -/
import Derived.Test.YtjgjcakeimkkdaaGreatDoorInst
set_option linter.unusedVariables false
set_option linter.unusedSimpArgs false
namespace Go.Proofs.YtjgjcakeimkkdaaGreatDoor
open Go Go.Sx Go.Proofs
/-- convoy/api.Txn -/
structure Txn where
  Node : Int
  Life : Int
  Count : Int
  deriving DecidableEq
abbrev Txn.cv (x : Txn) : List Value := [.int .i64 x.Node, .int .i64 x.Life, .int .i64 x.Count]
def rTxn : Rd Txn := fun H c x => c = x.cv ∧ fits x.Node ∧ fits x.Life ∧ fits x.Count
instance : RdOk rTxn 3 := ⟨fun ⟨e, h0, h1, h2⟩ => by subst e; rfl, fun ⟨e, h0, h1, h2⟩ => by subst e; simp only [List.all_cons, List.all_nil]; rfl, fun hl ⟨e, h0, h1, h2⟩ => ⟨e, h0, h1, h2⟩⟩
def zTxn : Txn := ⟨0, 0, 0⟩
theorem zTxn_reads {H : Heap} : rTxn H [.int .i64 0, .int .i64 0, .int .i64 0] zTxn := ⟨rfl, fits0, fits0, fits0⟩
theorem rds_Txn : Rds Tryz.prog 29 rTxn := by
  intro H enc W fuel cs d ps h hw
  have hst := Tryz.underlying29
  obtain ⟨hlen, he⟩ := trod_fields hst h hw
  have hl : cs.length = 3 := hlen.trans (by kernel_rfl)
  obtain ⟨y0, hy0⟩ := he 0 _ rfl 0 1 ⟨rfl, by kernel_rfl⟩ (rds_int Tryz.underlying3)
  obtain ⟨y1, hy1⟩ := he 1 _ rfl 1 1 ⟨rfl, by kernel_rfl⟩ (rds_int Tryz.underlying3)
  obtain ⟨y2, hy2⟩ := he 2 _ rfl 2 1 ⟨rfl, by kernel_rfl⟩ (rds_int Tryz.underlying3)
  obtain ⟨e0, k0_0⟩ := hy0
  have t0 := cutd (o' := 1) e0 rfl
  obtain ⟨e1, k1_0⟩ := hy1
  have t1 := cutd (o' := 2) e1 rfl
  obtain ⟨e2, k2_0⟩ := hy2
  have t2 := cutd (o' := 3) e2 rfl
  refine ⟨⟨y0, y1, y2⟩, ⟨?_, k0_0, k1_0, k2_0⟩⟩
  refine t0.trans ?_
  rw [t1, t2, List.drop_eq_nil_of_le (Nat.le_of_eq hl)]
  try rfl
/-- convoy/api.Work -/
structure Work where
  Robot : Int
  Take : (List ByteArray)
  Drop : (List ByteArray)
  deriving DecidableEq
abbrev Work.cv (x : Work) (s1 : Value) (s2 : Value) : List Value := [.int .i64 x.Robot, s1, s2]
def rWork : Rd Work := fun H c x => ∃ s1 s2, c = x.cv s1 s2 ∧ fits x.Robot ∧ SlB rStr 1 16 H s1 x.Take ∧ SlB rStr 1 16 H s2 x.Drop
instance : RdOk rWork 3 := ⟨fun ⟨s1, s2, e, h0, h1, h2⟩ => by subst e; rfl, fun ⟨s1, s2, e, h0, h1, h2⟩ => by subst e; simp only [List.all_cons, List.all_nil, slb_one h1, slb_one h2]; rfl, fun hl ⟨s1, s2, e, h0, h1, h2⟩ => ⟨s1, s2, e, h0, h1.mono hl, h2.mono hl⟩⟩
def zWork : Work := ⟨0, [], []⟩
theorem zWork_reads {H : Heap} : rWork H [.int .i64 0, .slice none 0 0, .slice none 0 0] zWork := ⟨nilS, nilS, rfl, fits0, SlB.nil, SlB.nil⟩
theorem rds_Work : Rds Tryz.prog 32 rWork := by
  intro H enc W fuel cs d ps h hw
  have hst := Tryz.underlying32
  obtain ⟨hlen, he⟩ := trod_fields hst h hw
  have hl : cs.length = 3 := hlen.trans (by kernel_rfl)
  obtain ⟨y0, hy0⟩ := he 0 _ rfl 0 1 ⟨rfl, by kernel_rfl⟩ (rds_int Tryz.underlying3)
  obtain ⟨y1, hy1⟩ := he 1 _ rfl 1 1 ⟨rfl, by kernel_rfl⟩ (rds_slice Tryz.underlying30 (by kernel_rfl) (by kernel_rfl) (by decide) (rds_str Tryz.underlying9))
  obtain ⟨y2, hy2⟩ := he 2 _ rfl 2 1 ⟨rfl, by kernel_rfl⟩ (rds_slice Tryz.underlying30 (by kernel_rfl) (by kernel_rfl) (by decide) (rds_str Tryz.underlying9))
  obtain ⟨e0, k0_0⟩ := hy0
  have t0 := cutd (o' := 1) e0 rfl
  obtain ⟨v1_0, e1, k1_0⟩ := hy1
  have t1 := cutd (o' := 2) e1 rfl
  obtain ⟨v2_0, e2, k2_0⟩ := hy2
  have t2 := cutd (o' := 3) e2 rfl
  refine ⟨⟨y0, y1, y2⟩, ⟨v1_0, v2_0, ?_, k0_0, k1_0, k2_0⟩⟩
  refine t0.trans ?_
  rw [t1, t2, List.drop_eq_nil_of_le (Nat.le_of_eq hl)]
  try rfl
/-- convoy/api.Route -/
structure Route where
  Start : Int
  Cells : (List Int)
  deriving DecidableEq
abbrev Route.cv (x : Route) (s1 : Value) : List Value := [.int .i64 x.Start, s1]
def rRoute : Rd Route := fun H c x => ∃ s1, c = x.cv s1 ∧ fits x.Start ∧ SlB rInt 1 8 H s1 x.Cells
instance : RdOk rRoute 2 := ⟨fun ⟨s1, e, h0, h1⟩ => by subst e; rfl, fun ⟨s1, e, h0, h1⟩ => by subst e; simp only [List.all_cons, List.all_nil, slb_one h1]; rfl, fun hl ⟨s1, e, h0, h1⟩ => ⟨s1, e, h0, h1.mono hl⟩⟩
def zRoute : Route := ⟨0, []⟩
theorem zRoute_reads {H : Heap} : rRoute H [.int .i64 0, .slice none 0 0] zRoute := ⟨nilS, rfl, fits0, SlB.nil⟩
theorem rds_Route : Rds Tryz.prog 36 rRoute := by
  intro H enc W fuel cs d ps h hw
  have hst := Tryz.underlying36
  obtain ⟨hlen, he⟩ := trod_fields hst h hw
  have hl : cs.length = 2 := hlen.trans (by kernel_rfl)
  obtain ⟨y0, hy0⟩ := he 0 _ rfl 0 1 ⟨rfl, by kernel_rfl⟩ (rds_int Tryz.underlying3)
  obtain ⟨y1, hy1⟩ := he 1 _ rfl 1 1 ⟨rfl, by kernel_rfl⟩ (rds_slice Tryz.underlying34 (by kernel_rfl) (by kernel_rfl) (by decide) (rds_int Tryz.underlying3))
  obtain ⟨e0, k0_0⟩ := hy0
  have t0 := cutd (o' := 1) e0 rfl
  obtain ⟨v1_0, e1, k1_0⟩ := hy1
  have t1 := cutd (o' := 2) e1 rfl
  refine ⟨⟨y0, y1⟩, ⟨v1_0, ?_, k0_0, k1_0⟩⟩
  refine t0.trans ?_
  rw [t1, List.drop_eq_nil_of_le (Nat.le_of_eq hl)]
  try rfl
/-- convoy/api.Call -/
structure Call where
  Verb : Int
  Epoch : Int
  Route : Route
  deriving DecidableEq
abbrev Call.cv (x : Call) (s1 : Value) : List Value := [.int .i64 x.Verb, .int .i64 x.Epoch, .int .i64 x.Route.Start, s1]
def rCall : Rd Call := fun H c x => ∃ s1, c = x.cv s1 ∧ fits x.Verb ∧ fits x.Epoch ∧ fits x.Route.Start ∧ SlB rInt 1 8 H s1 x.Route.Cells
instance : RdOk rCall 4 := ⟨fun ⟨s1, e, h0, h1, h2, h3⟩ => by subst e; rfl, fun ⟨s1, e, h0, h1, h2, h3⟩ => by subst e; simp only [List.all_cons, List.all_nil, slb_one h3]; rfl, fun hl ⟨s1, e, h0, h1, h2, h3⟩ => ⟨s1, e, h0, h1, h2, h3.mono hl⟩⟩
def zCall : Call := ⟨0, 0, ⟨0, []⟩⟩
theorem zCall_reads {H : Heap} : rCall H [.int .i64 0, .int .i64 0, .int .i64 0, .slice none 0 0] zCall := ⟨nilS, rfl, fits0, fits0, fits0, SlB.nil⟩
theorem rds_Call : Rds Tryz.prog 38 rCall := by
  intro H enc W fuel cs d ps h hw
  have hst := Tryz.underlying38
  obtain ⟨hlen, he⟩ := trod_fields hst h hw
  have hl : cs.length = 4 := hlen.trans (by kernel_rfl)
  obtain ⟨y0, hy0⟩ := he 0 _ rfl 0 1 ⟨rfl, by kernel_rfl⟩ (rds_int Tryz.underlying33)
  obtain ⟨y1, hy1⟩ := he 1 _ rfl 1 1 ⟨rfl, by kernel_rfl⟩ (rds_int Tryz.underlying3)
  obtain ⟨y2, hy2⟩ := he 2 _ rfl 2 2 ⟨rfl, by kernel_rfl⟩ rds_Route
  obtain ⟨e0, k0_0⟩ := hy0
  have t0 := cutd (o' := 1) e0 rfl
  obtain ⟨e1, k1_0⟩ := hy1
  have t1 := cutd (o' := 2) e1 rfl
  obtain ⟨v2_0, e2, k2_0, k2_1⟩ := hy2
  have t2 := cutd (o' := 4) e2 rfl
  refine ⟨⟨y0, y1, y2⟩, ⟨v2_0, ?_, k0_0, k1_0, k2_0, k2_1⟩⟩
  refine t0.trans ?_
  rw [t1, t2, List.drop_eq_nil_of_le (Nat.le_of_eq hl)]
  try rfl
/-- convoy/api.Reply -/
structure Reply where
  Code : Int
  Epoch : Int
  Route : Route
  deriving DecidableEq
abbrev Reply.cv (x : Reply) (s1 : Value) : List Value := [.int .i64 x.Code, .int .i64 x.Epoch, .int .i64 x.Route.Start, s1]
def rReply : Rd Reply := fun H c x => ∃ s1, c = x.cv s1 ∧ fits x.Code ∧ fits x.Epoch ∧ fits x.Route.Start ∧ SlB rInt 1 8 H s1 x.Route.Cells
instance : RdOk rReply 4 := ⟨fun ⟨s1, e, h0, h1, h2, h3⟩ => by subst e; rfl, fun ⟨s1, e, h0, h1, h2, h3⟩ => by subst e; simp only [List.all_cons, List.all_nil, slb_one h3]; rfl, fun hl ⟨s1, e, h0, h1, h2, h3⟩ => ⟨s1, e, h0, h1, h2, h3.mono hl⟩⟩
def zReply : Reply := ⟨0, 0, ⟨0, []⟩⟩
theorem zReply_reads {H : Heap} : rReply H [.int .i64 0, .int .i64 0, .int .i64 0, .slice none 0 0] zReply := ⟨nilS, rfl, fits0, fits0, fits0, SlB.nil⟩
theorem rds_Reply : Rds Tryz.prog 41 rReply := by
  intro H enc W fuel cs d ps h hw
  have hst := Tryz.underlying41
  obtain ⟨hlen, he⟩ := trod_fields hst h hw
  have hl : cs.length = 4 := hlen.trans (by kernel_rfl)
  obtain ⟨y0, hy0⟩ := he 0 _ rfl 0 1 ⟨rfl, by kernel_rfl⟩ (rds_int Tryz.underlying39)
  obtain ⟨y1, hy1⟩ := he 1 _ rfl 1 1 ⟨rfl, by kernel_rfl⟩ (rds_int Tryz.underlying3)
  obtain ⟨y2, hy2⟩ := he 2 _ rfl 2 2 ⟨rfl, by kernel_rfl⟩ rds_Route
  obtain ⟨e0, k0_0⟩ := hy0
  have t0 := cutd (o' := 1) e0 rfl
  obtain ⟨e1, k1_0⟩ := hy1
  have t1 := cutd (o' := 2) e1 rfl
  obtain ⟨v2_0, e2, k2_0, k2_1⟩ := hy2
  have t2 := cutd (o' := 4) e2 rfl
  refine ⟨⟨y0, y1, y2⟩, ⟨v2_0, ?_, k0_0, k1_0, k2_0, k2_1⟩⟩
  refine t0.trans ?_
  rw [t1, t2, List.drop_eq_nil_of_le (Nat.le_of_eq hl)]
  try rfl
/-- convoy/api.Message -/
structure Message where
  From : Int
  To : Int
  Kind : Int
  Txn : Txn
  Work : Work
  Yes : Bool
  ID : Int
  Call : Call
  Reply : Reply
  deriving DecidableEq
abbrev Message.cv (x : Message) (s1 : Value) (s2 : Value) (s3 : Value) (s4 : Value) : List Value := [.int .i64 x.From, .int .i64 x.To, .int .i64 x.Kind, .int .i64 x.Txn.Node, .int .i64 x.Txn.Life, .int .i64 x.Txn.Count, .int .i64 x.Work.Robot, s1, s2, .bool x.Yes, .int .i64 x.ID, .int .i64 x.Call.Verb, .int .i64 x.Call.Epoch, .int .i64 x.Call.Route.Start, s3, .int .i64 x.Reply.Code, .int .i64 x.Reply.Epoch, .int .i64 x.Reply.Route.Start, s4]
def rMessage : Rd Message := fun H c x => ∃ s1 s2 s3 s4, c = x.cv s1 s2 s3 s4 ∧ fits x.From ∧ fits x.To ∧ fits x.Kind ∧ fits x.Txn.Node ∧ fits x.Txn.Life ∧ fits x.Txn.Count ∧ fits x.Work.Robot ∧ SlB rStr 1 16 H s1 x.Work.Take ∧ SlB rStr 1 16 H s2 x.Work.Drop ∧ fits x.ID ∧ fits x.Call.Verb ∧ fits x.Call.Epoch ∧ fits x.Call.Route.Start ∧ SlB rInt 1 8 H s3 x.Call.Route.Cells ∧ fits x.Reply.Code ∧ fits x.Reply.Epoch ∧ fits x.Reply.Route.Start ∧ SlB rInt 1 8 H s4 x.Reply.Route.Cells
instance : RdOk rMessage 19 := ⟨fun ⟨s1, s2, s3, s4, e, h0, h1, h2, h3, h4, h5, h6, h7, h8, h9, h10, h11, h12, h13, h14, h15, h16, h17⟩ => by subst e; rfl, fun ⟨s1, s2, s3, s4, e, h0, h1, h2, h3, h4, h5, h6, h7, h8, h9, h10, h11, h12, h13, h14, h15, h16, h17⟩ => by subst e; simp only [List.all_cons, List.all_nil, slb_one h7, slb_one h8, slb_one h13, slb_one h17]; rfl, fun hl ⟨s1, s2, s3, s4, e, h0, h1, h2, h3, h4, h5, h6, h7, h8, h9, h10, h11, h12, h13, h14, h15, h16, h17⟩ => ⟨s1, s2, s3, s4, e, h0, h1, h2, h3, h4, h5, h6, h7.mono hl, h8.mono hl, h9, h10, h11, h12, h13.mono hl, h14, h15, h16, h17.mono hl⟩⟩
def zMessage : Message := ⟨0, 0, 0, ⟨0, 0, 0⟩, ⟨0, [], []⟩, false, 0, ⟨0, 0, ⟨0, []⟩⟩, ⟨0, 0, ⟨0, []⟩⟩⟩
theorem zMessage_reads {H : Heap} : rMessage H [.int .i64 0, .int .i64 0, .int .i64 0, .int .i64 0, .int .i64 0, .int .i64 0, .int .i64 0, .slice none 0 0, .slice none 0 0, .bool false, .int .i64 0, .int .i64 0, .int .i64 0, .int .i64 0, .slice none 0 0, .int .i64 0, .int .i64 0, .int .i64 0, .slice none 0 0] zMessage := ⟨nilS, nilS, nilS, nilS, rfl, fits0, fits0, fits0, fits0, fits0, fits0, fits0, SlB.nil, SlB.nil, fits0, fits0, fits0, fits0, SlB.nil, fits0, fits0, fits0, SlB.nil⟩
theorem rds_Message : Rds Tryz.prog 43 rMessage := by
  intro H enc W fuel cs d ps h hw
  have hst := Tryz.underlying43
  obtain ⟨hlen, he⟩ := trod_fields hst h hw
  have hl : cs.length = 19 := hlen.trans (by kernel_rfl)
  obtain ⟨y0, hy0⟩ := he 0 _ rfl 0 1 ⟨rfl, by kernel_rfl⟩ (rds_int Tryz.underlying3)
  obtain ⟨y1, hy1⟩ := he 1 _ rfl 1 1 ⟨rfl, by kernel_rfl⟩ (rds_int Tryz.underlying3)
  obtain ⟨y2, hy2⟩ := he 2 _ rfl 2 1 ⟨rfl, by kernel_rfl⟩ (rds_int Tryz.underlying27)
  obtain ⟨y3, hy3⟩ := he 3 _ rfl 3 3 ⟨rfl, by kernel_rfl⟩ rds_Txn
  obtain ⟨y4, hy4⟩ := he 4 _ rfl 6 3 ⟨rfl, by kernel_rfl⟩ rds_Work
  obtain ⟨y5, hy5⟩ := he 5 _ rfl 9 1 ⟨rfl, by kernel_rfl⟩ (rds_bool Tryz.underlying4)
  obtain ⟨y6, hy6⟩ := he 6 _ rfl 10 1 ⟨rfl, by kernel_rfl⟩ (rds_int Tryz.underlying3)
  obtain ⟨y7, hy7⟩ := he 7 _ rfl 11 4 ⟨rfl, by kernel_rfl⟩ rds_Call
  obtain ⟨y8, hy8⟩ := he 8 _ rfl 15 4 ⟨rfl, by kernel_rfl⟩ rds_Reply
  obtain ⟨e0, k0_0⟩ := hy0
  have t0 := cutd (o' := 1) e0 rfl
  obtain ⟨e1, k1_0⟩ := hy1
  have t1 := cutd (o' := 2) e1 rfl
  obtain ⟨e2, k2_0⟩ := hy2
  have t2 := cutd (o' := 3) e2 rfl
  obtain ⟨e3, k3_0, k3_1, k3_2⟩ := hy3
  have t3 := cutd (o' := 6) e3 rfl
  obtain ⟨v4_0, v4_1, e4, k4_0, k4_1, k4_2⟩ := hy4
  have t4 := cutd (o' := 9) e4 rfl
  have e5 := hy5
  have t5 := cutd (o' := 10) e5 rfl
  obtain ⟨e6, k6_0⟩ := hy6
  have t6 := cutd (o' := 11) e6 rfl
  obtain ⟨v7_0, e7, k7_0, k7_1, k7_2, k7_3⟩ := hy7
  have t7 := cutd (o' := 15) e7 rfl
  obtain ⟨v8_0, e8, k8_0, k8_1, k8_2, k8_3⟩ := hy8
  have t8 := cutd (o' := 19) e8 rfl
  refine ⟨⟨y0, y1, y2, y3, y4, y5, y6, y7, y8⟩, ⟨v4_0, v4_1, v7_0, v8_0, ?_, k0_0, k1_0, k2_0, k3_0, k3_1, k3_2, k4_0, k4_1, k4_2, k6_0, k7_0, k7_1, k7_2, k7_3, k8_0, k8_1, k8_2, k8_3⟩⟩
  refine t0.trans ?_
  rw [t1, t2, t3, t4, t5, t6, t7, t8, List.drop_eq_nil_of_le (Nat.le_of_eq hl)]
  try rfl
/-- convoy/convoylaw15.Op -/
structure Op where
  Kind : Int
  M : Message
  Now : Int
  deriving DecidableEq
abbrev Op.cv (x : Op) (s1 : Value) (s2 : Value) (s3 : Value) (s4 : Value) : List Value := [.int .i64 x.Kind, .int .i64 x.M.From, .int .i64 x.M.To, .int .i64 x.M.Kind, .int .i64 x.M.Txn.Node, .int .i64 x.M.Txn.Life, .int .i64 x.M.Txn.Count, .int .i64 x.M.Work.Robot, s1, s2, .bool x.M.Yes, .int .i64 x.M.ID, .int .i64 x.M.Call.Verb, .int .i64 x.M.Call.Epoch, .int .i64 x.M.Call.Route.Start, s3, .int .i64 x.M.Reply.Code, .int .i64 x.M.Reply.Epoch, .int .i64 x.M.Reply.Route.Start, s4, .int .i64 x.Now]
def rOp : Rd Op := fun H c x => ∃ s1 s2 s3 s4, c = x.cv s1 s2 s3 s4 ∧ fits x.Kind ∧ fits x.M.From ∧ fits x.M.To ∧ fits x.M.Kind ∧ fits x.M.Txn.Node ∧ fits x.M.Txn.Life ∧ fits x.M.Txn.Count ∧ fits x.M.Work.Robot ∧ SlB rStr 1 16 H s1 x.M.Work.Take ∧ SlB rStr 1 16 H s2 x.M.Work.Drop ∧ fits x.M.ID ∧ fits x.M.Call.Verb ∧ fits x.M.Call.Epoch ∧ fits x.M.Call.Route.Start ∧ SlB rInt 1 8 H s3 x.M.Call.Route.Cells ∧ fits x.M.Reply.Code ∧ fits x.M.Reply.Epoch ∧ fits x.M.Reply.Route.Start ∧ SlB rInt 1 8 H s4 x.M.Reply.Route.Cells ∧ fits x.Now
instance : RdOk rOp 21 := ⟨fun ⟨s1, s2, s3, s4, e, h0, h1, h2, h3, h4, h5, h6, h7, h8, h9, h10, h11, h12, h13, h14, h15, h16, h17, h18, h19⟩ => by subst e; rfl, fun ⟨s1, s2, s3, s4, e, h0, h1, h2, h3, h4, h5, h6, h7, h8, h9, h10, h11, h12, h13, h14, h15, h16, h17, h18, h19⟩ => by subst e; simp only [List.all_cons, List.all_nil, slb_one h8, slb_one h9, slb_one h14, slb_one h18]; rfl, fun hl ⟨s1, s2, s3, s4, e, h0, h1, h2, h3, h4, h5, h6, h7, h8, h9, h10, h11, h12, h13, h14, h15, h16, h17, h18, h19⟩ => ⟨s1, s2, s3, s4, e, h0, h1, h2, h3, h4, h5, h6, h7, h8.mono hl, h9.mono hl, h10, h11, h12, h13, h14.mono hl, h15, h16, h17, h18.mono hl, h19⟩⟩
def zOp : Op := ⟨0, ⟨0, 0, 0, ⟨0, 0, 0⟩, ⟨0, [], []⟩, false, 0, ⟨0, 0, ⟨0, []⟩⟩, ⟨0, 0, ⟨0, []⟩⟩⟩, 0⟩
theorem zOp_reads {H : Heap} : rOp H [.int .i64 0, .int .i64 0, .int .i64 0, .int .i64 0, .int .i64 0, .int .i64 0, .int .i64 0, .int .i64 0, .slice none 0 0, .slice none 0 0, .bool false, .int .i64 0, .int .i64 0, .int .i64 0, .int .i64 0, .slice none 0 0, .int .i64 0, .int .i64 0, .int .i64 0, .slice none 0 0, .int .i64 0] zOp := ⟨nilS, nilS, nilS, nilS, rfl, fits0, fits0, fits0, fits0, fits0, fits0, fits0, fits0, SlB.nil, SlB.nil, fits0, fits0, fits0, fits0, SlB.nil, fits0, fits0, fits0, SlB.nil, fits0⟩
theorem rds_Op : Rds Tryz.prog 45 rOp := by
  intro H enc W fuel cs d ps h hw
  have hst := Tryz.underlying45
  obtain ⟨hlen, he⟩ := trod_fields hst h hw
  have hl : cs.length = 21 := hlen.trans (by kernel_rfl)
  obtain ⟨y0, hy0⟩ := he 0 _ rfl 0 1 ⟨rfl, by kernel_rfl⟩ (rds_int Tryz.underlying3)
  obtain ⟨y1, hy1⟩ := he 1 _ rfl 1 19 ⟨rfl, by kernel_rfl⟩ rds_Message
  obtain ⟨y2, hy2⟩ := he 2 _ rfl 20 1 ⟨rfl, by kernel_rfl⟩ (rds_int Tryz.underlying3)
  obtain ⟨e0, k0_0⟩ := hy0
  have t0 := cutd (o' := 1) e0 rfl
  obtain ⟨v1_0, v1_1, v1_2, v1_3, e1, k1_0, k1_1, k1_2, k1_3, k1_4, k1_5, k1_6, k1_7, k1_8, k1_9, k1_10, k1_11, k1_12, k1_13, k1_14, k1_15, k1_16, k1_17⟩ := hy1
  have t1 := cutd (o' := 20) e1 rfl
  obtain ⟨e2, k2_0⟩ := hy2
  have t2 := cutd (o' := 21) e2 rfl
  refine ⟨⟨y0, y1, y2⟩, ⟨v1_0, v1_1, v1_2, v1_3, ?_, k0_0, k1_0, k1_1, k1_2, k1_3, k1_4, k1_5, k1_6, k1_7, k1_8, k1_9, k1_10, k1_11, k1_12, k1_13, k1_14, k1_15, k1_16, k1_17, k2_0⟩⟩
  refine t0.trans ?_
  rw [t1, t2, List.drop_eq_nil_of_le (Nat.le_of_eq hl)]
  try rfl
/-- convoy/api.Rec -/
structure Rec where
  Kind : Int
  Txn : Txn
  Work : Work
  Yes : Bool
  Parts : (List Int)
  deriving DecidableEq
abbrev Rec.cv (x : Rec) (s1 : Value) (s2 : Value) (s3 : Value) : List Value := [.int .i64 x.Kind, .int .i64 x.Txn.Node, .int .i64 x.Txn.Life, .int .i64 x.Txn.Count, .int .i64 x.Work.Robot, s1, s2, .bool x.Yes, s3]
def rRec : Rd Rec := fun H c x => ∃ s1 s2 s3, c = x.cv s1 s2 s3 ∧ fits x.Kind ∧ fits x.Txn.Node ∧ fits x.Txn.Life ∧ fits x.Txn.Count ∧ fits x.Work.Robot ∧ SlB rStr 1 16 H s1 x.Work.Take ∧ SlB rStr 1 16 H s2 x.Work.Drop ∧ SlB rInt 1 8 H s3 x.Parts
instance : RdOk rRec 9 := ⟨fun ⟨s1, s2, s3, e, h0, h1, h2, h3, h4, h5, h6, h7⟩ => by subst e; rfl, fun ⟨s1, s2, s3, e, h0, h1, h2, h3, h4, h5, h6, h7⟩ => by subst e; simp only [List.all_cons, List.all_nil, slb_one h5, slb_one h6, slb_one h7]; rfl, fun hl ⟨s1, s2, s3, e, h0, h1, h2, h3, h4, h5, h6, h7⟩ => ⟨s1, s2, s3, e, h0, h1, h2, h3, h4, h5.mono hl, h6.mono hl, h7.mono hl⟩⟩
def zRec : Rec := ⟨0, ⟨0, 0, 0⟩, ⟨0, [], []⟩, false, []⟩
theorem zRec_reads {H : Heap} : rRec H [.int .i64 0, .int .i64 0, .int .i64 0, .int .i64 0, .int .i64 0, .slice none 0 0, .slice none 0 0, .bool false, .slice none 0 0] zRec := ⟨nilS, nilS, nilS, rfl, fits0, fits0, fits0, fits0, fits0, SlB.nil, SlB.nil, SlB.nil⟩
theorem rds_Rec : Rds Tryz.prog 53 rRec := by
  intro H enc W fuel cs d ps h hw
  have hst := Tryz.underlying53
  obtain ⟨hlen, he⟩ := trod_fields hst h hw
  have hl : cs.length = 9 := hlen.trans (by kernel_rfl)
  obtain ⟨y0, hy0⟩ := he 0 _ rfl 0 1 ⟨rfl, by kernel_rfl⟩ (rds_int Tryz.underlying51)
  obtain ⟨y1, hy1⟩ := he 1 _ rfl 1 3 ⟨rfl, by kernel_rfl⟩ rds_Txn
  obtain ⟨y2, hy2⟩ := he 2 _ rfl 4 3 ⟨rfl, by kernel_rfl⟩ rds_Work
  obtain ⟨y3, hy3⟩ := he 3 _ rfl 7 1 ⟨rfl, by kernel_rfl⟩ (rds_bool Tryz.underlying4)
  obtain ⟨y4, hy4⟩ := he 4 _ rfl 8 1 ⟨rfl, by kernel_rfl⟩ (rds_slice Tryz.underlying34 (by kernel_rfl) (by kernel_rfl) (by decide) (rds_int Tryz.underlying3))
  obtain ⟨e0, k0_0⟩ := hy0
  have t0 := cutd (o' := 1) e0 rfl
  obtain ⟨e1, k1_0, k1_1, k1_2⟩ := hy1
  have t1 := cutd (o' := 4) e1 rfl
  obtain ⟨v2_0, v2_1, e2, k2_0, k2_1, k2_2⟩ := hy2
  have t2 := cutd (o' := 7) e2 rfl
  have e3 := hy3
  have t3 := cutd (o' := 8) e3 rfl
  obtain ⟨v4_0, e4, k4_0⟩ := hy4
  have t4 := cutd (o' := 9) e4 rfl
  refine ⟨⟨y0, y1, y2, y3, y4⟩, ⟨v2_0, v2_1, v4_0, ?_, k0_0, k1_0, k1_1, k1_2, k2_0, k2_1, k2_2, k4_0⟩⟩
  refine t0.trans ?_
  rw [t1, t2, t3, t4, List.drop_eq_nil_of_le (Nat.le_of_eq hl)]
  try rfl
/-- convoy/part.Done -/
structure PartDone where
  Txn : Txn
  Until : Int
  deriving DecidableEq
abbrev PartDone.cv (x : PartDone) : List Value := [.int .i64 x.Txn.Node, .int .i64 x.Txn.Life, .int .i64 x.Txn.Count, .int .i64 x.Until]
def rPartDone : Rd PartDone := fun H c x => c = x.cv ∧ fits x.Txn.Node ∧ fits x.Txn.Life ∧ fits x.Txn.Count ∧ fits x.Until
instance : RdOk rPartDone 4 := ⟨fun ⟨e, h0, h1, h2, h3⟩ => by subst e; rfl, fun ⟨e, h0, h1, h2, h3⟩ => by subst e; simp only [List.all_cons, List.all_nil]; rfl, fun hl ⟨e, h0, h1, h2, h3⟩ => ⟨e, h0, h1, h2, h3⟩⟩
def zPartDone : PartDone := ⟨⟨0, 0, 0⟩, 0⟩
theorem zPartDone_reads {H : Heap} : rPartDone H [.int .i64 0, .int .i64 0, .int .i64 0, .int .i64 0] zPartDone := ⟨rfl, fits0, fits0, fits0, fits0⟩
theorem rds_PartDone : Rds Tryz.prog 66 rPartDone := by
  intro H enc W fuel cs d ps h hw
  have hst := Tryz.underlying66
  obtain ⟨hlen, he⟩ := trod_fields hst h hw
  have hl : cs.length = 4 := hlen.trans (by kernel_rfl)
  obtain ⟨y0, hy0⟩ := he 0 _ rfl 0 3 ⟨rfl, by kernel_rfl⟩ rds_Txn
  obtain ⟨y1, hy1⟩ := he 1 _ rfl 3 1 ⟨rfl, by kernel_rfl⟩ (rds_int Tryz.underlying3)
  obtain ⟨e0, k0_0, k0_1, k0_2⟩ := hy0
  have t0 := cutd (o' := 3) e0 rfl
  obtain ⟨e1, k1_0⟩ := hy1
  have t1 := cutd (o' := 4) e1 rfl
  refine ⟨⟨y0, y1⟩, ⟨?_, k0_0, k0_1, k0_2, k1_0⟩⟩
  refine t0.trans ?_
  rw [t1, List.drop_eq_nil_of_le (Nat.le_of_eq hl)]
  try rfl
/-- convoy/api.Hold -/
structure Hold where
  Key : ByteArray
  Robot : Int
  deriving DecidableEq
abbrev Hold.cv (x : Hold) : List Value := [.string x.Key, .int .i64 x.Robot]
def rHold : Rd Hold := fun H c x => c = x.cv ∧ x.Key.size ≤ cap47 ∧ fits x.Robot
instance : RdOk rHold 2 := ⟨fun ⟨e, h0, h1⟩ => by subst e; rfl, fun ⟨e, h0, h1⟩ => by subst e; simp only [List.all_cons, List.all_nil]; rfl, fun hl ⟨e, h0, h1⟩ => ⟨e, h0, h1⟩⟩
def zHold : Hold := ⟨⟨#[]⟩, 0⟩
theorem zHold_reads {H : Heap} : rHold H [.string ⟨#[]⟩, .int .i64 0] zHold := ⟨rfl, (Nat.zero_le _), fits0⟩
theorem rds_Hold : Rds Tryz.prog 109 rHold := by
  intro H enc W fuel cs d ps h hw
  have hst := Tryz.underlying109
  obtain ⟨hlen, he⟩ := trod_fields hst h hw
  have hl : cs.length = 2 := hlen.trans (by kernel_rfl)
  obtain ⟨y0, hy0⟩ := he 0 _ rfl 0 1 ⟨rfl, by kernel_rfl⟩ (rds_str Tryz.underlying9)
  obtain ⟨y1, hy1⟩ := he 1 _ rfl 1 1 ⟨rfl, by kernel_rfl⟩ (rds_int Tryz.underlying3)
  obtain ⟨e0, k0_0⟩ := hy0
  have t0 := cutd (o' := 1) e0 rfl
  obtain ⟨e1, k1_0⟩ := hy1
  have t1 := cutd (o' := 2) e1 rfl
  refine ⟨⟨y0, y1⟩, ⟨?_, k0_0, k1_0⟩⟩
  refine t0.trans ?_
  rw [t1, List.drop_eq_nil_of_le (Nat.le_of_eq hl)]
  try rfl
/-- convoy/convoyref14.Table -/
structure Table where
  Held : (List Hold)
  Prep : (List Rec)
  deriving DecidableEq
abbrev Table.cv (x : Table) (s1 : Value) (s2 : Value) : List Value := [s1, s2]
def rTable : Rd Table := fun H c x => ∃ s1 s2, c = x.cv s1 s2 ∧ SlB rHold 2 24 H s1 x.Held ∧ SlB rRec 9 120 H s2 x.Prep
instance : RdOk rTable 2 := ⟨fun ⟨s1, s2, e, h0, h1⟩ => by subst e; rfl, fun ⟨s1, s2, e, h0, h1⟩ => by subst e; simp only [List.all_cons, List.all_nil, slb_one h0, slb_one h1]; rfl, fun hl ⟨s1, s2, e, h0, h1⟩ => ⟨s1, s2, e, h0.mono hl, h1.mono hl⟩⟩
def zTable : Table := ⟨[], []⟩
theorem zTable_reads {H : Heap} : rTable H [.slice none 0 0, .slice none 0 0] zTable := ⟨nilS, nilS, rfl, SlB.nil, SlB.nil⟩
theorem rds_Table : Rds Tryz.prog 69 rTable := by
  intro H enc W fuel cs d ps h hw
  have hst := Tryz.underlying69
  obtain ⟨hlen, he⟩ := trod_fields hst h hw
  have hl : cs.length = 2 := hlen.trans (by kernel_rfl)
  obtain ⟨y0, hy0⟩ := he 0 _ rfl 0 1 ⟨rfl, by kernel_rfl⟩ (rds_slice Tryz.underlying58 (by kernel_rfl) (by kernel_rfl) (by decide) rds_Hold)
  obtain ⟨y1, hy1⟩ := he 1 _ rfl 1 1 ⟨rfl, by kernel_rfl⟩ (rds_slice Tryz.underlying47 (by kernel_rfl) (by kernel_rfl) (by decide) rds_Rec)
  obtain ⟨v0_0, e0, k0_0⟩ := hy0
  have t0 := cutd (o' := 1) e0 rfl
  obtain ⟨v1_0, e1, k1_0⟩ := hy1
  have t1 := cutd (o' := 2) e1 rfl
  refine ⟨⟨y0, y1⟩, ⟨v0_0, v1_0, ?_, k0_0, k1_0⟩⟩
  refine t0.trans ?_
  rw [t1, List.drop_eq_nil_of_le (Nat.le_of_eq hl)]
  try rfl
/-- convoy/convoyref15.Done -/
structure Convoyref15Done where
  Txn : Txn
  Until : Int
  deriving DecidableEq
abbrev Convoyref15Done.cv (x : Convoyref15Done) : List Value := [.int .i64 x.Txn.Node, .int .i64 x.Txn.Life, .int .i64 x.Txn.Count, .int .i64 x.Until]
def rConvoyref15Done : Rd Convoyref15Done := fun H c x => c = x.cv ∧ fits x.Txn.Node ∧ fits x.Txn.Life ∧ fits x.Txn.Count ∧ fits x.Until
instance : RdOk rConvoyref15Done 4 := ⟨fun ⟨e, h0, h1, h2, h3⟩ => by subst e; rfl, fun ⟨e, h0, h1, h2, h3⟩ => by subst e; simp only [List.all_cons, List.all_nil]; rfl, fun hl ⟨e, h0, h1, h2, h3⟩ => ⟨e, h0, h1, h2, h3⟩⟩
def zConvoyref15Done : Convoyref15Done := ⟨⟨0, 0, 0⟩, 0⟩
theorem zConvoyref15Done_reads {H : Heap} : rConvoyref15Done H [.int .i64 0, .int .i64 0, .int .i64 0, .int .i64 0] zConvoyref15Done := ⟨rfl, fits0, fits0, fits0, fits0⟩
theorem rds_Convoyref15Done : Rds Tryz.prog 121 rConvoyref15Done := by
  intro H enc W fuel cs d ps h hw
  have hst := Tryz.underlying121
  obtain ⟨hlen, he⟩ := trod_fields hst h hw
  have hl : cs.length = 4 := hlen.trans (by kernel_rfl)
  obtain ⟨y0, hy0⟩ := he 0 _ rfl 0 3 ⟨rfl, by kernel_rfl⟩ rds_Txn
  obtain ⟨y1, hy1⟩ := he 1 _ rfl 3 1 ⟨rfl, by kernel_rfl⟩ (rds_int Tryz.underlying3)
  obtain ⟨e0, k0_0, k0_1, k0_2⟩ := hy0
  have t0 := cutd (o' := 3) e0 rfl
  obtain ⟨e1, k1_0⟩ := hy1
  have t1 := cutd (o' := 4) e1 rfl
  refine ⟨⟨y0, y1⟩, ⟨?_, k0_0, k0_1, k0_2, k1_0⟩⟩
  refine t0.trans ?_
  rw [t1, List.drop_eq_nil_of_le (Nat.le_of_eq hl)]
  try rfl
/-- convoy/convoyref15.Part -/
structure Part where
  Shard : Int
  T : Table
  Done : (List Convoyref15Done)
  deriving DecidableEq
abbrev Part.cv (x : Part) (s1 : Value) (s2 : Value) (s3 : Value) : List Value := [.int .i64 x.Shard, s1, s2, s3]
def rPart : Rd Part := fun H c x => ∃ s1 s2 s3, c = x.cv s1 s2 s3 ∧ fits x.Shard ∧ SlB rHold 2 24 H s1 x.T.Held ∧ SlB rRec 9 120 H s2 x.T.Prep ∧ SlB rConvoyref15Done 4 32 H s3 x.Done
instance : RdOk rPart 4 := ⟨fun ⟨s1, s2, s3, e, h0, h1, h2, h3⟩ => by subst e; rfl, fun ⟨s1, s2, s3, e, h0, h1, h2, h3⟩ => by subst e; simp only [List.all_cons, List.all_nil, slb_one h1, slb_one h2, slb_one h3]; rfl, fun hl ⟨s1, s2, s3, e, h0, h1, h2, h3⟩ => ⟨s1, s2, s3, e, h0, h1.mono hl, h2.mono hl, h3.mono hl⟩⟩
def zPart : Part := ⟨0, ⟨[], []⟩, []⟩
theorem zPart_reads {H : Heap} : rPart H [.int .i64 0, .slice none 0 0, .slice none 0 0, .slice none 0 0] zPart := ⟨nilS, nilS, nilS, rfl, fits0, SlB.nil, SlB.nil, SlB.nil⟩
theorem rds_Part : Rds Tryz.prog 72 rPart := by
  intro H enc W fuel cs d ps h hw
  have hst := Tryz.underlying72
  obtain ⟨hlen, he⟩ := trod_fields hst h hw
  have hl : cs.length = 4 := hlen.trans (by kernel_rfl)
  obtain ⟨y0, hy0⟩ := he 0 _ rfl 0 1 ⟨rfl, by kernel_rfl⟩ (rds_int Tryz.underlying3)
  obtain ⟨y1, hy1⟩ := he 1 _ rfl 1 2 ⟨rfl, by kernel_rfl⟩ rds_Table
  obtain ⟨y2, hy2⟩ := he 2 _ rfl 3 1 ⟨rfl, by kernel_rfl⟩ (rds_slice Tryz.underlying70 (by kernel_rfl) (by kernel_rfl) (by decide) rds_Convoyref15Done)
  obtain ⟨e0, k0_0⟩ := hy0
  have t0 := cutd (o' := 1) e0 rfl
  obtain ⟨v1_0, v1_1, e1, k1_0, k1_1⟩ := hy1
  have t1 := cutd (o' := 3) e1 rfl
  obtain ⟨v2_0, e2, k2_0⟩ := hy2
  have t2 := cutd (o' := 4) e2 rfl
  refine ⟨⟨y0, y1, y2⟩, ⟨v1_0, v1_1, v2_0, ?_, k0_0, k1_0, k1_1, k2_0⟩⟩
  refine t0.trans ?_
  rw [t1, t2, List.drop_eq_nil_of_le (Nat.le_of_eq hl)]
  try rfl
/-- convoy/grid.Key -/
structure GridKey where
  Cell : Int
  Other : Int
  Tick : Int
  deriving DecidableEq
abbrev GridKey.cv (x : GridKey) : List Value := [.int .i64 x.Cell, .int .i64 x.Other, .int .i64 x.Tick]
def rGridKey : Rd GridKey := fun H c x => c = x.cv ∧ fits x.Cell ∧ fits x.Other ∧ fits x.Tick
instance : RdOk rGridKey 3 := ⟨fun ⟨e, h0, h1, h2⟩ => by subst e; rfl, fun ⟨e, h0, h1, h2⟩ => by subst e; simp only [List.all_cons, List.all_nil]; rfl, fun hl ⟨e, h0, h1, h2⟩ => ⟨e, h0, h1, h2⟩⟩
def zGridKey : GridKey := ⟨0, 0, 0⟩
theorem zGridKey_reads {H : Heap} : rGridKey H [.int .i64 0, .int .i64 0, .int .i64 0] zGridKey := ⟨rfl, fits0, fits0, fits0⟩
theorem rds_GridKey : Rds Tryz.prog 131 rGridKey := by
  intro H enc W fuel cs d ps h hw
  have hst := Tryz.underlying131
  obtain ⟨hlen, he⟩ := trod_fields hst h hw
  have hl : cs.length = 3 := hlen.trans (by kernel_rfl)
  obtain ⟨y0, hy0⟩ := he 0 _ rfl 0 1 ⟨rfl, by kernel_rfl⟩ (rds_int Tryz.underlying3)
  obtain ⟨y1, hy1⟩ := he 1 _ rfl 1 1 ⟨rfl, by kernel_rfl⟩ (rds_int Tryz.underlying3)
  obtain ⟨y2, hy2⟩ := he 2 _ rfl 2 1 ⟨rfl, by kernel_rfl⟩ (rds_int Tryz.underlying3)
  obtain ⟨e0, k0_0⟩ := hy0
  have t0 := cutd (o' := 1) e0 rfl
  obtain ⟨e1, k1_0⟩ := hy1
  have t1 := cutd (o' := 2) e1 rfl
  obtain ⟨e2, k2_0⟩ := hy2
  have t2 := cutd (o' := 3) e2 rfl
  refine ⟨⟨y0, y1, y2⟩, ⟨?_, k0_0, k1_0, k2_0⟩⟩
  refine t0.trans ?_
  rw [t1, t2, List.drop_eq_nil_of_le (Nat.le_of_eq hl)]
  try rfl
/-- convoy/convoyref12.Key -/
structure Convoyref12Key where
  Cell : Int
  Other : Int
  Tick : Int
  deriving DecidableEq
abbrev Convoyref12Key.cv (x : Convoyref12Key) : List Value := [.int .i64 x.Cell, .int .i64 x.Other, .int .i64 x.Tick]
def rConvoyref12Key : Rd Convoyref12Key := fun H c x => c = x.cv ∧ fits x.Cell ∧ fits x.Other ∧ fits x.Tick
instance : RdOk rConvoyref12Key 3 := ⟨fun ⟨e, h0, h1, h2⟩ => by subst e; rfl, fun ⟨e, h0, h1, h2⟩ => by subst e; simp only [List.all_cons, List.all_nil]; rfl, fun hl ⟨e, h0, h1, h2⟩ => ⟨e, h0, h1, h2⟩⟩
def zConvoyref12Key : Convoyref12Key := ⟨0, 0, 0⟩
theorem zConvoyref12Key_reads {H : Heap} : rConvoyref12Key H [.int .i64 0, .int .i64 0, .int .i64 0] zConvoyref12Key := ⟨rfl, fits0, fits0, fits0⟩
theorem rds_Convoyref12Key : Rds Tryz.prog 154 rConvoyref12Key := by
  intro H enc W fuel cs d ps h hw
  have hst := Tryz.underlying154
  obtain ⟨hlen, he⟩ := trod_fields hst h hw
  have hl : cs.length = 3 := hlen.trans (by kernel_rfl)
  obtain ⟨y0, hy0⟩ := he 0 _ rfl 0 1 ⟨rfl, by kernel_rfl⟩ (rds_int Tryz.underlying3)
  obtain ⟨y1, hy1⟩ := he 1 _ rfl 1 1 ⟨rfl, by kernel_rfl⟩ (rds_int Tryz.underlying3)
  obtain ⟨y2, hy2⟩ := he 2 _ rfl 2 1 ⟨rfl, by kernel_rfl⟩ (rds_int Tryz.underlying3)
  obtain ⟨e0, k0_0⟩ := hy0
  have t0 := cutd (o' := 1) e0 rfl
  obtain ⟨e1, k1_0⟩ := hy1
  have t1 := cutd (o' := 2) e1 rfl
  obtain ⟨e2, k2_0⟩ := hy2
  have t2 := cutd (o' := 3) e2 rfl
  refine ⟨⟨y0, y1, y2⟩, ⟨?_, k0_0, k1_0, k2_0⟩⟩
  refine t0.trans ?_
  rw [t1, t2, List.drop_eq_nil_of_le (Nat.le_of_eq hl)]
  try rfl
/-- errors.errorString -/
structure ErrorString where
  s : ByteArray
  deriving DecidableEq
abbrev ErrorString.cv (x : ErrorString) : List Value := [.string x.s]
def rErrorString : Rd ErrorString := fun H c x => c = x.cv ∧ x.s.size ≤ cap47
instance : RdOk rErrorString 1 := ⟨fun ⟨e, h0⟩ => by subst e; rfl, fun ⟨e, h0⟩ => by subst e; simp only [List.all_cons, List.all_nil]; rfl, fun hl ⟨e, h0⟩ => ⟨e, h0⟩⟩
def zErrorString : ErrorString := ⟨⟨#[]⟩⟩
theorem zErrorString_reads {H : Heap} : rErrorString H [.string ⟨#[]⟩] zErrorString := ⟨rfl, (Nat.zero_le _)⟩
theorem rds_ErrorString : Rds Tryz.prog 244 rErrorString := by
  intro H enc W fuel cs d ps h hw
  have hst := Tryz.underlying244
  obtain ⟨hlen, he⟩ := trod_fields hst h hw
  have hl : cs.length = 1 := hlen.trans (by kernel_rfl)
  obtain ⟨y0, hy0⟩ := he 0 _ rfl 0 1 ⟨rfl, by kernel_rfl⟩ (rds_str Tryz.underlying9)
  obtain ⟨e0, k0_0⟩ := hy0
  have t0 := cutd (o' := 1) e0 rfl
  refine ⟨⟨y0⟩, ⟨?_, k0_0⟩⟩
  refine t0.trans ?_
  rw [List.drop_eq_nil_of_le (Nat.le_of_eq hl)]
  try rfl
end Go.Proofs.YtjgjcakeimkkdaaGreatDoor
