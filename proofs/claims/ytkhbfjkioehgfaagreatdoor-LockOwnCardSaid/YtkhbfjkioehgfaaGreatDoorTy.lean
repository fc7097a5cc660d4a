/- Written by program (gen_types.py): the values of this seat's types, and how they lie in memory. -/
import Derived.Test.YtkhbfjkioehgfaaGreatDoorInst
set_option linter.unusedVariables false
set_option linter.unusedSimpArgs false
namespace Go.Proofs.YtkhbfjkioehgfaaGreatDoor
open Go Go.Sx Go.Proofs
/-- convoy/api.Txn -/
structure Txn where
  Node : Int
  Life : Int
  Count : Int
  deriving DecidableEq
abbrev Txn.cv (x : Txn) : List Value := [.int .i64 x.Node, .int .i64 x.Life, .int .i64 x.Count]
def rTxn : Rd Txn := fun H c x => c = x.cv ∧ fits x.Node ∧ fits x.Life ∧ fits x.Count
instance : RdOk rTxn 3 := ⟨fun ⟨e, h0, h1, h2⟩ => by subst e; rfl, fun ⟨e, h0, h1, h2⟩ => by subst e; simp only [List.all_cons, List.all_nil]; rfl, fun hl ⟨e, h0, h1, h2⟩ => ⟨e, h0, h1, h2⟩⟩
def zTxn : Txn := ⟨0, 0, 0⟩
theorem zTxn_reads {H : Heap} : rTxn H [.int .i64 0, .int .i64 0, .int .i64 0] zTxn := ⟨rfl, fits0, fits0, fits0⟩
theorem rds_Txn : Rds Tryz.prog 27 rTxn := by
  intro H enc W fuel cs d ps h hw
  have hst := Tryz.underlying27
  obtain ⟨hlen, he⟩ := trod_fields hst h hw
  have hl : cs.length = 3 := hlen.trans (by kernel_rfl)
  obtain ⟨y0, hy0⟩ := he 0 _ rfl 0 1 ⟨rfl, by kernel_rfl⟩ (rds_int Tryz.underlying3)
  obtain ⟨y1, hy1⟩ := he 1 _ rfl 1 1 ⟨rfl, by kernel_rfl⟩ (rds_int Tryz.underlying3)
  obtain ⟨y2, hy2⟩ := he 2 _ rfl 2 1 ⟨rfl, by kernel_rfl⟩ (rds_int Tryz.underlying3)
  obtain ⟨e0, k0_0⟩ := hy0
  have t0 := cutd (o' := 1) e0 rfl
  obtain ⟨e1, k1_0⟩ := hy1
  have t1 := cutd (o' := 2) e1 rfl
  obtain ⟨e2, k2_0⟩ := hy2
  have t2 := cutd (o' := 3) e2 rfl
  refine ⟨⟨y0, y1, y2⟩, ⟨?_, k0_0, k1_0, k2_0⟩⟩
  refine t0.trans ?_
  rw [t1, t2, List.drop_eq_nil_of_le (Nat.le_of_eq hl)]
  try rfl
/-- convoy/api.Work -/
structure Work where
  Robot : Int
  Take : (List ByteArray)
  Drop : (List ByteArray)
  deriving DecidableEq
abbrev Work.cv (x : Work) (s1 : Value) (s2 : Value) : List Value := [.int .i64 x.Robot, s1, s2]
def rWork : Rd Work := fun H c x => ∃ s1 s2, c = x.cv s1 s2 ∧ fits x.Robot ∧ SlB rStr 1 16 H s1 x.Take ∧ SlB rStr 1 16 H s2 x.Drop
instance : RdOk rWork 3 := ⟨fun ⟨s1, s2, e, h0, h1, h2⟩ => by subst e; rfl, fun ⟨s1, s2, e, h0, h1, h2⟩ => by subst e; simp only [List.all_cons, List.all_nil, slb_one h1, slb_one h2]; rfl, fun hl ⟨s1, s2, e, h0, h1, h2⟩ => ⟨s1, s2, e, h0, h1.mono hl, h2.mono hl⟩⟩
def zWork : Work := ⟨0, [], []⟩
theorem zWork_reads {H : Heap} : rWork H [.int .i64 0, .slice none 0 0, .slice none 0 0] zWork := ⟨nilS, nilS, rfl, fits0, SlB.nil, SlB.nil⟩
theorem rds_Work : Rds Tryz.prog 30 rWork := by
  intro H enc W fuel cs d ps h hw
  have hst := Tryz.underlying30
  obtain ⟨hlen, he⟩ := trod_fields hst h hw
  have hl : cs.length = 3 := hlen.trans (by kernel_rfl)
  obtain ⟨y0, hy0⟩ := he 0 _ rfl 0 1 ⟨rfl, by kernel_rfl⟩ (rds_int Tryz.underlying3)
  obtain ⟨y1, hy1⟩ := he 1 _ rfl 1 1 ⟨rfl, by kernel_rfl⟩ (rds_slice Tryz.underlying28 (by kernel_rfl) (by kernel_rfl) (by decide) (rds_str Tryz.underlying9))
  obtain ⟨y2, hy2⟩ := he 2 _ rfl 2 1 ⟨rfl, by kernel_rfl⟩ (rds_slice Tryz.underlying28 (by kernel_rfl) (by kernel_rfl) (by decide) (rds_str Tryz.underlying9))
  obtain ⟨e0, k0_0⟩ := hy0
  have t0 := cutd (o' := 1) e0 rfl
  obtain ⟨v1_0, e1, k1_0⟩ := hy1
  have t1 := cutd (o' := 2) e1 rfl
  obtain ⟨v2_0, e2, k2_0⟩ := hy2
  have t2 := cutd (o' := 3) e2 rfl
  refine ⟨⟨y0, y1, y2⟩, ⟨v1_0, v2_0, ?_, k0_0, k1_0, k2_0⟩⟩
  refine t0.trans ?_
  rw [t1, t2, List.drop_eq_nil_of_le (Nat.le_of_eq hl)]
  try rfl
/-- convoy/convoylaw14.Op -/
structure Op where
  Kind : Int
  X : Txn
  W : Work
  Yes : Bool
  Now : Int
  Key : ByteArray
  deriving DecidableEq
abbrev Op.cv (x : Op) (s1 : Value) (s2 : Value) : List Value := [.int .i64 x.Kind, .int .i64 x.X.Node, .int .i64 x.X.Life, .int .i64 x.X.Count, .int .i64 x.W.Robot, s1, s2, .bool x.Yes, .int .i64 x.Now, .string x.Key]
def rOp : Rd Op := fun H c x => ∃ s1 s2, c = x.cv s1 s2 ∧ fits x.Kind ∧ fits x.X.Node ∧ fits x.X.Life ∧ fits x.X.Count ∧ fits x.W.Robot ∧ SlB rStr 1 16 H s1 x.W.Take ∧ SlB rStr 1 16 H s2 x.W.Drop ∧ fits x.Now ∧ x.Key.size ≤ cap47
instance : RdOk rOp 10 := ⟨fun ⟨s1, s2, e, h0, h1, h2, h3, h4, h5, h6, h7, h8⟩ => by subst e; rfl, fun ⟨s1, s2, e, h0, h1, h2, h3, h4, h5, h6, h7, h8⟩ => by subst e; simp only [List.all_cons, List.all_nil, slb_one h5, slb_one h6]; rfl, fun hl ⟨s1, s2, e, h0, h1, h2, h3, h4, h5, h6, h7, h8⟩ => ⟨s1, s2, e, h0, h1, h2, h3, h4, h5.mono hl, h6.mono hl, h7, h8⟩⟩
def zOp : Op := ⟨0, ⟨0, 0, 0⟩, ⟨0, [], []⟩, false, 0, ⟨#[]⟩⟩
theorem zOp_reads {H : Heap} : rOp H [.int .i64 0, .int .i64 0, .int .i64 0, .int .i64 0, .int .i64 0, .slice none 0 0, .slice none 0 0, .bool false, .int .i64 0, .string ⟨#[]⟩] zOp := ⟨nilS, nilS, rfl, fits0, fits0, fits0, fits0, fits0, SlB.nil, SlB.nil, fits0, (Nat.zero_le _)⟩
theorem rds_Op : Rds Tryz.prog 32 rOp := by
  intro H enc W fuel cs d ps h hw
  have hst := Tryz.underlying32
  obtain ⟨hlen, he⟩ := trod_fields hst h hw
  have hl : cs.length = 10 := hlen.trans (by kernel_rfl)
  obtain ⟨y0, hy0⟩ := he 0 _ rfl 0 1 ⟨rfl, by kernel_rfl⟩ (rds_int Tryz.underlying3)
  obtain ⟨y1, hy1⟩ := he 1 _ rfl 1 3 ⟨rfl, by kernel_rfl⟩ rds_Txn
  obtain ⟨y2, hy2⟩ := he 2 _ rfl 4 3 ⟨rfl, by kernel_rfl⟩ rds_Work
  obtain ⟨y3, hy3⟩ := he 3 _ rfl 7 1 ⟨rfl, by kernel_rfl⟩ (rds_bool Tryz.underlying4)
  obtain ⟨y4, hy4⟩ := he 4 _ rfl 8 1 ⟨rfl, by kernel_rfl⟩ (rds_int Tryz.underlying3)
  obtain ⟨y5, hy5⟩ := he 5 _ rfl 9 1 ⟨rfl, by kernel_rfl⟩ (rds_str Tryz.underlying9)
  obtain ⟨e0, k0_0⟩ := hy0
  have t0 := cutd (o' := 1) e0 rfl
  obtain ⟨e1, k1_0, k1_1, k1_2⟩ := hy1
  have t1 := cutd (o' := 4) e1 rfl
  obtain ⟨v2_0, v2_1, e2, k2_0, k2_1, k2_2⟩ := hy2
  have t2 := cutd (o' := 7) e2 rfl
  have e3 := hy3
  have t3 := cutd (o' := 8) e3 rfl
  obtain ⟨e4, k4_0⟩ := hy4
  have t4 := cutd (o' := 9) e4 rfl
  obtain ⟨e5, k5_0⟩ := hy5
  have t5 := cutd (o' := 10) e5 rfl
  refine ⟨⟨y0, y1, y2, y3, y4, y5⟩, ⟨v2_0, v2_1, ?_, k0_0, k1_0, k1_1, k1_2, k2_0, k2_1, k2_2, k4_0, k5_0⟩⟩
  refine t0.trans ?_
  rw [t1, t2, t3, t4, t5, List.drop_eq_nil_of_le (Nat.le_of_eq hl)]
  try rfl
/-- convoy/api.Hold -/
structure Hold where
  Key : ByteArray
  Robot : Int
  deriving DecidableEq
abbrev Hold.cv (x : Hold) : List Value := [.string x.Key, .int .i64 x.Robot]
def rHold : Rd Hold := fun H c x => c = x.cv ∧ x.Key.size ≤ cap47 ∧ fits x.Robot
instance : RdOk rHold 2 := ⟨fun ⟨e, h0, h1⟩ => by subst e; rfl, fun ⟨e, h0, h1⟩ => by subst e; simp only [List.all_cons, List.all_nil]; rfl, fun hl ⟨e, h0, h1⟩ => ⟨e, h0, h1⟩⟩
def zHold : Hold := ⟨⟨#[]⟩, 0⟩
theorem zHold_reads {H : Heap} : rHold H [.string ⟨#[]⟩, .int .i64 0] zHold := ⟨rfl, (Nat.zero_le _), fits0⟩
theorem rds_Hold : Rds Tryz.prog 43 rHold := by
  intro H enc W fuel cs d ps h hw
  have hst := Tryz.underlying43
  obtain ⟨hlen, he⟩ := trod_fields hst h hw
  have hl : cs.length = 2 := hlen.trans (by kernel_rfl)
  obtain ⟨y0, hy0⟩ := he 0 _ rfl 0 1 ⟨rfl, by kernel_rfl⟩ (rds_str Tryz.underlying9)
  obtain ⟨y1, hy1⟩ := he 1 _ rfl 1 1 ⟨rfl, by kernel_rfl⟩ (rds_int Tryz.underlying3)
  obtain ⟨e0, k0_0⟩ := hy0
  have t0 := cutd (o' := 1) e0 rfl
  obtain ⟨e1, k1_0⟩ := hy1
  have t1 := cutd (o' := 2) e1 rfl
  refine ⟨⟨y0, y1⟩, ⟨?_, k0_0, k1_0⟩⟩
  refine t0.trans ?_
  rw [t1, List.drop_eq_nil_of_le (Nat.le_of_eq hl)]
  try rfl
/-- convoy/api.Rec -/
structure Rec where
  Kind : Int
  Txn : Txn
  Work : Work
  Yes : Bool
  Parts : (List Int)
  deriving DecidableEq
abbrev Rec.cv (x : Rec) (s1 : Value) (s2 : Value) (s3 : Value) : List Value := [.int .i64 x.Kind, .int .i64 x.Txn.Node, .int .i64 x.Txn.Life, .int .i64 x.Txn.Count, .int .i64 x.Work.Robot, s1, s2, .bool x.Yes, s3]
def rRec : Rd Rec := fun H c x => ∃ s1 s2 s3, c = x.cv s1 s2 s3 ∧ fits x.Kind ∧ fits x.Txn.Node ∧ fits x.Txn.Life ∧ fits x.Txn.Count ∧ fits x.Work.Robot ∧ SlB rStr 1 16 H s1 x.Work.Take ∧ SlB rStr 1 16 H s2 x.Work.Drop ∧ SlB rInt 1 8 H s3 x.Parts
instance : RdOk rRec 9 := ⟨fun ⟨s1, s2, s3, e, h0, h1, h2, h3, h4, h5, h6, h7⟩ => by subst e; rfl, fun ⟨s1, s2, s3, e, h0, h1, h2, h3, h4, h5, h6, h7⟩ => by subst e; simp only [List.all_cons, List.all_nil, slb_one h5, slb_one h6, slb_one h7]; rfl, fun hl ⟨s1, s2, s3, e, h0, h1, h2, h3, h4, h5, h6, h7⟩ => ⟨s1, s2, s3, e, h0, h1, h2, h3, h4, h5.mono hl, h6.mono hl, h7.mono hl⟩⟩
def zRec : Rec := ⟨0, ⟨0, 0, 0⟩, ⟨0, [], []⟩, false, []⟩
theorem zRec_reads {H : Heap} : rRec H [.int .i64 0, .int .i64 0, .int .i64 0, .int .i64 0, .int .i64 0, .slice none 0 0, .slice none 0 0, .bool false, .slice none 0 0] zRec := ⟨nilS, nilS, nilS, rfl, fits0, fits0, fits0, fits0, fits0, SlB.nil, SlB.nil, SlB.nil⟩
theorem rds_Rec : Rds Tryz.prog 47 rRec := by
  intro H enc W fuel cs d ps h hw
  have hst := Tryz.underlying47
  obtain ⟨hlen, he⟩ := trod_fields hst h hw
  have hl : cs.length = 9 := hlen.trans (by kernel_rfl)
  obtain ⟨y0, hy0⟩ := he 0 _ rfl 0 1 ⟨rfl, by kernel_rfl⟩ (rds_int Tryz.underlying44)
  obtain ⟨y1, hy1⟩ := he 1 _ rfl 1 3 ⟨rfl, by kernel_rfl⟩ rds_Txn
  obtain ⟨y2, hy2⟩ := he 2 _ rfl 4 3 ⟨rfl, by kernel_rfl⟩ rds_Work
  obtain ⟨y3, hy3⟩ := he 3 _ rfl 7 1 ⟨rfl, by kernel_rfl⟩ (rds_bool Tryz.underlying4)
  obtain ⟨y4, hy4⟩ := he 4 _ rfl 8 1 ⟨rfl, by kernel_rfl⟩ (rds_slice Tryz.underlying45 (by kernel_rfl) (by kernel_rfl) (by decide) (rds_int Tryz.underlying3))
  obtain ⟨e0, k0_0⟩ := hy0
  have t0 := cutd (o' := 1) e0 rfl
  obtain ⟨e1, k1_0, k1_1, k1_2⟩ := hy1
  have t1 := cutd (o' := 4) e1 rfl
  obtain ⟨v2_0, v2_1, e2, k2_0, k2_1, k2_2⟩ := hy2
  have t2 := cutd (o' := 7) e2 rfl
  have e3 := hy3
  have t3 := cutd (o' := 8) e3 rfl
  obtain ⟨v4_0, e4, k4_0⟩ := hy4
  have t4 := cutd (o' := 9) e4 rfl
  refine ⟨⟨y0, y1, y2, y3, y4⟩, ⟨v2_0, v2_1, v4_0, ?_, k0_0, k1_0, k1_1, k1_2, k2_0, k2_1, k2_2, k4_0⟩⟩
  refine t0.trans ?_
  rw [t1, t2, t3, t4, List.drop_eq_nil_of_le (Nat.le_of_eq hl)]
  try rfl
/-- convoy/convoyref14.Table -/
structure Table where
  Held : (List Hold)
  Prep : (List Rec)
  deriving DecidableEq
abbrev Table.cv (x : Table) (s1 : Value) (s2 : Value) : List Value := [s1, s2]
def rTable : Rd Table := fun H c x => ∃ s1 s2, c = x.cv s1 s2 ∧ SlB rHold 2 24 H s1 x.Held ∧ SlB rRec 9 120 H s2 x.Prep
instance : RdOk rTable 2 := ⟨fun ⟨s1, s2, e, h0, h1⟩ => by subst e; rfl, fun ⟨s1, s2, e, h0, h1⟩ => by subst e; simp only [List.all_cons, List.all_nil, slb_one h0, slb_one h1]; rfl, fun hl ⟨s1, s2, e, h0, h1⟩ => ⟨s1, s2, e, h0.mono hl, h1.mono hl⟩⟩
def zTable : Table := ⟨[], []⟩
theorem zTable_reads {H : Heap} : rTable H [.slice none 0 0, .slice none 0 0] zTable := ⟨nilS, nilS, rfl, SlB.nil, SlB.nil⟩
theorem rds_Table : Rds Tryz.prog 55 rTable := by
  intro H enc W fuel cs d ps h hw
  have hst := Tryz.underlying55
  obtain ⟨hlen, he⟩ := trod_fields hst h hw
  have hl : cs.length = 2 := hlen.trans (by kernel_rfl)
  obtain ⟨y0, hy0⟩ := he 0 _ rfl 0 1 ⟨rfl, by kernel_rfl⟩ (rds_slice Tryz.underlying38 (by kernel_rfl) (by kernel_rfl) (by decide) rds_Hold)
  obtain ⟨y1, hy1⟩ := he 1 _ rfl 1 1 ⟨rfl, by kernel_rfl⟩ (rds_slice Tryz.underlying40 (by kernel_rfl) (by kernel_rfl) (by decide) rds_Rec)
  obtain ⟨v0_0, e0, k0_0⟩ := hy0
  have t0 := cutd (o' := 1) e0 rfl
  obtain ⟨v1_0, e1, k1_0⟩ := hy1
  have t1 := cutd (o' := 2) e1 rfl
  refine ⟨⟨y0, y1⟩, ⟨v0_0, v1_0, ?_, k0_0, k1_0⟩⟩
  refine t0.trans ?_
  rw [t1, List.drop_eq_nil_of_le (Nat.le_of_eq hl)]
  try rfl
/-- convoy/grid.Key -/
structure GridKey where
  Cell : Int
  Other : Int
  Tick : Int
  deriving DecidableEq
abbrev GridKey.cv (x : GridKey) : List Value := [.int .i64 x.Cell, .int .i64 x.Other, .int .i64 x.Tick]
def rGridKey : Rd GridKey := fun H c x => c = x.cv ∧ fits x.Cell ∧ fits x.Other ∧ fits x.Tick
instance : RdOk rGridKey 3 := ⟨fun ⟨e, h0, h1, h2⟩ => by subst e; rfl, fun ⟨e, h0, h1, h2⟩ => by subst e; simp only [List.all_cons, List.all_nil]; rfl, fun hl ⟨e, h0, h1, h2⟩ => ⟨e, h0, h1, h2⟩⟩
def zGridKey : GridKey := ⟨0, 0, 0⟩
theorem zGridKey_reads {H : Heap} : rGridKey H [.int .i64 0, .int .i64 0, .int .i64 0] zGridKey := ⟨rfl, fits0, fits0, fits0⟩
theorem rds_GridKey : Rds Tryz.prog 81 rGridKey := by
  intro H enc W fuel cs d ps h hw
  have hst := Tryz.underlying81
  obtain ⟨hlen, he⟩ := trod_fields hst h hw
  have hl : cs.length = 3 := hlen.trans (by kernel_rfl)
  obtain ⟨y0, hy0⟩ := he 0 _ rfl 0 1 ⟨rfl, by kernel_rfl⟩ (rds_int Tryz.underlying3)
  obtain ⟨y1, hy1⟩ := he 1 _ rfl 1 1 ⟨rfl, by kernel_rfl⟩ (rds_int Tryz.underlying3)
  obtain ⟨y2, hy2⟩ := he 2 _ rfl 2 1 ⟨rfl, by kernel_rfl⟩ (rds_int Tryz.underlying3)
  obtain ⟨e0, k0_0⟩ := hy0
  have t0 := cutd (o' := 1) e0 rfl
  obtain ⟨e1, k1_0⟩ := hy1
  have t1 := cutd (o' := 2) e1 rfl
  obtain ⟨e2, k2_0⟩ := hy2
  have t2 := cutd (o' := 3) e2 rfl
  refine ⟨⟨y0, y1, y2⟩, ⟨?_, k0_0, k1_0, k2_0⟩⟩
  refine t0.trans ?_
  rw [t1, t2, List.drop_eq_nil_of_le (Nat.le_of_eq hl)]
  try rfl
/-- convoy/convoyref12.Key -/
structure Convoyref12Key where
  Cell : Int
  Other : Int
  Tick : Int
  deriving DecidableEq
abbrev Convoyref12Key.cv (x : Convoyref12Key) : List Value := [.int .i64 x.Cell, .int .i64 x.Other, .int .i64 x.Tick]
def rConvoyref12Key : Rd Convoyref12Key := fun H c x => c = x.cv ∧ fits x.Cell ∧ fits x.Other ∧ fits x.Tick
instance : RdOk rConvoyref12Key 3 := ⟨fun ⟨e, h0, h1, h2⟩ => by subst e; rfl, fun ⟨e, h0, h1, h2⟩ => by subst e; simp only [List.all_cons, List.all_nil]; rfl, fun hl ⟨e, h0, h1, h2⟩ => ⟨e, h0, h1, h2⟩⟩
def zConvoyref12Key : Convoyref12Key := ⟨0, 0, 0⟩
theorem zConvoyref12Key_reads {H : Heap} : rConvoyref12Key H [.int .i64 0, .int .i64 0, .int .i64 0] zConvoyref12Key := ⟨rfl, fits0, fits0, fits0⟩
theorem rds_Convoyref12Key : Rds Tryz.prog 124 rConvoyref12Key := by
  intro H enc W fuel cs d ps h hw
  have hst := Tryz.underlying124
  obtain ⟨hlen, he⟩ := trod_fields hst h hw
  have hl : cs.length = 3 := hlen.trans (by kernel_rfl)
  obtain ⟨y0, hy0⟩ := he 0 _ rfl 0 1 ⟨rfl, by kernel_rfl⟩ (rds_int Tryz.underlying3)
  obtain ⟨y1, hy1⟩ := he 1 _ rfl 1 1 ⟨rfl, by kernel_rfl⟩ (rds_int Tryz.underlying3)
  obtain ⟨y2, hy2⟩ := he 2 _ rfl 2 1 ⟨rfl, by kernel_rfl⟩ (rds_int Tryz.underlying3)
  obtain ⟨e0, k0_0⟩ := hy0
  have t0 := cutd (o' := 1) e0 rfl
  obtain ⟨e1, k1_0⟩ := hy1
  have t1 := cutd (o' := 2) e1 rfl
  obtain ⟨e2, k2_0⟩ := hy2
  have t2 := cutd (o' := 3) e2 rfl
  refine ⟨⟨y0, y1, y2⟩, ⟨?_, k0_0, k1_0, k2_0⟩⟩
  refine t0.trans ?_
  rw [t1, t2, List.drop_eq_nil_of_le (Nat.le_of_eq hl)]
  try rfl
/-- errors.errorString -/
structure ErrorString where
  s : ByteArray
  deriving DecidableEq
abbrev ErrorString.cv (x : ErrorString) : List Value := [.string x.s]
def rErrorString : Rd ErrorString := fun H c x => c = x.cv ∧ x.s.size ≤ cap47
instance : RdOk rErrorString 1 := ⟨fun ⟨e, h0⟩ => by subst e; rfl, fun ⟨e, h0⟩ => by subst e; simp only [List.all_cons, List.all_nil]; rfl, fun hl ⟨e, h0⟩ => ⟨e, h0⟩⟩
def zErrorString : ErrorString := ⟨⟨#[]⟩⟩
theorem zErrorString_reads {H : Heap} : rErrorString H [.string ⟨#[]⟩] zErrorString := ⟨rfl, (Nat.zero_le _)⟩
theorem rds_ErrorString : Rds Tryz.prog 196 rErrorString := by
  intro H enc W fuel cs d ps h hw
  have hst := Tryz.underlying196
  obtain ⟨hlen, he⟩ := trod_fields hst h hw
  have hl : cs.length = 1 := hlen.trans (by kernel_rfl)
  obtain ⟨y0, hy0⟩ := he 0 _ rfl 0 1 ⟨rfl, by kernel_rfl⟩ (rds_str Tryz.underlying9)
  obtain ⟨e0, k0_0⟩ := hy0
  have t0 := cutd (o' := 1) e0 rfl
  refine ⟨⟨y0⟩, ⟨?_, k0_0⟩⟩
  refine t0.trans ?_
  rw [List.drop_eq_nil_of_le (Nat.le_of_eq hl)]
  try rfl
end Go.Proofs.YtkhbfjkioehgfaaGreatDoor
