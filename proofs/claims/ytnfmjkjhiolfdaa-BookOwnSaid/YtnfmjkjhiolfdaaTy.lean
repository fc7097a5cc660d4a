/- Written by program (gen_types.py): the values of this seat's types, and how they lie in memory. -/
import Derived.Test.YtnfmjkjhiolfdaaInst
set_option linter.unusedVariables false
set_option linter.unusedSimpArgs false
namespace Go.Proofs.Ytnfmjkjhiolfdaa
open Go Go.Sx Go.Proofs
/-- convoy/api.Map -/
structure Map where
  W : Int
  H : Int
  Shards : Int
  Blocked : (List Int)
  deriving DecidableEq
abbrev Map.cv (x : Map) (s1 : Value) : List Value := [.int .i64 x.W, .int .i64 x.H, .int .i64 x.Shards, s1]
def rMap : Rd Map := fun H c x => ∃ s1, c = x.cv s1 ∧ fits x.W ∧ fits x.H ∧ fits x.Shards ∧ SlB rInt 1 8 H s1 x.Blocked
instance : RdOk rMap 4 := ⟨fun ⟨s1, e, h0, h1, h2, h3⟩ => by subst e; rfl, fun ⟨s1, e, h0, h1, h2, h3⟩ => by subst e; simp only [List.all_cons, List.all_nil, slb_one h3]; rfl, fun hl ⟨s1, e, h0, h1, h2, h3⟩ => ⟨s1, e, h0, h1, h2, h3.mono hl⟩⟩
def zMap : Map := ⟨0, 0, 0, []⟩
theorem zMap_reads {H : Heap} : rMap H [.int .i64 0, .int .i64 0, .int .i64 0, .slice none 0 0] zMap := ⟨nilS, rfl, fits0, fits0, fits0, SlB.nil⟩
theorem rds_Map : Rds Try.prog 24 rMap := by
  intro H enc W fuel cs d ps h hw
  have hst := Try.underlying24
  obtain ⟨hlen, he⟩ := trod_fields hst h hw
  have hl : cs.length = 4 := hlen.trans (by kernel_rfl)
  obtain ⟨y0, hy0⟩ := he 0 _ rfl 0 1 ⟨rfl, by kernel_rfl⟩ (rds_int Try.underlying3)
  obtain ⟨y1, hy1⟩ := he 1 _ rfl 1 1 ⟨rfl, by kernel_rfl⟩ (rds_int Try.underlying3)
  obtain ⟨y2, hy2⟩ := he 2 _ rfl 2 1 ⟨rfl, by kernel_rfl⟩ (rds_int Try.underlying3)
  obtain ⟨y3, hy3⟩ := he 3 _ rfl 3 1 ⟨rfl, by kernel_rfl⟩ (rds_slice Try.underlying22 (by kernel_rfl) (by kernel_rfl) (by decide) (rds_int Try.underlying3))
  obtain ⟨e0, k0_0⟩ := hy0
  have t0 := cutd (o' := 1) e0 rfl
  obtain ⟨e1, k1_0⟩ := hy1
  have t1 := cutd (o' := 2) e1 rfl
  obtain ⟨e2, k2_0⟩ := hy2
  have t2 := cutd (o' := 3) e2 rfl
  obtain ⟨v3_0, e3, k3_0⟩ := hy3
  have t3 := cutd (o' := 4) e3 rfl
  refine ⟨⟨y0, y1, y2, y3⟩, ⟨v3_0, ?_, k0_0, k1_0, k2_0, k3_0⟩⟩
  refine t0.trans ?_
  rw [t1, t2, t3, List.drop_eq_nil_of_le (Nat.le_of_eq hl)]
  try rfl
/-- convoy/api.Route -/
structure Route where
  Start : Int
  Cells : (List Int)
  deriving DecidableEq
abbrev Route.cv (x : Route) (s1 : Value) : List Value := [.int .i64 x.Start, s1]
def rRoute : Rd Route := fun H c x => ∃ s1, c = x.cv s1 ∧ fits x.Start ∧ SlB rInt 1 8 H s1 x.Cells
instance : RdOk rRoute 2 := ⟨fun ⟨s1, e, h0, h1⟩ => by subst e; rfl, fun ⟨s1, e, h0, h1⟩ => by subst e; simp only [List.all_cons, List.all_nil, slb_one h1]; rfl, fun hl ⟨s1, e, h0, h1⟩ => ⟨s1, e, h0, h1.mono hl⟩⟩
def zRoute : Route := ⟨0, []⟩
theorem zRoute_reads {H : Heap} : rRoute H [.int .i64 0, .slice none 0 0] zRoute := ⟨nilS, rfl, fits0, SlB.nil⟩
theorem rds_Route : Rds Try.prog 28 rRoute := by
  intro H enc W fuel cs d ps h hw
  have hst := Try.underlying28
  obtain ⟨hlen, he⟩ := trod_fields hst h hw
  have hl : cs.length = 2 := hlen.trans (by kernel_rfl)
  obtain ⟨y0, hy0⟩ := he 0 _ rfl 0 1 ⟨rfl, by kernel_rfl⟩ (rds_int Try.underlying3)
  obtain ⟨y1, hy1⟩ := he 1 _ rfl 1 1 ⟨rfl, by kernel_rfl⟩ (rds_slice Try.underlying22 (by kernel_rfl) (by kernel_rfl) (by decide) (rds_int Try.underlying3))
  obtain ⟨e0, k0_0⟩ := hy0
  have t0 := cutd (o' := 1) e0 rfl
  obtain ⟨v1_0, e1, k1_0⟩ := hy1
  have t1 := cutd (o' := 2) e1 rfl
  refine ⟨⟨y0, y1⟩, ⟨v1_0, ?_, k0_0, k1_0⟩⟩
  refine t0.trans ?_
  rw [t1, List.drop_eq_nil_of_le (Nat.le_of_eq hl)]
  try rfl
/-- convoy/api.Call -/
structure Call where
  Verb : Int
  Epoch : Int
  Route : Route
  deriving DecidableEq
abbrev Call.cv (x : Call) (s1 : Value) : List Value := [.int .i64 x.Verb, .int .i64 x.Epoch, .int .i64 x.Route.Start, s1]
def rCall : Rd Call := fun H c x => ∃ s1, c = x.cv s1 ∧ fits x.Verb ∧ fits x.Epoch ∧ fits x.Route.Start ∧ SlB rInt 1 8 H s1 x.Route.Cells
instance : RdOk rCall 4 := ⟨fun ⟨s1, e, h0, h1, h2, h3⟩ => by subst e; rfl, fun ⟨s1, e, h0, h1, h2, h3⟩ => by subst e; simp only [List.all_cons, List.all_nil, slb_one h3]; rfl, fun hl ⟨s1, e, h0, h1, h2, h3⟩ => ⟨s1, e, h0, h1, h2, h3.mono hl⟩⟩
def zCall : Call := ⟨0, 0, ⟨0, []⟩⟩
theorem zCall_reads {H : Heap} : rCall H [.int .i64 0, .int .i64 0, .int .i64 0, .slice none 0 0] zCall := ⟨nilS, rfl, fits0, fits0, fits0, SlB.nil⟩
theorem rds_Call : Rds Try.prog 30 rCall := by
  intro H enc W fuel cs d ps h hw
  have hst := Try.underlying30
  obtain ⟨hlen, he⟩ := trod_fields hst h hw
  have hl : cs.length = 4 := hlen.trans (by kernel_rfl)
  obtain ⟨y0, hy0⟩ := he 0 _ rfl 0 1 ⟨rfl, by kernel_rfl⟩ (rds_int Try.underlying26)
  obtain ⟨y1, hy1⟩ := he 1 _ rfl 1 1 ⟨rfl, by kernel_rfl⟩ (rds_int Try.underlying3)
  obtain ⟨y2, hy2⟩ := he 2 _ rfl 2 2 ⟨rfl, by kernel_rfl⟩ rds_Route
  obtain ⟨e0, k0_0⟩ := hy0
  have t0 := cutd (o' := 1) e0 rfl
  obtain ⟨e1, k1_0⟩ := hy1
  have t1 := cutd (o' := 2) e1 rfl
  obtain ⟨v2_0, e2, k2_0, k2_1⟩ := hy2
  have t2 := cutd (o' := 4) e2 rfl
  refine ⟨⟨y0, y1, y2⟩, ⟨v2_0, ?_, k0_0, k1_0, k2_0, k2_1⟩⟩
  refine t0.trans ?_
  rw [t1, t2, List.drop_eq_nil_of_le (Nat.le_of_eq hl)]
  try rfl
/-- convoy/convoylaw20.Said -/
structure Said where
  Robot : Int
  Tick : Int
  Call : Call
  deriving DecidableEq
abbrev Said.cv (x : Said) (s1 : Value) : List Value := [.int .i64 x.Robot, .int .i64 x.Tick, .int .i64 x.Call.Verb, .int .i64 x.Call.Epoch, .int .i64 x.Call.Route.Start, s1]
def rSaid : Rd Said := fun H c x => ∃ s1, c = x.cv s1 ∧ fits x.Robot ∧ fits x.Tick ∧ fits x.Call.Verb ∧ fits x.Call.Epoch ∧ fits x.Call.Route.Start ∧ SlB rInt 1 8 H s1 x.Call.Route.Cells
instance : RdOk rSaid 6 := ⟨fun ⟨s1, e, h0, h1, h2, h3, h4, h5⟩ => by subst e; rfl, fun ⟨s1, e, h0, h1, h2, h3, h4, h5⟩ => by subst e; simp only [List.all_cons, List.all_nil, slb_one h5]; rfl, fun hl ⟨s1, e, h0, h1, h2, h3, h4, h5⟩ => ⟨s1, e, h0, h1, h2, h3, h4, h5.mono hl⟩⟩
def zSaid : Said := ⟨0, 0, ⟨0, 0, ⟨0, []⟩⟩⟩
theorem zSaid_reads {H : Heap} : rSaid H [.int .i64 0, .int .i64 0, .int .i64 0, .int .i64 0, .int .i64 0, .slice none 0 0] zSaid := ⟨nilS, rfl, fits0, fits0, fits0, fits0, fits0, SlB.nil⟩
theorem rds_Said : Rds Try.prog 32 rSaid := by
  intro H enc W fuel cs d ps h hw
  have hst := Try.underlying32
  obtain ⟨hlen, he⟩ := trod_fields hst h hw
  have hl : cs.length = 6 := hlen.trans (by kernel_rfl)
  obtain ⟨y0, hy0⟩ := he 0 _ rfl 0 1 ⟨rfl, by kernel_rfl⟩ (rds_int Try.underlying3)
  obtain ⟨y1, hy1⟩ := he 1 _ rfl 1 1 ⟨rfl, by kernel_rfl⟩ (rds_int Try.underlying3)
  obtain ⟨y2, hy2⟩ := he 2 _ rfl 2 4 ⟨rfl, by kernel_rfl⟩ rds_Call
  obtain ⟨e0, k0_0⟩ := hy0
  have t0 := cutd (o' := 1) e0 rfl
  obtain ⟨e1, k1_0⟩ := hy1
  have t1 := cutd (o' := 2) e1 rfl
  obtain ⟨v2_0, e2, k2_0, k2_1, k2_2, k2_3⟩ := hy2
  have t2 := cutd (o' := 6) e2 rfl
  refine ⟨⟨y0, y1, y2⟩, ⟨v2_0, ?_, k0_0, k1_0, k2_0, k2_1, k2_2, k2_3⟩⟩
  refine t0.trans ?_
  rw [t1, t2, List.drop_eq_nil_of_le (Nat.le_of_eq hl)]
  try rfl
/-- convoy/convoyref20.Book -/
structure Book where
  Epochs : (List Int)
  Routes : (List Route)
  deriving DecidableEq
abbrev Book.cv (x : Book) (s1 : Value) (s2 : Value) : List Value := [s1, s2]
def rBook : Rd Book := fun H c x => ∃ s1 s2, c = x.cv s1 s2 ∧ SlB rInt 1 8 H s1 x.Epochs ∧ SlB rRoute 2 32 H s2 x.Routes
instance : RdOk rBook 2 := ⟨fun ⟨s1, s2, e, h0, h1⟩ => by subst e; rfl, fun ⟨s1, s2, e, h0, h1⟩ => by subst e; simp only [List.all_cons, List.all_nil, slb_one h0, slb_one h1]; rfl, fun hl ⟨s1, s2, e, h0, h1⟩ => ⟨s1, s2, e, h0.mono hl, h1.mono hl⟩⟩
def zBook : Book := ⟨[], []⟩
theorem zBook_reads {H : Heap} : rBook H [.slice none 0 0, .slice none 0 0] zBook := ⟨nilS, nilS, rfl, SlB.nil, SlB.nil⟩
theorem rds_Book : Rds Try.prog 43 rBook := by
  intro H enc W fuel cs d ps h hw
  have hst := Try.underlying43
  obtain ⟨hlen, he⟩ := trod_fields hst h hw
  have hl : cs.length = 2 := hlen.trans (by kernel_rfl)
  obtain ⟨y0, hy0⟩ := he 0 _ rfl 0 1 ⟨rfl, by kernel_rfl⟩ (rds_slice Try.underlying22 (by kernel_rfl) (by kernel_rfl) (by decide) (rds_int Try.underlying3))
  obtain ⟨y1, hy1⟩ := he 1 _ rfl 1 1 ⟨rfl, by kernel_rfl⟩ (rds_slice Try.underlying41 (by kernel_rfl) (by kernel_rfl) (by decide) rds_Route)
  obtain ⟨v0_0, e0, k0_0⟩ := hy0
  have t0 := cutd (o' := 1) e0 rfl
  obtain ⟨v1_0, e1, k1_0⟩ := hy1
  have t1 := cutd (o' := 2) e1 rfl
  refine ⟨⟨y0, y1⟩, ⟨v0_0, v1_0, ?_, k0_0, k1_0⟩⟩
  refine t0.trans ?_
  rw [t1, List.drop_eq_nil_of_le (Nat.le_of_eq hl)]
  try rfl
/-- convoy/api.Reply -/
structure Reply where
  Code : Int
  Epoch : Int
  Route : Route
  deriving DecidableEq
abbrev Reply.cv (x : Reply) (s1 : Value) : List Value := [.int .i64 x.Code, .int .i64 x.Epoch, .int .i64 x.Route.Start, s1]
def rReply : Rd Reply := fun H c x => ∃ s1, c = x.cv s1 ∧ fits x.Code ∧ fits x.Epoch ∧ fits x.Route.Start ∧ SlB rInt 1 8 H s1 x.Route.Cells
instance : RdOk rReply 4 := ⟨fun ⟨s1, e, h0, h1, h2, h3⟩ => by subst e; rfl, fun ⟨s1, e, h0, h1, h2, h3⟩ => by subst e; simp only [List.all_cons, List.all_nil, slb_one h3]; rfl, fun hl ⟨s1, e, h0, h1, h2, h3⟩ => ⟨s1, e, h0, h1, h2, h3.mono hl⟩⟩
def zReply : Reply := ⟨0, 0, ⟨0, []⟩⟩
theorem zReply_reads {H : Heap} : rReply H [.int .i64 0, .int .i64 0, .int .i64 0, .slice none 0 0] zReply := ⟨nilS, rfl, fits0, fits0, fits0, SlB.nil⟩
theorem rds_Reply : Rds Try.prog 47 rReply := by
  intro H enc W fuel cs d ps h hw
  have hst := Try.underlying47
  obtain ⟨hlen, he⟩ := trod_fields hst h hw
  have hl : cs.length = 4 := hlen.trans (by kernel_rfl)
  obtain ⟨y0, hy0⟩ := he 0 _ rfl 0 1 ⟨rfl, by kernel_rfl⟩ (rds_int Try.underlying35)
  obtain ⟨y1, hy1⟩ := he 1 _ rfl 1 1 ⟨rfl, by kernel_rfl⟩ (rds_int Try.underlying3)
  obtain ⟨y2, hy2⟩ := he 2 _ rfl 2 2 ⟨rfl, by kernel_rfl⟩ rds_Route
  obtain ⟨e0, k0_0⟩ := hy0
  have t0 := cutd (o' := 1) e0 rfl
  obtain ⟨e1, k1_0⟩ := hy1
  have t1 := cutd (o' := 2) e1 rfl
  obtain ⟨v2_0, e2, k2_0, k2_1⟩ := hy2
  have t2 := cutd (o' := 4) e2 rfl
  refine ⟨⟨y0, y1, y2⟩, ⟨v2_0, ?_, k0_0, k1_0, k2_0, k2_1⟩⟩
  refine t0.trans ?_
  rw [t1, t2, List.drop_eq_nil_of_le (Nat.le_of_eq hl)]
  try rfl
end Go.Proofs.Ytnfmjkjhiolfdaa
