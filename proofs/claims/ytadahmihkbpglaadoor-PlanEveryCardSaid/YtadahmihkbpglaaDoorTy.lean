/- Written by program (gen_types.py): the values of this seat's types, and how they lie in memory. -/
import Derived.Test.YtadahmihkbpglaaDoorInst
set_option linter.unusedVariables false
set_option linter.unusedSimpArgs false
namespace Go.Proofs.YtadahmihkbpglaaDoor
open Go Go.Sx Go.Proofs
/-- convoy/api.Map -/
structure Map where
  W : Int
  H : Int
  Shards : Int
  Blocked : (List Int)
  deriving DecidableEq
abbrev Map.cv (x : Map) (s1 : Value) : List Value := [.int .i64 x.W, .int .i64 x.H, .int .i64 x.Shards, s1]
def rMap : Rd Map := fun H c x => ∃ s1, c = x.cv s1 ∧ fits x.W ∧ fits x.H ∧ fits x.Shards ∧ SlB rInt 1 8 H s1 x.Blocked
instance : RdOk rMap 4 := ⟨fun ⟨s1, e, h0, h1, h2, h3⟩ => by subst e; rfl, fun ⟨s1, e, h0, h1, h2, h3⟩ => by subst e; simp only [List.all_cons, List.all_nil, slb_one h3]; rfl, fun hl ⟨s1, e, h0, h1, h2, h3⟩ => ⟨s1, e, h0, h1, h2, h3.mono hl⟩⟩
def zMap : Map := ⟨0, 0, 0, []⟩
theorem zMap_reads {H : Heap} : rMap H [.int .i64 0, .int .i64 0, .int .i64 0, .slice none 0 0] zMap := ⟨nilS, rfl, fits0, fits0, fits0, SlB.nil⟩
theorem rds_Map : Rds Tryd.prog 24 rMap := by
  intro H enc W fuel cs d ps h hw
  have hst := Tryd.underlying24
  obtain ⟨hlen, he⟩ := trod_fields hst h hw
  have hl : cs.length = 4 := hlen.trans (by kernel_rfl)
  obtain ⟨y0, hy0⟩ := he 0 _ rfl 0 1 ⟨rfl, by kernel_rfl⟩ (rds_int Tryd.underlying3)
  obtain ⟨y1, hy1⟩ := he 1 _ rfl 1 1 ⟨rfl, by kernel_rfl⟩ (rds_int Tryd.underlying3)
  obtain ⟨y2, hy2⟩ := he 2 _ rfl 2 1 ⟨rfl, by kernel_rfl⟩ (rds_int Tryd.underlying3)
  obtain ⟨y3, hy3⟩ := he 3 _ rfl 3 1 ⟨rfl, by kernel_rfl⟩ (rds_slice Tryd.underlying22 (by kernel_rfl) (by kernel_rfl) (by decide) (rds_int Tryd.underlying3))
  obtain ⟨e0, k0_0⟩ := hy0
  have t0 := cutd (o' := 1) e0 rfl
  obtain ⟨e1, k1_0⟩ := hy1
  have t1 := cutd (o' := 2) e1 rfl
  obtain ⟨e2, k2_0⟩ := hy2
  have t2 := cutd (o' := 3) e2 rfl
  obtain ⟨v3_0, e3, k3_0⟩ := hy3
  have t3 := cutd (o' := 4) e3 rfl
  refine ⟨⟨y0, y1, y2, y3⟩, ⟨v3_0, ?_, k0_0, k1_0, k2_0, k3_0⟩⟩
  refine t0.trans ?_
  rw [t1, t2, t3, List.drop_eq_nil_of_le (Nat.le_of_eq hl)]
  try rfl
/-- convoy/planner.Job -/
structure Job where
  Cell : Int
  Tick : Int
  Goal : Int
  N : Int
  Taken : (List ByteArray)
  deriving DecidableEq
abbrev Job.cv (x : Job) (s1 : Value) : List Value := [.int .i64 x.Cell, .int .i64 x.Tick, .int .i64 x.Goal, .int .i64 x.N, s1]
def rJob : Rd Job := fun H c x => ∃ s1, c = x.cv s1 ∧ fits x.Cell ∧ fits x.Tick ∧ fits x.Goal ∧ fits x.N ∧ SlB rStr 1 16 H s1 x.Taken
instance : RdOk rJob 5 := ⟨fun ⟨s1, e, h0, h1, h2, h3, h4⟩ => by subst e; rfl, fun ⟨s1, e, h0, h1, h2, h3, h4⟩ => by subst e; simp only [List.all_cons, List.all_nil, slb_one h4]; rfl, fun hl ⟨s1, e, h0, h1, h2, h3, h4⟩ => ⟨s1, e, h0, h1, h2, h3, h4.mono hl⟩⟩
def zJob : Job := ⟨0, 0, 0, 0, []⟩
theorem zJob_reads {H : Heap} : rJob H [.int .i64 0, .int .i64 0, .int .i64 0, .int .i64 0, .slice none 0 0] zJob := ⟨nilS, rfl, fits0, fits0, fits0, fits0, SlB.nil⟩
theorem rds_Job : Rds Tryd.prog 27 rJob := by
  intro H enc W fuel cs d ps h hw
  have hst := Tryd.underlying27
  obtain ⟨hlen, he⟩ := trod_fields hst h hw
  have hl : cs.length = 5 := hlen.trans (by kernel_rfl)
  obtain ⟨y0, hy0⟩ := he 0 _ rfl 0 1 ⟨rfl, by kernel_rfl⟩ (rds_int Tryd.underlying3)
  obtain ⟨y1, hy1⟩ := he 1 _ rfl 1 1 ⟨rfl, by kernel_rfl⟩ (rds_int Tryd.underlying3)
  obtain ⟨y2, hy2⟩ := he 2 _ rfl 2 1 ⟨rfl, by kernel_rfl⟩ (rds_int Tryd.underlying3)
  obtain ⟨y3, hy3⟩ := he 3 _ rfl 3 1 ⟨rfl, by kernel_rfl⟩ (rds_int Tryd.underlying3)
  obtain ⟨y4, hy4⟩ := he 4 _ rfl 4 1 ⟨rfl, by kernel_rfl⟩ (rds_slice Tryd.underlying25 (by kernel_rfl) (by kernel_rfl) (by decide) (rds_str Tryd.underlying9))
  obtain ⟨e0, k0_0⟩ := hy0
  have t0 := cutd (o' := 1) e0 rfl
  obtain ⟨e1, k1_0⟩ := hy1
  have t1 := cutd (o' := 2) e1 rfl
  obtain ⟨e2, k2_0⟩ := hy2
  have t2 := cutd (o' := 3) e2 rfl
  obtain ⟨e3, k3_0⟩ := hy3
  have t3 := cutd (o' := 4) e3 rfl
  obtain ⟨v4_0, e4, k4_0⟩ := hy4
  have t4 := cutd (o' := 5) e4 rfl
  refine ⟨⟨y0, y1, y2, y3, y4⟩, ⟨v4_0, ?_, k0_0, k1_0, k2_0, k3_0, k4_0⟩⟩
  refine t0.trans ?_
  rw [t1, t2, t3, t4, List.drop_eq_nil_of_le (Nat.le_of_eq hl)]
  try rfl
/-- convoy/api.Route -/
structure Route where
  Start : Int
  Cells : (List Int)
  deriving DecidableEq
abbrev Route.cv (x : Route) (s1 : Value) : List Value := [.int .i64 x.Start, s1]
def rRoute : Rd Route := fun H c x => ∃ s1, c = x.cv s1 ∧ fits x.Start ∧ SlB rInt 1 8 H s1 x.Cells
instance : RdOk rRoute 2 := ⟨fun ⟨s1, e, h0, h1⟩ => by subst e; rfl, fun ⟨s1, e, h0, h1⟩ => by subst e; simp only [List.all_cons, List.all_nil, slb_one h1]; rfl, fun hl ⟨s1, e, h0, h1⟩ => ⟨s1, e, h0, h1.mono hl⟩⟩
def zRoute : Route := ⟨0, []⟩
theorem zRoute_reads {H : Heap} : rRoute H [.int .i64 0, .slice none 0 0] zRoute := ⟨nilS, rfl, fits0, SlB.nil⟩
theorem rds_Route : Rds Tryd.prog 36 rRoute := by
  intro H enc W fuel cs d ps h hw
  have hst := Tryd.underlying36
  obtain ⟨hlen, he⟩ := trod_fields hst h hw
  have hl : cs.length = 2 := hlen.trans (by kernel_rfl)
  obtain ⟨y0, hy0⟩ := he 0 _ rfl 0 1 ⟨rfl, by kernel_rfl⟩ (rds_int Tryd.underlying3)
  obtain ⟨y1, hy1⟩ := he 1 _ rfl 1 1 ⟨rfl, by kernel_rfl⟩ (rds_slice Tryd.underlying22 (by kernel_rfl) (by kernel_rfl) (by decide) (rds_int Tryd.underlying3))
  obtain ⟨e0, k0_0⟩ := hy0
  have t0 := cutd (o' := 1) e0 rfl
  obtain ⟨v1_0, e1, k1_0⟩ := hy1
  have t1 := cutd (o' := 2) e1 rfl
  refine ⟨⟨y0, y1⟩, ⟨v1_0, ?_, k0_0, k1_0⟩⟩
  refine t0.trans ?_
  rw [t1, List.drop_eq_nil_of_le (Nat.le_of_eq hl)]
  try rfl
/-- convoy/planner.rest -/
structure Rest where
  ok : Bool
  comes : Int
  far : Int
  passes : Int
  next : Int
  deriving DecidableEq
abbrev Rest.cv (x : Rest) : List Value := [.bool x.ok, .int .i64 x.comes, .int .i64 x.far, .int .i64 x.passes, .int .i64 x.next]
def rRest : Rd Rest := fun H c x => c = x.cv ∧ fits x.comes ∧ fits x.far ∧ fits x.passes ∧ fits x.next
instance : RdOk rRest 5 := ⟨fun ⟨e, h0, h1, h2, h3⟩ => by subst e; rfl, fun ⟨e, h0, h1, h2, h3⟩ => by subst e; simp only [List.all_cons, List.all_nil]; rfl, fun hl ⟨e, h0, h1, h2, h3⟩ => ⟨e, h0, h1, h2, h3⟩⟩
def zRest : Rest := ⟨false, 0, 0, 0, 0⟩
theorem zRest_reads {H : Heap} : rRest H [.bool false, .int .i64 0, .int .i64 0, .int .i64 0, .int .i64 0] zRest := ⟨rfl, fits0, fits0, fits0, fits0⟩
theorem rds_Rest : Rds Tryd.prog 64 rRest := by
  intro H enc W fuel cs d ps h hw
  have hst := Tryd.underlying64
  obtain ⟨hlen, he⟩ := trod_fields hst h hw
  have hl : cs.length = 5 := hlen.trans (by kernel_rfl)
  obtain ⟨y0, hy0⟩ := he 0 _ rfl 0 1 ⟨rfl, by kernel_rfl⟩ (rds_bool Tryd.underlying4)
  obtain ⟨y1, hy1⟩ := he 1 _ rfl 1 1 ⟨rfl, by kernel_rfl⟩ (rds_int Tryd.underlying3)
  obtain ⟨y2, hy2⟩ := he 2 _ rfl 2 1 ⟨rfl, by kernel_rfl⟩ (rds_int Tryd.underlying3)
  obtain ⟨y3, hy3⟩ := he 3 _ rfl 3 1 ⟨rfl, by kernel_rfl⟩ (rds_int Tryd.underlying3)
  obtain ⟨y4, hy4⟩ := he 4 _ rfl 4 1 ⟨rfl, by kernel_rfl⟩ (rds_int Tryd.underlying3)
  have e0 := hy0
  have t0 := cutd (o' := 1) e0 rfl
  obtain ⟨e1, k1_0⟩ := hy1
  have t1 := cutd (o' := 2) e1 rfl
  obtain ⟨e2, k2_0⟩ := hy2
  have t2 := cutd (o' := 3) e2 rfl
  obtain ⟨e3, k3_0⟩ := hy3
  have t3 := cutd (o' := 4) e3 rfl
  obtain ⟨e4, k4_0⟩ := hy4
  have t4 := cutd (o' := 5) e4 rfl
  refine ⟨⟨y0, y1, y2, y3, y4⟩, ⟨?_, k1_0, k2_0, k3_0, k4_0⟩⟩
  refine t0.trans ?_
  rw [t1, t2, t3, t4, List.drop_eq_nil_of_le (Nat.le_of_eq hl)]
  try rfl
end Go.Proofs.YtadahmihkbpglaaDoor
