/- Written by program (gen_types.py): the values of this seat's types, and how they lie in memory. -/
import Derived.Test.YtnfmjkjhiolfdaaDoorInst
set_option linter.unusedVariables false
set_option linter.unusedSimpArgs false
namespace Go.Proofs.YtnfmjkjhiolfdaaDoor
open Go Go.Sx Go.Proofs
/-- convoy/api.Map -/
structure Map where
  W : Int
  H : Int
  Shards : Int
  Blocked : (List Int)
  deriving DecidableEq
abbrev Map.cv (x : Map) (s1 : Value) : List Value := [.int .i64 x.W, .int .i64 x.H, .int .i64 x.Shards, s1]
def rMap : Rd Map := fun H c x => ∃ s1, c = x.cv s1 ∧ fits x.W ∧ fits x.H ∧ fits x.Shards ∧ SlB rInt 1 8 H s1 x.Blocked
instance : RdOk rMap 4 := ⟨fun ⟨s1, e, h0, h1, h2, h3⟩ => by subst e; rfl, fun ⟨s1, e, h0, h1, h2, h3⟩ => by subst e; simp only [List.all_cons, List.all_nil, slb_one h3]; rfl, fun hl ⟨s1, e, h0, h1, h2, h3⟩ => ⟨s1, e, h0, h1, h2, h3.mono hl⟩⟩
def zMap : Map := ⟨0, 0, 0, []⟩
theorem zMap_reads {H : Heap} : rMap H [.int .i64 0, .int .i64 0, .int .i64 0, .slice none 0 0] zMap := ⟨nilS, rfl, fits0, fits0, fits0, SlB.nil⟩
theorem rds_Map : Rds Tryd.prog 24 rMap := by
  intro H enc W fuel cs d ps h hw
  have hst := Tryd.underlying24
  obtain ⟨hlen, he⟩ := trod_fields hst h hw
  have hl : cs.length = 4 := hlen.trans (by kernel_rfl)
  obtain ⟨y0, hy0⟩ := he 0 _ rfl 0 1 ⟨rfl, by kernel_rfl⟩ (rds_int Tryd.underlying3)
  obtain ⟨y1, hy1⟩ := he 1 _ rfl 1 1 ⟨rfl, by kernel_rfl⟩ (rds_int Tryd.underlying3)
  obtain ⟨y2, hy2⟩ := he 2 _ rfl 2 1 ⟨rfl, by kernel_rfl⟩ (rds_int Tryd.underlying3)
  obtain ⟨y3, hy3⟩ := he 3 _ rfl 3 1 ⟨rfl, by kernel_rfl⟩ (rds_slice Tryd.underlying22 (by kernel_rfl) (by kernel_rfl) (by decide) (rds_int Tryd.underlying3))
  obtain ⟨e0, k0_0⟩ := hy0
  have t0 := cutd (o' := 1) e0 rfl
  obtain ⟨e1, k1_0⟩ := hy1
  have t1 := cutd (o' := 2) e1 rfl
  obtain ⟨e2, k2_0⟩ := hy2
  have t2 := cutd (o' := 3) e2 rfl
  obtain ⟨v3_0, e3, k3_0⟩ := hy3
  have t3 := cutd (o' := 4) e3 rfl
  refine ⟨⟨y0, y1, y2, y3⟩, ⟨v3_0, ?_, k0_0, k1_0, k2_0, k3_0⟩⟩
  refine t0.trans ?_
  rw [t1, t2, t3, List.drop_eq_nil_of_le (Nat.le_of_eq hl)]
  try rfl
/-- convoy/api.Route -/
structure Route where
  Start : Int
  Cells : (List Int)
  deriving DecidableEq
abbrev Route.cv (x : Route) (s1 : Value) : List Value := [.int .i64 x.Start, s1]
def rRoute : Rd Route := fun H c x => ∃ s1, c = x.cv s1 ∧ fits x.Start ∧ SlB rInt 1 8 H s1 x.Cells
instance : RdOk rRoute 2 := ⟨fun ⟨s1, e, h0, h1⟩ => by subst e; rfl, fun ⟨s1, e, h0, h1⟩ => by subst e; simp only [List.all_cons, List.all_nil, slb_one h1]; rfl, fun hl ⟨s1, e, h0, h1⟩ => ⟨s1, e, h0, h1.mono hl⟩⟩
def zRoute : Route := ⟨0, []⟩
theorem zRoute_reads {H : Heap} : rRoute H [.int .i64 0, .slice none 0 0] zRoute := ⟨nilS, rfl, fits0, SlB.nil⟩
theorem rds_Route : Rds Tryd.prog 26 rRoute := by
  intro H enc W fuel cs d ps h hw
  have hst := Tryd.underlying26
  obtain ⟨hlen, he⟩ := trod_fields hst h hw
  have hl : cs.length = 2 := hlen.trans (by kernel_rfl)
  obtain ⟨y0, hy0⟩ := he 0 _ rfl 0 1 ⟨rfl, by kernel_rfl⟩ (rds_int Tryd.underlying3)
  obtain ⟨y1, hy1⟩ := he 1 _ rfl 1 1 ⟨rfl, by kernel_rfl⟩ (rds_slice Tryd.underlying22 (by kernel_rfl) (by kernel_rfl) (by decide) (rds_int Tryd.underlying3))
  obtain ⟨e0, k0_0⟩ := hy0
  have t0 := cutd (o' := 1) e0 rfl
  obtain ⟨v1_0, e1, k1_0⟩ := hy1
  have t1 := cutd (o' := 2) e1 rfl
  refine ⟨⟨y0, y1⟩, ⟨v1_0, ?_, k0_0, k1_0⟩⟩
  refine t0.trans ?_
  rw [t1, List.drop_eq_nil_of_le (Nat.le_of_eq hl)]
  try rfl
/-- convoy/grid.Key -/
structure GridKey where
  Cell : Int
  Other : Int
  Tick : Int
  deriving DecidableEq
abbrev GridKey.cv (x : GridKey) : List Value := [.int .i64 x.Cell, .int .i64 x.Other, .int .i64 x.Tick]
def rGridKey : Rd GridKey := fun H c x => c = x.cv ∧ fits x.Cell ∧ fits x.Other ∧ fits x.Tick
instance : RdOk rGridKey 3 := ⟨fun ⟨e, h0, h1, h2⟩ => by subst e; rfl, fun ⟨e, h0, h1, h2⟩ => by subst e; simp only [List.all_cons, List.all_nil]; rfl, fun hl ⟨e, h0, h1, h2⟩ => ⟨e, h0, h1, h2⟩⟩
def zGridKey : GridKey := ⟨0, 0, 0⟩
theorem zGridKey_reads {H : Heap} : rGridKey H [.int .i64 0, .int .i64 0, .int .i64 0] zGridKey := ⟨rfl, fits0, fits0, fits0⟩
theorem rds_GridKey : Rds Tryd.prog 61 rGridKey := by
  intro H enc W fuel cs d ps h hw
  have hst := Tryd.underlying61
  obtain ⟨hlen, he⟩ := trod_fields hst h hw
  have hl : cs.length = 3 := hlen.trans (by kernel_rfl)
  obtain ⟨y0, hy0⟩ := he 0 _ rfl 0 1 ⟨rfl, by kernel_rfl⟩ (rds_int Tryd.underlying3)
  obtain ⟨y1, hy1⟩ := he 1 _ rfl 1 1 ⟨rfl, by kernel_rfl⟩ (rds_int Tryd.underlying3)
  obtain ⟨y2, hy2⟩ := he 2 _ rfl 2 1 ⟨rfl, by kernel_rfl⟩ (rds_int Tryd.underlying3)
  obtain ⟨e0, k0_0⟩ := hy0
  have t0 := cutd (o' := 1) e0 rfl
  obtain ⟨e1, k1_0⟩ := hy1
  have t1 := cutd (o' := 2) e1 rfl
  obtain ⟨e2, k2_0⟩ := hy2
  have t2 := cutd (o' := 3) e2 rfl
  refine ⟨⟨y0, y1, y2⟩, ⟨?_, k0_0, k1_0, k2_0⟩⟩
  refine t0.trans ?_
  rw [t1, t2, List.drop_eq_nil_of_le (Nat.le_of_eq hl)]
  try rfl
/-- convoy/convoyref12.Key -/
structure Convoyref12Key where
  Cell : Int
  Other : Int
  Tick : Int
  deriving DecidableEq
abbrev Convoyref12Key.cv (x : Convoyref12Key) : List Value := [.int .i64 x.Cell, .int .i64 x.Other, .int .i64 x.Tick]
def rConvoyref12Key : Rd Convoyref12Key := fun H c x => c = x.cv ∧ fits x.Cell ∧ fits x.Other ∧ fits x.Tick
instance : RdOk rConvoyref12Key 3 := ⟨fun ⟨e, h0, h1, h2⟩ => by subst e; rfl, fun ⟨e, h0, h1, h2⟩ => by subst e; simp only [List.all_cons, List.all_nil]; rfl, fun hl ⟨e, h0, h1, h2⟩ => ⟨e, h0, h1, h2⟩⟩
def zConvoyref12Key : Convoyref12Key := ⟨0, 0, 0⟩
theorem zConvoyref12Key_reads {H : Heap} : rConvoyref12Key H [.int .i64 0, .int .i64 0, .int .i64 0] zConvoyref12Key := ⟨rfl, fits0, fits0, fits0⟩
theorem rds_Convoyref12Key : Rds Tryd.prog 64 rConvoyref12Key := by
  intro H enc W fuel cs d ps h hw
  have hst := Tryd.underlying64
  obtain ⟨hlen, he⟩ := trod_fields hst h hw
  have hl : cs.length = 3 := hlen.trans (by kernel_rfl)
  obtain ⟨y0, hy0⟩ := he 0 _ rfl 0 1 ⟨rfl, by kernel_rfl⟩ (rds_int Tryd.underlying3)
  obtain ⟨y1, hy1⟩ := he 1 _ rfl 1 1 ⟨rfl, by kernel_rfl⟩ (rds_int Tryd.underlying3)
  obtain ⟨y2, hy2⟩ := he 2 _ rfl 2 1 ⟨rfl, by kernel_rfl⟩ (rds_int Tryd.underlying3)
  obtain ⟨e0, k0_0⟩ := hy0
  have t0 := cutd (o' := 1) e0 rfl
  obtain ⟨e1, k1_0⟩ := hy1
  have t1 := cutd (o' := 2) e1 rfl
  obtain ⟨e2, k2_0⟩ := hy2
  have t2 := cutd (o' := 3) e2 rfl
  refine ⟨⟨y0, y1, y2⟩, ⟨?_, k0_0, k1_0, k2_0⟩⟩
  refine t0.trans ?_
  rw [t1, t2, List.drop_eq_nil_of_le (Nat.le_of_eq hl)]
  try rfl
/-- errors.errorString -/
structure ErrorString where
  s : ByteArray
  deriving DecidableEq
abbrev ErrorString.cv (x : ErrorString) : List Value := [.string x.s]
def rErrorString : Rd ErrorString := fun H c x => c = x.cv ∧ x.s.size ≤ cap47
instance : RdOk rErrorString 1 := ⟨fun ⟨e, h0⟩ => by subst e; rfl, fun ⟨e, h0⟩ => by subst e; simp only [List.all_cons, List.all_nil]; rfl, fun hl ⟨e, h0⟩ => ⟨e, h0⟩⟩
def zErrorString : ErrorString := ⟨⟨#[]⟩⟩
theorem zErrorString_reads {H : Heap} : rErrorString H [.string ⟨#[]⟩] zErrorString := ⟨rfl, (Nat.zero_le _)⟩
theorem rds_ErrorString : Rds Tryd.prog 164 rErrorString := by
  intro H enc W fuel cs d ps h hw
  have hst := Tryd.underlying164
  obtain ⟨hlen, he⟩ := trod_fields hst h hw
  have hl : cs.length = 1 := hlen.trans (by kernel_rfl)
  obtain ⟨y0, hy0⟩ := he 0 _ rfl 0 1 ⟨rfl, by kernel_rfl⟩ (rds_str Tryd.underlying9)
  obtain ⟨e0, k0_0⟩ := hy0
  have t0 := cutd (o' := 1) e0 rfl
  refine ⟨⟨y0⟩, ⟨?_, k0_0⟩⟩
  refine t0.trans ?_
  rw [List.drop_eq_nil_of_le (Nat.le_of_eq hl)]
  try rfl
end Go.Proofs.YtnfmjkjhiolfdaaDoor
