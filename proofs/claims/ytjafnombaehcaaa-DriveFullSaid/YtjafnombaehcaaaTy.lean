/- Written by program (gen_types.py): the values of this seat's types, and how they lie in memory. -/
import Derived.Test.YtjafnombaehcaaaInst
set_option linter.unusedVariables false
set_option linter.unusedSimpArgs false
namespace Go.Proofs.Ytjafnombaehcaaa
open Go Go.Sx Go.Proofs
/-- convoy/convoyref02.File -/
structure Convoyref02File where
  Name : ByteArray
  B : ByteArray
  Synced : Int
  deriving DecidableEq
abbrev Convoyref02File.cv (x : Convoyref02File) : List Value := [.string x.Name, .string x.B, .int .i64 x.Synced]
def rConvoyref02File : Rd Convoyref02File := fun H c x => c = x.cv ∧ x.Name.size ≤ cap47 ∧ x.B.size ≤ cap47 ∧ fits x.Synced
instance : RdOk rConvoyref02File 3 := ⟨fun ⟨e, h0, h1, h2⟩ => by subst e; rfl, fun ⟨e, h0, h1, h2⟩ => by subst e; simp only [List.all_cons, List.all_nil]; rfl, fun hl ⟨e, h0, h1, h2⟩ => ⟨e, h0, h1, h2⟩⟩
def zConvoyref02File : Convoyref02File := ⟨⟨#[]⟩, ⟨#[]⟩, 0⟩
theorem zConvoyref02File_reads {H : Heap} : rConvoyref02File H [.string ⟨#[]⟩, .string ⟨#[]⟩, .int .i64 0] zConvoyref02File := ⟨rfl, (Nat.zero_le _), (Nat.zero_le _), fits0⟩
theorem rds_Convoyref02File : Rds Try.prog 75 rConvoyref02File := by
  intro H enc W fuel cs d ps h hw
  have hst := Try.underlying75
  obtain ⟨hlen, he⟩ := trod_fields hst h hw
  have hl : cs.length = 3 := hlen.trans (by kernel_rfl)
  obtain ⟨y0, hy0⟩ := he 0 _ rfl 0 1 ⟨rfl, by kernel_rfl⟩ (rds_str Try.underlying9)
  obtain ⟨y1, hy1⟩ := he 1 _ rfl 1 1 ⟨rfl, by kernel_rfl⟩ (rds_str Try.underlying9)
  obtain ⟨y2, hy2⟩ := he 2 _ rfl 2 1 ⟨rfl, by kernel_rfl⟩ (rds_int Try.underlying3)
  obtain ⟨e0, k0_0⟩ := hy0
  have t0 := cutd (o' := 1) e0 rfl
  obtain ⟨e1, k1_0⟩ := hy1
  have t1 := cutd (o' := 2) e1 rfl
  obtain ⟨e2, k2_0⟩ := hy2
  have t2 := cutd (o' := 3) e2 rfl
  refine ⟨⟨y0, y1, y2⟩, ⟨?_, k0_0, k1_0, k2_0⟩⟩
  refine t0.trans ?_
  rw [t1, t2, List.drop_eq_nil_of_le (Nat.le_of_eq hl)]
  try rfl
/-- convoy/convoyref02.Drive -/
structure Drive where
  Files : (List Convoyref02File)
  Steps : Int
  Armed : Bool
  Left : Int
  deriving DecidableEq
abbrev Drive.cv (x : Drive) (s1 : Value) : List Value := [s1, .int .i64 x.Steps, .bool x.Armed, .int .i64 x.Left]
def rDrive : Rd Drive := fun H c x => ∃ s1, c = x.cv s1 ∧ SlB rConvoyref02File 3 40 H s1 x.Files ∧ fits x.Steps ∧ fits x.Left
instance : RdOk rDrive 4 := ⟨fun ⟨s1, e, h0, h1, h2⟩ => by subst e; rfl, fun ⟨s1, e, h0, h1, h2⟩ => by subst e; simp only [List.all_cons, List.all_nil, slb_one h0]; rfl, fun hl ⟨s1, e, h0, h1, h2⟩ => ⟨s1, e, h0.mono hl, h1, h2⟩⟩
def zDrive : Drive := ⟨[], 0, false, 0⟩
theorem zDrive_reads {H : Heap} : rDrive H [.slice none 0 0, .int .i64 0, .bool false, .int .i64 0] zDrive := ⟨nilS, rfl, SlB.nil, fits0, fits0⟩
theorem rds_Drive : Rds Try.prog 38 rDrive := by
  intro H enc W fuel cs d ps h hw
  have hst := Try.underlying38
  obtain ⟨hlen, he⟩ := trod_fields hst h hw
  have hl : cs.length = 4 := hlen.trans (by kernel_rfl)
  obtain ⟨y0, hy0⟩ := he 0 _ rfl 0 1 ⟨rfl, by kernel_rfl⟩ (rds_slice Try.underlying36 (by kernel_rfl) (by kernel_rfl) (by decide) rds_Convoyref02File)
  obtain ⟨y1, hy1⟩ := he 1 _ rfl 1 1 ⟨rfl, by kernel_rfl⟩ (rds_int Try.underlying3)
  obtain ⟨y2, hy2⟩ := he 2 _ rfl 2 1 ⟨rfl, by kernel_rfl⟩ (rds_bool Try.underlying4)
  obtain ⟨y3, hy3⟩ := he 3 _ rfl 3 1 ⟨rfl, by kernel_rfl⟩ (rds_int Try.underlying3)
  obtain ⟨v0_0, e0, k0_0⟩ := hy0
  have t0 := cutd (o' := 1) e0 rfl
  obtain ⟨e1, k1_0⟩ := hy1
  have t1 := cutd (o' := 2) e1 rfl
  have e2 := hy2
  have t2 := cutd (o' := 3) e2 rfl
  obtain ⟨e3, k3_0⟩ := hy3
  have t3 := cutd (o' := 4) e3 rfl
  refine ⟨⟨y0, y1, y2, y3⟩, ⟨v0_0, ?_, k0_0, k1_0, k3_0⟩⟩
  refine t0.trans ?_
  rw [t1, t2, t3, List.drop_eq_nil_of_le (Nat.le_of_eq hl)]
  try rfl
/-- convoy/convoylaw02.Op -/
structure Op where
  Kind : Int
  Name : ByteArray
  To : ByteArray
  B : (List Int)
  N : Int
  Keeps : (List Int)
  deriving DecidableEq
abbrev Op.cv (x : Op) (s1 : Value) (s2 : Value) : List Value := [.int .i64 x.Kind, .string x.Name, .string x.To, s1, .int .i64 x.N, s2]
def rOp : Rd Op := fun H c x => ∃ s1 s2, c = x.cv s1 s2 ∧ fits x.Kind ∧ x.Name.size ≤ cap47 ∧ x.To.size ≤ cap47 ∧ SlB (rNum .u8) 1 1 H s1 x.B ∧ fits x.N ∧ SlB rInt 1 8 H s2 x.Keeps
instance : RdOk rOp 6 := ⟨fun ⟨s1, s2, e, h0, h1, h2, h3, h4, h5⟩ => by subst e; rfl, fun ⟨s1, s2, e, h0, h1, h2, h3, h4, h5⟩ => by subst e; simp only [List.all_cons, List.all_nil, slb_one h3, slb_one h5]; rfl, fun hl ⟨s1, s2, e, h0, h1, h2, h3, h4, h5⟩ => ⟨s1, s2, e, h0, h1, h2, h3.mono hl, h4, h5.mono hl⟩⟩
def zOp : Op := ⟨0, ⟨#[]⟩, ⟨#[]⟩, [], 0, []⟩
theorem zOp_reads {H : Heap} : rOp H [.int .i64 0, .string ⟨#[]⟩, .string ⟨#[]⟩, .slice none 0 0, .int .i64 0, .slice none 0 0] zOp := ⟨nilS, nilS, rfl, fits0, (Nat.zero_le _), (Nat.zero_le _), SlB.nil, fits0, SlB.nil⟩
theorem rds_Op : Rds Try.prog 50 rOp := by
  intro H enc W fuel cs d ps h hw
  have hst := Try.underlying50
  obtain ⟨hlen, he⟩ := trod_fields hst h hw
  have hl : cs.length = 6 := hlen.trans (by kernel_rfl)
  obtain ⟨y0, hy0⟩ := he 0 _ rfl 0 1 ⟨rfl, by kernel_rfl⟩ (rds_int Try.underlying3)
  obtain ⟨y1, hy1⟩ := he 1 _ rfl 1 1 ⟨rfl, by kernel_rfl⟩ (rds_str Try.underlying9)
  obtain ⟨y2, hy2⟩ := he 2 _ rfl 2 1 ⟨rfl, by kernel_rfl⟩ (rds_str Try.underlying9)
  obtain ⟨y3, hy3⟩ := he 3 _ rfl 3 1 ⟨rfl, by kernel_rfl⟩ (rds_slice Try.underlying28 (by kernel_rfl) (by kernel_rfl) (by decide) (rds_num Try.underlying5))
  obtain ⟨y4, hy4⟩ := he 4 _ rfl 4 1 ⟨rfl, by kernel_rfl⟩ (rds_int Try.underlying3)
  obtain ⟨y5, hy5⟩ := he 5 _ rfl 5 1 ⟨rfl, by kernel_rfl⟩ (rds_slice Try.underlying44 (by kernel_rfl) (by kernel_rfl) (by decide) (rds_int Try.underlying3))
  obtain ⟨e0, k0_0⟩ := hy0
  have t0 := cutd (o' := 1) e0 rfl
  obtain ⟨e1, k1_0⟩ := hy1
  have t1 := cutd (o' := 2) e1 rfl
  obtain ⟨e2, k2_0⟩ := hy2
  have t2 := cutd (o' := 3) e2 rfl
  obtain ⟨v3_0, e3, k3_0⟩ := hy3
  have t3 := cutd (o' := 4) e3 rfl
  obtain ⟨e4, k4_0⟩ := hy4
  have t4 := cutd (o' := 5) e4 rfl
  obtain ⟨v5_0, e5, k5_0⟩ := hy5
  have t5 := cutd (o' := 6) e5 rfl
  refine ⟨⟨y0, y1, y2, y3, y4, y5⟩, ⟨v3_0, v5_0, ?_, k0_0, k1_0, k2_0, k3_0, k4_0, k5_0⟩⟩
  refine t0.trans ?_
  rw [t1, t2, t3, t4, t5, List.drop_eq_nil_of_le (Nat.le_of_eq hl)]
  try rfl
/-- convoy/drive.file -/
structure DriveFile where
  b : (List Int)
  synced : Int
  deriving DecidableEq
abbrev DriveFile.cv (x : DriveFile) (s1 : Value) : List Value := [s1, .int .i64 x.synced]
def rDriveFile : Rd DriveFile := fun H c x => ∃ s1, c = x.cv s1 ∧ SlB (rNum .u8) 1 1 H s1 x.b ∧ fits x.synced
instance : RdOk rDriveFile 2 := ⟨fun ⟨s1, e, h0, h1⟩ => by subst e; rfl, fun ⟨s1, e, h0, h1⟩ => by subst e; simp only [List.all_cons, List.all_nil, slb_one h0]; rfl, fun hl ⟨s1, e, h0, h1⟩ => ⟨s1, e, h0.mono hl, h1⟩⟩
def zDriveFile : DriveFile := ⟨[], 0⟩
theorem zDriveFile_reads {H : Heap} : rDriveFile H [.slice none 0 0, .int .i64 0] zDriveFile := ⟨nilS, rfl, SlB.nil, fits0⟩
theorem rds_DriveFile : Rds Try.prog 67 rDriveFile := by
  intro H enc W fuel cs d ps h hw
  have hst := Try.underlying67
  obtain ⟨hlen, he⟩ := trod_fields hst h hw
  have hl : cs.length = 2 := hlen.trans (by kernel_rfl)
  obtain ⟨y0, hy0⟩ := he 0 _ rfl 0 1 ⟨rfl, by kernel_rfl⟩ (rds_slice Try.underlying28 (by kernel_rfl) (by kernel_rfl) (by decide) (rds_num Try.underlying5))
  obtain ⟨y1, hy1⟩ := he 1 _ rfl 1 1 ⟨rfl, by kernel_rfl⟩ (rds_int Try.underlying3)
  obtain ⟨v0_0, e0, k0_0⟩ := hy0
  have t0 := cutd (o' := 1) e0 rfl
  obtain ⟨e1, k1_0⟩ := hy1
  have t1 := cutd (o' := 2) e1 rfl
  refine ⟨⟨y0, y1⟩, ⟨v0_0, ?_, k0_0, k1_0⟩⟩
  refine t0.trans ?_
  rw [t1, List.drop_eq_nil_of_le (Nat.le_of_eq hl)]
  try rfl
end Go.Proofs.Ytjafnombaehcaaa
