/- A drive's files as the map has them. No program in sight. -/
import Derived.Test.YtjafnombaehcaaaDA
import Derived.Test.YtjafnombaehcaaaE28
set_option linter.unusedVariables false
set_option linter.unusedSimpArgs false
namespace Go.Proofs.Ytjafnombaehcaaa
open Go Go.Sx Go.Proofs
/-- a file: its name, its block, its bytes' slice, its bytes, how many are synced -/
structure FE where
  nm : ByteArray
  pf : Nat
  v : Value
  bs : List Int
  sy : Int
def FE.f (e : FE) : RF := ⟨e.nm, tx e.bs, e.sy⟩
abbrev ptr (p : Nat) : Value := .pointer (some ⟨p, 0, none⟩)
def msF (zs : List FE) : List (ByteArray × Value) := zs.map fun e => (e.nm, ptr e.pf)
def RelF (zs : List FE) (fs : List RF) : Prop := (zs.map FE.f).Perm fs ∧ upF fs
theorem ms_keys {zs : List FE} : (msF zs).map (·.1) = zs.map FE.nm := by simp only [msF, List.map_map]; rfl
section
variable {zs l1 l2 : List FE} {fs : List RF} {e e' : FE} {n : ByteArray}
theorem RelF.len (h : RelF zs fs) : zs.length = fs.length := by have := h.1.length_eq; simpa using this
theorem RelF.names (h : RelF zs fs) : (zs.map FE.nm).Nodup := by
  have h1 := up_names h.2
  have h2 : (zs.map FE.nm).Perm (fs.map (·.Name)) := by have := h.1.map (·.Name); rwa [List.map_map] at this
  exact h2.nodup_iff.2 h1
theorem get_in (h : RelF zs fs) (he : e ∈ zs) : mget e.nm (msF zs) = some (ptr e.pf) :=
  mget_of_mem (by rw [ms_keys]; exact h.names) (List.mem_map.2 ⟨e, he, rfl⟩)
theorem get_out (hn : ∀ e ∈ zs, e.nm ≠ n) : mget n (msF zs) = none := by
  rw [mget_none, ms_keys]
  intro h
  obtain ⟨e, he, rfl⟩ := List.mem_map.1 h
  exact hn e he rfl
/-- a name is a file's, or none's -/
theorem name_cases (zs : List FE) (n : ByteArray) : (∃ l1 e l2, zs = l1 ++ e :: l2 ∧ e.nm = n) ∨ ∀ e ∈ zs, e.nm ≠ n := by
  by_cases h : ∃ e ∈ zs, e.nm = n
  · obtain ⟨e, he, hn⟩ := h
    obtain ⟨l1, l2, rfl⟩ := List.append_of_mem he
    exact .inl ⟨l1, e, l2, rfl, hn⟩
  · exact .inr fun e he hn => h ⟨e, he, hn⟩
theorem at_in (h : RelF zs fs) (he : e ∈ zs) : atF fs e.nm = some e.f := by
  have hm : e.f ∈ fs := h.1.mem_iff.1 (List.mem_map.2 ⟨e, he, rfl⟩)
  have hn := up_names h.2
  clear h he
  induction fs with
  | nil => cases hm
  | cons g r ih =>
    rw [List.map_cons, List.nodup_cons] at hn
    by_cases hg : g.Name = e.nm
    · have : atF (g :: r) e.nm = some g := by simp [atF, hg]
      rw [this]
      rcases List.mem_cons.1 hm with hm | hm
      · rw [hm]
      · exact absurd (List.mem_map.2 ⟨e.f, hm, hg.symm⟩) hn.1
    · have : atF (g :: r) e.nm = atF r e.nm := by simp [atF, hg]
      rw [this]
      rcases List.mem_cons.1 hm with hm | hm
      · rw [← hm] at hg; exact absurd rfl hg
      · exact ih hm hn.2
theorem at_out (h : RelF zs fs) (hn : ∀ e ∈ zs, e.nm ≠ n) : atF fs n = none := by
  unfold atF
  rw [List.find?_eq_none]
  intro g hg
  obtain ⟨e, he, rfl⟩ := List.mem_map.1 (h.1.mem_iff.2 hg)
  have := hn e he
  show ¬ decide (e.nm = n) = true
  simpa using this
theorem outF_perm {xs ys : List RF} (h : xs.Perm ys) : (outF xs n).Perm (outF ys n) := h.filter _
theorem out_mid (hn : ((l1 ++ e :: l2).map FE.nm).Nodup) : outF ((l1 ++ e :: l2).map FE.f) e.nm = (l1 ++ l2).map FE.f := by
  have h1 : ∀ x ∈ l1 ++ l2, x.nm ≠ e.nm := by
    intro x hx hxe
    rw [List.map_append, List.map_cons] at hn
    have hn' := (List.perm_middle (a := e.nm) (l₁ := l1.map FE.nm) (l₂ := l2.map FE.nm)).nodup_iff.1 hn
    rw [List.nodup_cons, ← List.map_append] at hn'
    exact hn'.1 (List.mem_map.2 ⟨x, hx, hxe⟩)
  have e1 : outF ((l1 ++ e :: l2).map FE.f) e.nm = outF ((l1 ++ l2).map FE.f) e.nm := by simp [outF, FE.f]
  rw [e1]
  refine outF_none fun g hg => ?_
  obtain ⟨x, hx, rfl⟩ := List.mem_map.1 hg
  exact h1 x hx
/-- a file is another one -/
theorem rel_set (h : RelF (l1 ++ e :: l2) fs) (hn : e'.nm = e.nm) : RelF (l1 ++ e' :: l2) (withF fs e'.f) := by
  rw [withF_ins]
  refine ⟨?_, insF_up h.2⟩
  refine List.Perm.trans ?_ (insF_perm h.2).symm
  have e1 : e'.f.Name = e.nm := hn
  rw [e1]
  have h2 := outF_perm (n := e.nm) h.1
  rw [out_mid h.names] at h2
  rw [List.map_append, List.map_cons]
  refine List.perm_middle.trans (List.Perm.cons _ ?_)
  rw [← List.map_append]
  exact h2
/-- a file more -/
theorem rel_new (h : RelF zs fs) (hn : ∀ x ∈ zs, x.nm ≠ e.nm) : RelF (zs ++ [e]) (withF fs e.f) := by
  rw [withF_ins]
  refine ⟨?_, insF_up h.2⟩
  refine List.Perm.trans ?_ (insF_perm h.2).symm
  rw [List.map_append, List.map_singleton]
  have e1 : outF fs e.f.Name = fs := outF_none fun g hg => by
    obtain ⟨x, hx, rfl⟩ := List.mem_map.1 (h.1.mem_iff.2 hg)
    exact hn x hx
  rw [e1]
  exact (List.perm_append_singleton _ _).trans (h.1.cons _)
/-- a file less -/
theorem rel_del (h : RelF (l1 ++ e :: l2) fs) : RelF (l1 ++ l2) (outF fs e.nm) := by
  have h2 := outF_perm (n := e.nm) h.1
  rw [out_mid h.names] at h2
  exact ⟨h2, up_out h.2⟩
theorem ms_del (h : ((l1 ++ e :: l2).map FE.nm).Nodup) : mdel e.nm (msF (l1 ++ e :: l2)) = msF (l1 ++ l2) := by
  induction l1 with
  | nil => simp [msF, mdel]
  | cons x l1 ih =>
    rw [List.cons_append, List.map_cons, List.nodup_cons] at h
    have hx : ¬ e.nm = x.nm := fun e1 => h.1 (by rw [← e1]; simp)
    have : mdel e.nm (msF (x :: l1 ++ e :: l2)) = (x.nm, ptr x.pf) :: mdel e.nm (msF (l1 ++ e :: l2)) := by
      simp only [List.cons_append, msF, List.map_cons, mdel]; rw [if_neg hx]
    rw [this, ih h.2]
    rfl
theorem ms_new (hn : ∀ x ∈ zs, x.nm ≠ e.nm) : mset e.nm (ptr e.pf) (msF zs) = msF (zs ++ [e]) := by
  induction zs with
  | nil => simp [msF, mset]
  | cons x zs ih =>
    have hx : ¬ e.nm = x.nm := fun e1 => hn x (by simp) e1.symm
    have : mset e.nm (ptr e.pf) (msF (x :: zs)) = (x.nm, ptr x.pf) :: mset e.nm (ptr e.pf) (msF zs) := by
      simp only [msF, List.map_cons, mset]; rw [if_neg hx]
    rw [this, ih fun y hy => hn y (by simp [hy])]
    rfl
theorem ms_set (h : ((l1 ++ e :: l2).map FE.nm).Nodup) (hn : e'.nm = e.nm) : mset e'.nm (ptr e'.pf) (msF (l1 ++ e :: l2)) = msF (l1 ++ e' :: l2) := by
  induction l1 with
  | nil => simp [msF, mset, hn]
  | cons x l1 ih =>
    rw [List.cons_append, List.map_cons, List.nodup_cons] at h
    have hx : ¬ e'.nm = x.nm := fun e1 => h.1 (by rw [← e1, hn]; simp)
    have : mset e'.nm (ptr e'.pf) (msF (x :: l1 ++ e :: l2)) = (x.nm, ptr x.pf) :: mset e'.nm (ptr e'.pf) (msF (l1 ++ e :: l2)) := by
      simp only [List.cons_append, msF, List.map_cons, mset]; rw [if_neg hx]
    rw [this, ih h.2]
    rfl
/-- the names, sorted -/
theorem rel_sorted (h : RelF zs fs) : sortT ((msF zs).map (·.1)) = fs.map (·.Name) := by
  rw [ms_keys]
  refine sortT_of ?_ (by rw [List.pairwise_map]; exact h.2)
  have := h.1.map (·.Name)
  rwa [List.map_map] at this
end
end Go.Proofs.Ytjafnombaehcaaa
