/- A drive that is full. No program in sight. -/
import Derived.Test.YtjafnombaehcaaaFA
set_option linter.unusedVariables false
set_option linter.unusedSimpArgs false
namespace Go.Proofs.Ytjafnombaehcaaa
open Go Go.Sx Go.Proofs
theorem at_iff {fs : List RF} {n : ByteArray} {g : RF} (h : upF fs) : atF fs n = some g ↔ g ∈ fs ∧ g.Name = n := by
  constructor
  · intro e
    rcases at_cases fs n with ⟨ha, _⟩ | ⟨k, hk, ha, _, hkn⟩
    · rw [ha] at e; cases e
    · rw [ha] at e; cases e; exact ⟨List.getElem_mem hk, hkn⟩
  · rintro ⟨hg, rfl⟩; exact at_mem h hg
theorem up_with {fs : List RF} {f : RF} (h : upF fs) : upF (withF fs f) := withF_ins ▸ insF_up h
theorem at_with {fs : List RF} {f : RF} {n : ByteArray} (h : upF fs) : atF (withF fs f) n = if n = f.Name then some f else atF fs n := by
  refine Option.ext fun g => ?_
  rw [at_iff (up_with h), withF_mem h]
  split
  · next e =>
    subst e
    constructor
    · rintro ⟨rfl | ⟨_, h1⟩, h2⟩
      · rfl
      · exact absurd h2 h1
    · intro e; cases e; exact ⟨.inl rfl, rfl⟩
  · next hn =>
    rw [at_iff h]
    constructor
    · rintro ⟨rfl | ⟨h1, _⟩, h2⟩
      · exact absurd h2.symm hn
      · exact ⟨h1, h2⟩
    · rintro ⟨h1, rfl⟩; exact ⟨.inr ⟨h1, hn⟩, rfl⟩
theorem at_outF {fs : List RF} {x n : ByteArray} (h : upF fs) : atF (outF fs x) n = if n = x then none else atF fs n := by
  refine Option.ext fun g => ?_
  rw [at_iff (up_out h), mem_outF]
  split
  · next e =>
    subst e
    constructor
    · rintro ⟨⟨_, h1⟩, h2⟩; exact absurd h2 h1
    · intro e; cases e
  · next hn =>
    rw [at_iff h]
    constructor
    · rintro ⟨⟨h1, _⟩, h2⟩; exact ⟨h1, h2⟩
    · rintro ⟨h1, rfl⟩; exact ⟨⟨h1, hn⟩, rfl⟩
theorem at_names {fs : List RF} {n : ByteArray} : atF fs n = none ↔ n ∉ fs.map (·.Name) := by
  rcases at_cases fs n with ⟨ha, _⟩ | ⟨k, hk, ha, _, hkn⟩
  · refine ⟨fun _ hm => ?_, fun _ => ha⟩
    obtain ⟨g, hg, hgn⟩ := List.mem_map.1 hm
    unfold atF at ha
    rw [List.find?_eq_none] at ha
    exact ha g hg (by simpa using hgn)
  · rw [ha]
    exact ⟨fun e => (by cases e), fun hm => absurd (List.mem_map.2 ⟨_, List.getElem_mem hk, hkn⟩) hm⟩
theorem len_outF {fs : List RF} {x : ByteArray} (h : upF fs) : (outF fs x).length + (if atF fs x = none then 0 else 1) = fs.length := by
  split
  · next e =>
    rw [outF_none fun g hg hgn => at_names.1 e (List.mem_map.2 ⟨g, hg, hgn⟩)]; rfl
  · next e =>
    have hm : x ∈ fs.map (·.Name) := Classical.not_not.1 fun hm => e (at_names.2 hm)
    have := (out_names h hm).length_eq
    simpa using this
theorem len_with {fs : List RF} {f : RF} (h : upF fs) : (withF fs f).length = fs.length + (if atF fs f.Name = none then 1 else 0) := by
  have h1 := (insF_perm (f := f) h).length_eq
  have h2 := len_outF (x := f.Name) h
  rw [withF_ins, h1, List.length_cons]
  split at h2 <;> rename_i e
  · rw [if_pos e]; omega
  · rw [if_neg e]; omega
/-- what is seen of a drive: how many files, and each by its name -/
structure Vw (m : Drive) (l : Nat) (g : ByteArray → Option RF) : Prop where
  arm : m.Armed = false
  up : upF m.Files
  len : m.Files.length = l
  look : ∀ n, atF m.Files n = g n
section
variable {m : Drive} {l : Nat} {g : ByteArray → Option RF}
theorem Vw.app (h : Vw m l g) (f : RF) : Vw (filesM (stepM m) (withF m.Files f)) (l + (if g f.Name = none then 1 else 0)) (fun n => if n = f.Name then some f else g n) :=
  ⟨h.arm, up_with h.up, by rw [show (filesM (stepM m) (withF m.Files f)).Files = withF m.Files f from rfl, len_with h.up, h.len, h.look], fun n => by rw [show (filesM (stepM m) (withF m.Files f)).Files = withF m.Files f from rfl, at_with h.up, h.look]⟩
theorem Vw.files (h : Vw m l g) {m2 : Drive} {x : ByteArray} (ha : m2.Armed = false) (e : m2.Files = outF m.Files x) (hx : g x ≠ none) : Vw m2 (l - 1) (fun n => if n = x then none else g n) :=
  ⟨ha, e ▸ up_out h.up, by have h1 := len_outF (x := x) h.up; rw [h.look, if_neg hx] at h1; rw [e]; have := h.len; omega, fun n => by rw [e, at_outF h.up, h.look]⟩
theorem Vw.nodead (h : Vw m l g) : ¬ deadD m := fun e => by have := h.arm; rw [e.1] at this; cases this
theorem Vw.size (h : Vw m l g) (n : ByteArray) : sizeV m n = match g n with | some f => (f.B.size : Int) | none => 0 := by unfold sizeV; rw [h.look]; cases g n <;> rfl
theorem Vw.appC0 (h : Vw m l g) {n : ByteArray} {k : Nat} (hn : okN n) (h1 : ¬ ((g n).isSome = false ∧ 256 ≤ l)) (h2 : sizeV m n + k ≤ 262144) : appC m n k = 0 := by
  unfold appC
  rw [if_pos hn, h.look, h.len, if_neg (by rintro (e | e); exact h1 e; omega), if_neg h.nodead]
theorem Vw.appC5 (h : Vw m l g) {n : ByteArray} {k : Nat} (hn : okN n) (h1 : ((g n).isSome = false ∧ 256 ≤ l) ∨ 262144 < sizeV m n + k) : appC m n k = 5 := by
  unfold appC
  rw [if_pos hn, h.look, h.len, if_pos h1]
theorem appM_same {m : Drive} {n : ByteArray} {ns : List Int} (h : appC m n ns.length = 5) : appM m n ns = m := by unfold appM; rw [if_neg (by rw [h]; decide)]
theorem Vw.appM (h : Vw m l g) {n : ByteArray} {ns : List Int} (hc : appC m n ns.length = 0) : ∃ f : RF, f.Name = n ∧ (f.B.size : Int) = sizeV m n + ns.length ∧ Vw (Go.Proofs.Ytjafnombaehcaaa.appM m n ns) (l + (if g n = none then 1 else 0)) (fun x => if x = n then some f else g x) := by
  unfold Go.Proofs.Ytjafnombaehcaaa.appM
  rw [if_pos hc, h.look, h.size]
  cases hg : g n with
  | none =>
    refine ⟨⟨n, tx ns, 0⟩, rfl, by simp [tx_size], ?_⟩
    have := h.app ⟨n, tx ns, 0⟩
    rw [hg] at this
    exact this
  | some f =>
    refine ⟨⟨n, f.B ++ tx ns, f.Synced⟩, rfl, by simp [ByteArray.size_append, tx_size], ?_⟩
    have := h.app ⟨n, f.B ++ tx ns, f.Synced⟩
    rw [hg] at this
    exact this
theorem Vw.look0 (h : Vw m l g) {n : ByteArray} {f : RF} (hn : okN n) (hg : g n = some f) : lookM m n = 0 := by
  unfold lookM
  rw [if_pos hn, h.look, hg, if_pos (show (some f).isSome = true from rfl), if_neg h.nodead]
theorem Vw.del (h : Vw m l g) {n : ByteArray} {f : RF} (hn : okN n) (hg : g n = some f) : Vw (delM m n) (l - 1) (fun x => if x = n then none else g x) := by
  unfold delM
  rw [if_pos (h.look0 hn hg)]
  exact h.files h.arm rfl (by rw [hg]; exact fun e => by cases e)
theorem Vw.ren (h : Vw m l g) {n t : ByteArray} {f : RF} (hn : okN n) (ht : okN t) (hg : g n = some f) (hgt : g t = none) (hl : 0 < l) : renC m n t = 0 ∧ ∃ f2, Vw (renM m n t) l (fun x => if x = t then some f2 else if x = n then none else g x) := by
  have hnt : t ≠ n := fun e => by subst e; rw [hg] at hgt; cases hgt
  have hc : renC m n t = 0 := by unfold renC; rw [if_pos ht, h.look0 hn hg]
  refine ⟨hc, ⟨t, f.B, f.Synced⟩, ?_⟩
  unfold renM
  rw [if_pos hc, h.look, hg]
  have h1 : Vw (filesM m (outF m.Files n)) (l - 1) (fun x => if x = n then none else g x) := h.files h.arm rfl (by rw [hg]; exact fun e => by cases e)
  have e2 : outF (outF m.Files n) t = outF m.Files n := outF_none fun x hx e => by
    have h3 := h1.look t
    rw [show (filesM m (outF m.Files n)).Files = outF m.Files n from rfl, if_neg hnt, hgt] at h3
    exact at_names.1 h3 (List.mem_map.2 ⟨x, hx, e⟩)
  rw [e2]
  have h4 := h1.app ⟨t, f.B, f.Synced⟩
  simp only [if_neg hnt, hgt, if_true] at h4
  rw [show l - 1 + 1 = l by omega] at h4
  exact h4
end
/-- the names of the first 256 files -/
def nmF (k : Nat) : ByteArray := sb [102, UInt8.ofNat (97 + k % 16), UInt8.ofNat (97 + k / 16)]
theorem nmF_inj {a b : Nat} (ha : a < 256) (hb : b < 256) (h : nmF a = nmF b) : a = b := by
  unfold nmF at h
  rw [sb_inj] at h
  simp only [List.cons.injEq, and_true, true_and] at h
  have h1 := congrArg UInt8.toNat h.1
  have h2 := congrArg UInt8.toNat h.2
  simp only [UInt8.toNat_ofNat'] at h1 h2
  omega
theorem nmF_ok {k : Nat} (hk : k < 256) : okN (nmF k) := by
  refine ⟨by simp [nmF], ?_⟩
  rw [show (nmF k).data.toList = [102, UInt8.ofNat (97 + k % 16), UInt8.ofNat (97 + k / 16)] from sb_data _]
  intro u hu
  simp only [List.mem_cons, List.not_mem_nil, or_false] at hu
  rcases hu with rfl | rfl | rfl
  · simp only [okB]; decide
  · simp only [okB, UInt8.toNat_ofNat']; omega
  · simp only [okB, UInt8.toNat_ofNat']; omega
/-- the drive behind k files -/
def fullM : Nat → Drive
  | 0 => newM
  | k + 1 => appM (fullM k) (nmF k) []
/-- the files behind k -/
theorem full_vw : ∀ {k : Nat}, k ≤ 256 → ∃ g, Vw (fullM k) k g ∧ ((fullM k).Steps = k) ∧ (∀ n, (∀ j < k, n ≠ nmF j) → g n = none) ∧ ∀ j < k, ∃ f, g (nmF j) = some f ∧ f.B.size = 0
  | 0, _ => ⟨fun _ => none, ⟨rfl, .nil, rfl, fun _ => rfl⟩, rfl, fun _ _ => rfl, fun j hj => by omega⟩
  | k + 1, hk => by
    obtain ⟨g, h, hst, h1, h2⟩ := full_vw (k := k) (by omega)
    have hg : g (nmF k) = none := h1 _ fun j hj e => by have := nmF_inj (by omega) (by omega) e; omega
    have hsz : sizeV (fullM k) (nmF k) = 0 := by rw [h.size, hg]
    have hc : appC (fullM k) (nmF k) ([] : List Int).length = 0 := h.appC0 (nmF_ok (by omega)) (fun e => by omega) (by rw [hsz]; decide)
    obtain ⟨f, hf1, hf2, h3⟩ := h.appM (ns := []) hc
    rw [hg, if_pos rfl] at h3
    rw [hsz] at hf2
    refine ⟨_, h3, ?_, fun n hn => ?_, fun j hj => ?_⟩
    · show (appM (fullM k) (nmF k) []).Steps = _
      unfold appM
      rw [if_pos hc, h.look, hg]
      show (fullM k).Steps + 1 = _
      rw [hst]; omega
    · rw [if_neg (hn k (by omega))]
      exact h1 n fun j hj => hn j (by omega)
    · by_cases e : j = k
      · subst e
        exact ⟨f, if_pos rfl, by simpa using hf2⟩
      · obtain ⟨f2, h4, h5⟩ := h2 j (by omega)
        exact ⟨f2, by rw [if_neg fun e2 => e (nmF_inj (by omega) (by omega) e2)]; exact h4, h5⟩
theorem full_app {k : Nat} (hk : k < 256) : appC (fullM k) (nmF k) 0 = 0 := by
  obtain ⟨g, h, hst, h1, h2⟩ := full_vw (k := k) (by omega)
  have hg : g (nmF k) = none := h1 _ fun j hj e => by have := nmF_inj (by omega) (by omega) e; omega
  have hsz : sizeV (fullM k) (nmF k) = 0 := by rw [h.size, hg]
  exact h.appC0 (nmF_ok (by omega)) (fun e => by omega) (by rw [hsz]; decide)
end Go.Proofs.Ytjafnombaehcaaa
