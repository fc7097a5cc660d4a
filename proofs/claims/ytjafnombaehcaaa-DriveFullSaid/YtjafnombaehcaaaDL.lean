/- What a loss of power leaves: Crash. -/
import Derived.Test.YtjafnombaehcaaaDK
set_option linter.unusedVariables false
set_option linter.unusedSimpArgs false
namespace Go.Proofs.Ytjafnombaehcaaa
open Go Go.Sx Go.Proofs
/-- how many loose bytes of the next file are kept -/
def keepK (ks : List Int) (k : Nat) : Int := if k < ks.length then max 0 (ks.getD k 0) else 0
/-- how many bytes are left -/
def crN (ks : List Int) (k : Nat) (len sy : Int) : Int := if sy < len then sy + min (keepK ks k) (len - sy) else len
def crStep (ks : List Int) (s : Nat × List RF) (f : RF) : Nat × List RF :=
  (if f.Synced < f.B.size then s.1 + 1 else s.1, s.2 ++ [⟨f.Name, f.B.extract 0 (crN ks s.1 f.B.size f.Synced).toNat, crN ks s.1 f.B.size f.Synced⟩])
def crAll (fs : List RF) (ks : List Int) : Nat × List RF := fs.foldl (crStep ks) (0, [])
def crashM (m : Drive) (ks : List Int) : Drive := filesM newM (crAll m.Files ks).2
theorem crAll_snoc {fs : List RF} {f : RF} {ks : List Int} : crAll (fs ++ [f]) ks = crStep ks (crAll fs ks) f := by simp [crAll]
theorem crFold_names {ks : List Int} : ∀ {fs : List RF} {s : Nat × List RF}, ((fs.foldl (crStep ks) s).2).map (·.Name) = s.2.map (·.Name) ++ fs.map (·.Name)
  | [], s => by simp
  | f :: fs, s => by rw [List.foldl_cons, crFold_names]; simp [crStep]
theorem crFold_next {ks : List Int} : ∀ {fs : List RF} {s : Nat × List RF}, (fs.foldl (crStep ks) s).1 ≤ s.1 + fs.length
  | [], s => Nat.le_refl _
  | f :: fs, s => by
    rw [List.foldl_cons]
    refine Nat.le_trans crFold_next ?_
    simp only [crStep, List.length_cons]
    split <;> omega
theorem crAll_names {fs : List RF} {ks : List Int} : ((crAll fs ks).2).map (·.Name) = fs.map (·.Name) := by
  rw [crAll, crFold_names]; rfl
theorem crAll_next {fs : List RF} {ks : List Int} : (crAll fs ks).1 ≤ fs.length := by
  have := crFold_next (ks := ks) (fs := fs) (s := (0, []))
  simpa [crAll] using this
theorem up_crAll {fs : List RF} {ks : List Int} (h : upF fs) : upF (crAll fs ks).2 := by
  have h1 : (fs.map (·.Name)).Pairwise SLt := by rw [List.pairwise_map]; exact h
  rw [← crAll_names (ks := ks), List.pairwise_map] at h1
  exact h1
theorem tx_take (bs : List Int) (k : Nat) : (tx bs).extract 0 k = tx (bs.take k) := by rw [tx, sb_take, tx, List.map_take]
theorem slr_take {α : Type} {R : Rd α} {sz : Nat} [RdOk R sz] {H : Heap} {base : Option Addr} {m cap k : Nat} {xs : List α} (hr : SlR R sz H (.slice base m cap) xs) (h : k ≤ xs.length) : SlR R sz H (.slice base k cap) (xs.take k) := by
  obtain ⟨cs, ⟨base', cap', e, hc, hl, h1c, he⟩, b⟩ := hr
  cases e
  have hk : (xs.take k).length = k := by simp; omega
  have hmul : k * sz ≤ xs.length * sz := Nat.mul_le_mul_right _ h
  refine ⟨cs.take (k * sz), hk.symm ▸ ⟨_, _, rfl, by omega, by rw [List.length_take, hl]; omega, ?_, ?_⟩, b.take h⟩
  · simp only [List.all_eq_true] at h1c ⊢
    exact fun u hu => h1c u (List.mem_of_mem_take hu)
  · rcases he with he | ⟨b, off, rfl, hrow⟩
    · exact .inl (by omega)
    · exact .inr ⟨b, off, rfl, hrow.take⟩
theorem okN_size {n : ByteArray} (h : okN n) : n.size ≤ cap47 := by
  have := h.1.2
  rw [Lib.size_eq]; unfold cap47; omega
set_option maxHeartbeats 8000000 in
theorem crash_spec {W0 : World} {H : Heap} {b : Nat} {m : Drive} {v0 : Value} {ks : List Int} (h0 : SlB rInt 1 8 H v0 ks) :
    Ct Try.prog 16 #[.pointer (some ⟨b, 0, none⟩), v0] W0 H [driveO b m] (fun r H' B => ∃ p, r = .pointer (some ⟨p, 0, none⟩) ∧ B = [driveO p (crashM m ks), driveO b m] ∧ H' = H) := by
  refine Ct.go (vs := [.pointer (some ⟨b, 0, none⟩), v0]) fun R => ?_
  obtain ⟨bb, cc, rfl, _, _⟩ := h0.1.shape
  refine ex_open (A := driveO b m) (σ := Nat × List FE) (B := fun s => [dRow b s.1 m.Steps m.Armed (leftV m), dMap s.1 s.2, bigL fA s.2]) (p := fun s => DOk s.2 m) (by repeat (first | exact Has.here | apply Has.there)) (fun h ⟨mb, zs, hb, hk⟩ => ⟨(mb, zs), hk, hb⟩) fun ⟨mb, zs⟩ hk => ?_
  dsimp only at hk ⊢
  have hk' := hk
  obtain ⟨⟨hrel, hok⟩, hz, hst0, harm, hun⟩ := hk
  have hshut : ∀ h, big [dRow b mb m.Steps m.Armed (leftV m), dMap mb zs, bigL fA zs] h → driveO b m h := fun h hb => ⟨mb, zs, hb, hk'⟩
  refine walk ?_
  refine ops_call rfl rfl new_spec fun r1 H1 B hl1 ⟨p, er, eB, eH⟩ => ?_
  subst er eB eH
  refine walk ?_
  refine ops_call rfl rfl (names_spec (b := b) (st := m.Steps) (lf := leftV m) (ar := m.Armed) (mb := mb) (zs := zs) (fun e he => okN_size (hok e he).1) (by unfold cap47; omega)) fun r2 H2 B hl2 ⟨eB, eH⟩ => ?_
  subst eB eH
  rw [rel_sorted hrel]
  refine ops_freeze r2 fun H3 hl3 hs3 => ?_
  obtain ⟨b3, c3, rfl, _, _⟩ := hs3.1.shape
  refine ops_open (A := driveO p newM) (σ := Nat × List FE) (B := fun s => [dRow p s.1 newM.Steps newM.Armed (leftV newM), dMap s.1 s.2, bigL fA s.2]) (p := fun s => DOk s.2 newM) (by repeat (first | exact Has.here | apply Has.there)) (fun h ⟨mb, zs, hb, hk⟩ => ⟨(mb, zs), hk, hb⟩) fun ⟨mp, ys0⟩ hk0 => ?_
  dsimp only at hk0 ⊢
  obtain rfl : ys0 = [] := by
    have := hk0.1.1.len
    exact List.eq_nil_of_length_eq_zero this
  refine walk ?_
  have hfl : m.Files.length = zs.length := hrel.len.symm
  refine ex_loop (σ := Nat × List FE) (fun s => s.1 ≤ m.Files.length ∧ s.2.map FE.f = (crAll (m.Files.take s.1) ks).2 ∧ ∀ e ∈ s.2, okE e)
    (fun s => [(6, I ((crAll (m.Files.take s.1) ks).1 : Nat)), (16, I (s.1 : Nat)), (5, .pointer (some ⟨p, 0, none⟩)), (0, .pointer (some ⟨b, 0, none⟩)), (1, .slice bb ks.length cc), (15, I ((m.Files.map (·.Name)).length : Nat)), (14, .slice b3 (m.Files.map (·.Name)).length c3)])
    (fun _ => H3) (fun s => dRow p mp 0 false 0 :: dMap mp s.2 :: bigL fA s.2 :: dMap mb zs :: dRow b mb m.Steps m.Armed (leftV m) :: bigL fA zs :: R)
    (fun s => m.Files.length - s.1) (0, []) ⟨Nat.zero_le _, rfl, fun e he => by cases he⟩ fun ⟨k, ys⟩ ⟨hk1, hk2, hk3⟩ K hL => ?_
  dsimp only at hk1 hk2 hk3 ⊢
  have hml : (m.Files.map (·.Name)).length = m.Files.length := List.length_map _
  refine walk ?_
  refine ex_if rfl (fun hq => ?_) (fun hq => ?_)
  rotate_left
  · clear hL
    obtain rfl : k = m.Files.length := by omega
    refine walk ?_
    rw [List.take_length] at hk2
    have hlen : ys.length = m.Files.length := by
      have h1 := congrArg List.length hk2
      have h2 := congrArg List.length (crAll_names (fs := m.Files) (ks := ks))
      simp only [List.length_map] at h1 h2
      omega
    have hkc : DOk ys (crashM m ks) := ⟨⟨⟨by rw [hk2]; exact .refl _, up_crAll hrel.2⟩, hk3⟩, by omega, Int.le_refl _, (fun e => by cases e), (fun _ => rfl)⟩
    refine out_weak hl3 ?_
    refine finB [driveO p (crashM m ks), driveO b m] ?_ (hs := ?_)
    · exact ⟨p, rfl, rfl, rfl⟩
    · refine sub_fold (B := [dRow p mp 0 false 0, dMap mp ys, bigL fA ys]) ?_ fun h hb => ⟨mp, ys, hb, hkc⟩
      refine Sub.trans ?_ (show Sub (dRow p mp 0 false 0 :: dMap mp ys :: bigL fA ys :: driveO b m :: R) _ from (by (repeat (first | exact Sub.refl _ | exact Sub.nil _ | (apply sub_pick; (repeat (first | exact Has.here | apply Has.there)); skip) | apply Sub.drop))))
      refine Sub.cons (Sub.cons (Sub.cons ?_))
      exact sub_fold (B := [dRow b mb m.Steps m.Armed (leftV m), dMap mb zs, bigL fA zs]) (by (repeat (first | exact Sub.refl _ | exact Sub.nil _ | (apply sub_pick; (repeat (first | exact Has.here | apply Has.there)); skip) | apply Sub.drop))) hshut
  have hk4 : k < m.Files.length := by omega
  obtain ⟨f, hf⟩ : ∃ f, f = m.Files[k] := ⟨_, rfl⟩
  have hfm : f ∈ m.Files := hf ▸ List.getElem_mem hk4
  obtain ⟨e, he, hef⟩ := List.mem_map.1 (hrel.1.mem_iff.2 hfm)
  obtain ⟨l1, l2, hzs⟩ := List.append_of_mem he
  have hnm : (m.Files.map (·.Name))[k]'(by omega) = e.nm := by rw [List.getElem_map, ← hf, ← hef]; rfl
  have hs3' := hs3.1
  have hj : k < (m.Files.map (·.Name)).length := by rw [hml]; exact hk4
  refine walk ?_
  rw [show (m.Files.map (·.Name))[k]'hj = e.nm from hnm]
  refine walk ?_
  refine ops_lkO (RV := rVal) (val := fun x : Value => x) (z := nilP) rfl rfl ((by repeat (first | exact Has.here | apply Has.there))) ?_
  rw [get_in hrel he, Option.getD_some]
  subst hzs
  obtain ⟨n, pf, v, bs, sy⟩ := e
  try dsimp only at hnm
  dsimp only
  refine ops_L (L' := row pf 67 [v, I sy] :: ownS rU8 1 1 5 Heap.empty v bs :: bigL fA (l1 ++ l2) :: dRow p mp 0 false 0 :: dMap mp ys :: bigL fA ys :: dMap mb (l1 ++ ⟨n, pf, v, bs, sy⟩ :: l2) :: dRow b mb m.Steps m.Armed (leftV m) :: R) (Sub.trans (by (repeat (first | exact Sub.refl _ | exact Sub.nil _ | (apply sub_pick; (repeat (first | exact Has.here | apply Has.there)); skip) | apply Sub.drop))) (zs_out (e := ⟨n, pf, v, bs, sy⟩))) ?_
  refine ops_shape v fun d1 c1 hv _ _ _ => ?_
  subst hv
  have hoe := hok _ he
  have hks := (h0.mono hl3).1
  obtain ⟨nx, hnx⟩ : ∃ nx, nx = (crAll (m.Files.take k) ks).1 := ⟨_, rfl⟩
  rw [← hnx]
  have hnx2 : nx ≤ 256 := by
    have := crAll_next (fs := m.Files.take k) (ks := ks)
    rw [← hnx, List.length_take] at this
    omega
  have hcN1 : ¬ sy < bs.length → crN ks nx bs.length sy = bs.length := fun h => if_neg h
  have hcN2 : sy < bs.length → crN ks nx bs.length sy = sy + min (keepK ks nx) (bs.length - sy) := fun h => if_pos h
  have hsy : 0 ≤ sy ∧ sy ≤ bs.length ∧ (bs.length : Int) ≤ 262144 := ⟨hoe.2.2.1, hoe.2.2.2, by have := hoe.2.1; simp only at this; omega⟩
  have hk0' : 0 ≤ keepK ks nx := by unfold keepK; split <;> omega
  refine walk ?_
  refine ex_cutk (σ := Unit) (fun _ => True) (fun _ => [(10, I (crN ks nx bs.length sy)), (6, I (if sy < bs.length then nx + 1 else nx : Nat)), (9, ptr pf), (8, .string n), (16, I (k : Nat)), (5, .pointer (some ⟨p, 0, none⟩)), (0, .pointer (some ⟨b, 0, none⟩)), (1, .slice bb ks.length cc), (15, I ((m.Files.map (·.Name)).length : Nat)), (14, .slice b3 (m.Files.map (·.Name)).length c3)])
    (fun _ => H3) (fun _ => row pf 67 [.slice d1 bs.length c1, I sy] :: ownS rU8 1 1 5 Heap.empty (.slice d1 bs.length c1) bs :: bigL fA (l1 ++ l2) :: dRow p mp 0 false 0 :: dMap mp ys :: bigL fA ys :: dMap mb (l1 ++ ⟨n, pf, .slice d1 bs.length c1, bs, sy⟩ :: l2) :: dRow b mb m.Steps m.Armed (leftV m) :: R) (fun K2 hK2 => ?_) (fun _ _ => ?_)
  · refine ex_if rfl (fun hq1 => ?_) (fun hq1 => ?_)
    rotate_left
    · rw [hcN1 hq1, if_neg hq1] at hK2
      refine walk ?_
      exact out_to hK2 () trivial
    rw [hcN2 hq1, if_pos hq1] at hK2
    refine walk ?_
    refine ex_cutk (σ := Unit) (fun _ => True) (fun _ => [(11, I (keepK ks nx)), (10, I bs.length), (6, I nx), (9, ptr pf), (8, .string n), (16, I (k : Nat)), (5, .pointer (some ⟨p, 0, none⟩)), (0, .pointer (some ⟨b, 0, none⟩)), (1, .slice bb ks.length cc), (15, I ((m.Files.map (·.Name)).length : Nat)), (14, .slice b3 (m.Files.map (·.Name)).length c3)])
      (fun _ => H3) (fun _ => row pf 67 [.slice d1 bs.length c1, I sy] :: ownS rU8 1 1 5 Heap.empty (.slice d1 bs.length c1) bs :: bigL fA (l1 ++ l2) :: dRow p mp 0 false 0 :: dMap mp ys :: bigL fA ys :: dMap mb (l1 ++ ⟨n, pf, .slice d1 bs.length c1, bs, sy⟩ :: l2) :: dRow b mb m.Steps m.Armed (leftV m) :: R) (fun K3 hK3 => ?_) (fun _ _ => ?_)
    · refine ex_if rfl (fun hq2 => ?_) (fun hq2 => ?_)
      · have hq3 : nx < ks.length := by omega
        have hkv : keepK ks nx = max 0 ks[nx] := by unfold keepK; rw [if_pos hq3]; simp [List.getD, hq3]
        rw [hkv] at hK3
        refine walk ?_
        exact out_to hK3 () trivial
      · have hq3 : ¬ nx < ks.length := by omega
        have hkv : keepK ks nx = 0 := by unfold keepK; rw [if_neg hq3]
        rw [hkv] at hK3
        refine walk ?_
        exact out_to hK3 () trivial
    have hfit : fits (nx + 1 : Int) := by unfold fits; omega
    refine walk ?_
    have hf1 : fits ((bs.length : Int) - sy) := by unfold fits; omega
    have hf2 : fits (sy + min (keepK ks nx) ((bs.length : Int) - sy)) := by unfold fits; omega
    refine ex_any 13 (row pf 67 [.slice d1 bs.length c1, I sy] :: ownS rU8 1 1 5 Heap.empty (.slice d1 bs.length c1) bs :: bigL fA (l1 ++ l2) :: dRow p mp 0 false 0 :: dMap mp ys :: bigL fA ys :: dMap mb (l1 ++ ⟨n, pf, .slice d1 bs.length c1, bs, sy⟩ :: l2) :: dRow b mb m.Steps m.Armed (leftV m) :: R) ?_
    (first | refine gny_p 0 rfl rfl rfl ?_ | refine gny_ld 0 rfl rfl rfl rfl ?_ | refine gny_ldH 0 rfl rfl rfl ‹HRow _ _ 0 _› rfl ?_ | refine gny_T 0 rfl rfl rfl ?_ | refine gny_F 0 rfl rfl rfl ?_ | refine gny_B 0 rfl rfl rfl ?_ | refine gny_skip 0 rfl rfl ?_ | refine gny_sp 0 rfl rfl rfl ?_ | refine gny_sB 0 rfl rfl rfl ?_ | refine gny_sld 0 rfl rfl rfl rfl ?_ | refine gny_sldH 0 rfl rfl rfl ‹HRow _ _ 0 _› rfl ?_ | refine gny_ldN 0 rfl rfl rfl rfl ?_ | refine gny_bld 0 rfl rfl rfl ?_); (first | refine gny_p 1 rfl rfl rfl ?_ | refine gny_ld 1 rfl rfl rfl rfl ?_ | refine gny_ldH 1 rfl rfl rfl ‹HRow _ _ 0 _› rfl ?_ | refine gny_T 1 rfl rfl rfl ?_ | refine gny_F 1 rfl rfl rfl ?_ | refine gny_B 1 rfl rfl rfl ?_ | refine gny_skip 1 rfl rfl ?_ | refine gny_sp 1 rfl rfl rfl ?_ | refine gny_sB 1 rfl rfl rfl ?_ | refine gny_sld 1 rfl rfl rfl rfl ?_ | refine gny_sldH 1 rfl rfl rfl ‹HRow _ _ 0 _› rfl ?_ | refine gny_ldN 1 rfl rfl rfl rfl ?_ | refine gny_bld 1 rfl rfl rfl ?_); (first | refine gny_p 2 rfl rfl rfl ?_ | refine gny_ld 2 rfl rfl rfl rfl ?_ | refine gny_ldH 2 rfl rfl rfl ‹HRow _ _ 0 _› rfl ?_ | refine gny_T 2 rfl rfl rfl ?_ | refine gny_F 2 rfl rfl rfl ?_ | refine gny_B 2 rfl rfl rfl ?_ | refine gny_skip 2 rfl rfl ?_ | refine gny_sp 2 rfl rfl rfl ?_ | refine gny_sB 2 rfl rfl rfl ?_ | refine gny_sld 2 rfl rfl rfl rfl ?_ | refine gny_sldH 2 rfl rfl rfl ‹HRow _ _ 0 _› rfl ?_ | refine gny_ldN 2 rfl rfl rfl rfl ?_ | refine gny_bld 2 rfl rfl rfl ?_); (first | refine gny_p 3 rfl rfl rfl ?_ | refine gny_ld 3 rfl rfl rfl rfl ?_ | refine gny_ldH 3 rfl rfl rfl ‹HRow _ _ 0 _› rfl ?_ | refine gny_T 3 rfl rfl rfl ?_ | refine gny_F 3 rfl rfl rfl ?_ | refine gny_B 3 rfl rfl rfl ?_ | refine gny_skip 3 rfl rfl ?_ | refine gny_sp 3 rfl rfl rfl ?_ | refine gny_sB 3 rfl rfl rfl ?_ | refine gny_sld 3 rfl rfl rfl rfl ?_ | refine gny_sldH 3 rfl rfl rfl ‹HRow _ _ 0 _› rfl ?_ | refine gny_ldN 3 rfl rfl rfl rfl ?_ | refine gny_bld 3 rfl rfl rfl ?_); (first | refine gny_p 4 rfl rfl rfl ?_ | refine gny_ld 4 rfl rfl rfl rfl ?_ | refine gny_ldH 4 rfl rfl rfl ‹HRow _ _ 0 _› rfl ?_ | refine gny_T 4 rfl rfl rfl ?_ | refine gny_F 4 rfl rfl rfl ?_ | refine gny_B 4 rfl rfl rfl ?_ | refine gny_skip 4 rfl rfl ?_ | refine gny_sp 4 rfl rfl rfl ?_ | refine gny_sB 4 rfl rfl rfl ?_ | refine gny_sld 4 rfl rfl rfl rfl ?_ | refine gny_sldH 4 rfl rfl rfl ‹HRow _ _ 0 _› rfl ?_ | refine gny_ldN 4 rfl rfl rfl rfl ?_ | refine gny_bld 4 rfl rfl rfl ?_); (first | refine gny_p 5 rfl rfl rfl ?_ | refine gny_ld 5 rfl rfl rfl rfl ?_ | refine gny_ldH 5 rfl rfl rfl ‹HRow _ _ 0 _› rfl ?_ | refine gny_T 5 rfl rfl rfl ?_ | refine gny_F 5 rfl rfl rfl ?_ | refine gny_B 5 rfl rfl rfl ?_ | refine gny_skip 5 rfl rfl ?_ | refine gny_sp 5 rfl rfl rfl ?_ | refine gny_sB 5 rfl rfl rfl ?_ | refine gny_sld 5 rfl rfl rfl rfl ?_ | refine gny_sldH 5 rfl rfl rfl ‹HRow _ _ 0 _› rfl ?_ | refine gny_ldN 5 rfl rfl rfl rfl ?_ | refine gny_bld 5 rfl rfl rfl ?_); (first | refine gny_p 6 rfl rfl rfl ?_ | refine gny_ld 6 rfl rfl rfl rfl ?_ | refine gny_ldH 6 rfl rfl rfl ‹HRow _ _ 0 _› rfl ?_ | refine gny_T 6 rfl rfl rfl ?_ | refine gny_F 6 rfl rfl rfl ?_ | refine gny_B 6 rfl rfl rfl ?_ | refine gny_skip 6 rfl rfl ?_ | refine gny_sp 6 rfl rfl rfl ?_ | refine gny_sB 6 rfl rfl rfl ?_ | refine gny_sld 6 rfl rfl rfl rfl ?_ | refine gny_sldH 6 rfl rfl rfl ‹HRow _ _ 0 _› rfl ?_ | refine gny_ldN 6 rfl rfl rfl rfl ?_ | refine gny_bld 6 rfl rfl rfl ?_); (first | refine gny_p 7 rfl rfl rfl ?_ | refine gny_ld 7 rfl rfl rfl rfl ?_ | refine gny_ldH 7 rfl rfl rfl ‹HRow _ _ 0 _› rfl ?_ | refine gny_T 7 rfl rfl rfl ?_ | refine gny_F 7 rfl rfl rfl ?_ | refine gny_B 7 rfl rfl rfl ?_ | refine gny_skip 7 rfl rfl ?_ | refine gny_sp 7 rfl rfl rfl ?_ | refine gny_sB 7 rfl rfl rfl ?_ | refine gny_sld 7 rfl rfl rfl rfl ?_ | refine gny_sldH 7 rfl rfl rfl ‹HRow _ _ 0 _› rfl ?_ | refine gny_ldN 7 rfl rfl rfl rfl ?_ | refine gny_bld 7 rfl rfl rfl ?_); (first | refine gny_p 8 rfl rfl rfl ?_ | refine gny_ld 8 rfl rfl rfl rfl ?_ | refine gny_ldH 8 rfl rfl rfl ‹HRow _ _ 0 _› rfl ?_ | refine gny_T 8 rfl rfl rfl ?_ | refine gny_F 8 rfl rfl rfl ?_ | refine gny_B 8 rfl rfl rfl ?_ | refine gny_skip 8 rfl rfl ?_ | refine gny_sp 8 rfl rfl rfl ?_ | refine gny_sB 8 rfl rfl rfl ?_ | refine gny_sld 8 rfl rfl rfl rfl ?_ | refine gny_sldH 8 rfl rfl rfl ‹HRow _ _ 0 _› rfl ?_ | refine gny_ldN 8 rfl rfl rfl rfl ?_ | refine gny_bld 8 rfl rfl rfl ?_); (first | refine gny_p 9 rfl rfl rfl ?_ | refine gny_ld 9 rfl rfl rfl rfl ?_ | refine gny_ldH 9 rfl rfl rfl ‹HRow _ _ 0 _› rfl ?_ | refine gny_T 9 rfl rfl rfl ?_ | refine gny_F 9 rfl rfl rfl ?_ | refine gny_B 9 rfl rfl rfl ?_ | refine gny_skip 9 rfl rfl ?_ | refine gny_sp 9 rfl rfl rfl ?_ | refine gny_sB 9 rfl rfl rfl ?_ | refine gny_sld 9 rfl rfl rfl rfl ?_ | refine gny_sldH 9 rfl rfl rfl ‹HRow _ _ 0 _› rfl ?_ | refine gny_ldN 9 rfl rfl rfl rfl ?_ | refine gny_bld 9 rfl rfl rfl ?_); (first | refine gny_p 10 rfl rfl rfl ?_ | refine gny_ld 10 rfl rfl rfl rfl ?_ | refine gny_ldH 10 rfl rfl rfl ‹HRow _ _ 0 _› rfl ?_ | refine gny_T 10 rfl rfl rfl ?_ | refine gny_F 10 rfl rfl rfl ?_ | refine gny_B 10 rfl rfl rfl ?_ | refine gny_skip 10 rfl rfl ?_ | refine gny_sp 10 rfl rfl rfl ?_ | refine gny_sB 10 rfl rfl rfl ?_ | refine gny_sld 10 rfl rfl rfl rfl ?_ | refine gny_sldH 10 rfl rfl rfl ‹HRow _ _ 0 _› rfl ?_ | refine gny_ldN 10 rfl rfl rfl rfl ?_ | refine gny_bld 10 rfl rfl rfl ?_); (first | refine gny_p 11 rfl rfl rfl ?_ | refine gny_ld 11 rfl rfl rfl rfl ?_ | refine gny_ldH 11 rfl rfl rfl ‹HRow _ _ 0 _› rfl ?_ | refine gny_T 11 rfl rfl rfl ?_ | refine gny_F 11 rfl rfl rfl ?_ | refine gny_B 11 rfl rfl rfl ?_ | refine gny_skip 11 rfl rfl ?_ | refine gny_sp 11 rfl rfl rfl ?_ | refine gny_sB 11 rfl rfl rfl ?_ | refine gny_sld 11 rfl rfl rfl rfl ?_ | refine gny_sldH 11 rfl rfl rfl ‹HRow _ _ 0 _› rfl ?_ | refine gny_ldN 11 rfl rfl rfl rfl ?_ | refine gny_bld 11 rfl rfl rfl ?_); (first | refine gny_p 12 rfl rfl rfl ?_ | refine gny_ld 12 rfl rfl rfl rfl ?_ | refine gny_ldH 12 rfl rfl rfl ‹HRow _ _ 0 _› rfl ?_ | refine gny_T 12 rfl rfl rfl ?_ | refine gny_F 12 rfl rfl rfl ?_ | refine gny_B 12 rfl rfl rfl ?_ | refine gny_skip 12 rfl rfl ?_ | refine gny_sp 12 rfl rfl rfl ?_ | refine gny_sB 12 rfl rfl rfl ?_ | refine gny_sld 12 rfl rfl rfl rfl ?_ | refine gny_sldH 12 rfl rfl rfl ‹HRow _ _ 0 _› rfl ?_ | refine gny_ldN 12 rfl rfl rfl rfl ?_ | refine gny_bld 12 rfl rfl rfl ?_)
    refine any_rest rfl ?_
    refine walk ?_
    exact out_to hK2 () trivial
  have hcb : 0 ≤ crN ks nx bs.length sy ∧ crN ks nx bs.length sy ≤ bs.length := by
    by_cases h : sy < bs.length
    · rw [hcN2 h]; omega
    · rw [hcN1 h]; omega
  obtain ⟨j, hj⟩ := Int.eq_ofNat_of_zero_le hcb.1
  rw [hj]
  have hjb : j ≤ bs.length := by omega
  refine ex_lendS (.slice d1 bs.length c1) fun D hD hdj hleD hsD => ?_
  have hpre : SlB rU8 1 1 (union H3 D) (.slice d1 j c1) (bs.take j) := ⟨slr_take hsD.1 hjb, by have := hsD.2; rw [List.length_take]; simp only [cap47] at *; omega⟩
  refine ex_any 15 (row pf 67 [.slice d1 bs.length c1, I sy] :: bigL fA (l1 ++ l2) :: dRow p mp 0 false 0 :: dMap mp ys :: bigL fA ys :: dMap mb (l1 ++ ⟨n, pf, .slice d1 bs.length c1, bs, sy⟩ :: l2) :: dRow b mb m.Steps m.Armed (leftV m) :: R) ?_
  (first | refine gny_p 0 rfl rfl rfl ?_ | refine gny_ld 0 rfl rfl rfl rfl ?_ | refine gny_ldH 0 rfl rfl rfl ‹HRow _ _ 0 _› rfl ?_ | refine gny_T 0 rfl rfl rfl ?_ | refine gny_F 0 rfl rfl rfl ?_ | refine gny_B 0 rfl rfl rfl ?_ | refine gny_skip 0 rfl rfl ?_ | refine gny_sp 0 rfl rfl rfl ?_ | refine gny_sB 0 rfl rfl rfl ?_ | refine gny_sld 0 rfl rfl rfl rfl ?_ | refine gny_sldH 0 rfl rfl rfl ‹HRow _ _ 0 _› rfl ?_ | refine gny_ldN 0 rfl rfl rfl rfl ?_ | refine gny_bld 0 rfl rfl rfl ?_); (first | refine gny_p 1 rfl rfl rfl ?_ | refine gny_ld 1 rfl rfl rfl rfl ?_ | refine gny_ldH 1 rfl rfl rfl ‹HRow _ _ 0 _› rfl ?_ | refine gny_T 1 rfl rfl rfl ?_ | refine gny_F 1 rfl rfl rfl ?_ | refine gny_B 1 rfl rfl rfl ?_ | refine gny_skip 1 rfl rfl ?_ | refine gny_sp 1 rfl rfl rfl ?_ | refine gny_sB 1 rfl rfl rfl ?_ | refine gny_sld 1 rfl rfl rfl rfl ?_ | refine gny_sldH 1 rfl rfl rfl ‹HRow _ _ 0 _› rfl ?_ | refine gny_ldN 1 rfl rfl rfl rfl ?_ | refine gny_bld 1 rfl rfl rfl ?_); (first | refine gny_p 2 rfl rfl rfl ?_ | refine gny_ld 2 rfl rfl rfl rfl ?_ | refine gny_ldH 2 rfl rfl rfl ‹HRow _ _ 0 _› rfl ?_ | refine gny_T 2 rfl rfl rfl ?_ | refine gny_F 2 rfl rfl rfl ?_ | refine gny_B 2 rfl rfl rfl ?_ | refine gny_skip 2 rfl rfl ?_ | refine gny_sp 2 rfl rfl rfl ?_ | refine gny_sB 2 rfl rfl rfl ?_ | refine gny_sld 2 rfl rfl rfl rfl ?_ | refine gny_sldH 2 rfl rfl rfl ‹HRow _ _ 0 _› rfl ?_ | refine gny_ldN 2 rfl rfl rfl rfl ?_ | refine gny_bld 2 rfl rfl rfl ?_); (first | refine gny_p 3 rfl rfl rfl ?_ | refine gny_ld 3 rfl rfl rfl rfl ?_ | refine gny_ldH 3 rfl rfl rfl ‹HRow _ _ 0 _› rfl ?_ | refine gny_T 3 rfl rfl rfl ?_ | refine gny_F 3 rfl rfl rfl ?_ | refine gny_B 3 rfl rfl rfl ?_ | refine gny_skip 3 rfl rfl ?_ | refine gny_sp 3 rfl rfl rfl ?_ | refine gny_sB 3 rfl rfl rfl ?_ | refine gny_sld 3 rfl rfl rfl rfl ?_ | refine gny_sldH 3 rfl rfl rfl ‹HRow _ _ 0 _› rfl ?_ | refine gny_ldN 3 rfl rfl rfl rfl ?_ | refine gny_bld 3 rfl rfl rfl ?_); (first | refine gny_p 4 rfl rfl rfl ?_ | refine gny_ld 4 rfl rfl rfl rfl ?_ | refine gny_ldH 4 rfl rfl rfl ‹HRow _ _ 0 _› rfl ?_ | refine gny_T 4 rfl rfl rfl ?_ | refine gny_F 4 rfl rfl rfl ?_ | refine gny_B 4 rfl rfl rfl ?_ | refine gny_skip 4 rfl rfl ?_ | refine gny_sp 4 rfl rfl rfl ?_ | refine gny_sB 4 rfl rfl rfl ?_ | refine gny_sld 4 rfl rfl rfl rfl ?_ | refine gny_sldH 4 rfl rfl rfl ‹HRow _ _ 0 _› rfl ?_ | refine gny_ldN 4 rfl rfl rfl rfl ?_ | refine gny_bld 4 rfl rfl rfl ?_); (first | refine gny_p 5 rfl rfl rfl ?_ | refine gny_ld 5 rfl rfl rfl rfl ?_ | refine gny_ldH 5 rfl rfl rfl ‹HRow _ _ 0 _› rfl ?_ | refine gny_T 5 rfl rfl rfl ?_ | refine gny_F 5 rfl rfl rfl ?_ | refine gny_B 5 rfl rfl rfl ?_ | refine gny_skip 5 rfl rfl ?_ | refine gny_sp 5 rfl rfl rfl ?_ | refine gny_sB 5 rfl rfl rfl ?_ | refine gny_sld 5 rfl rfl rfl rfl ?_ | refine gny_sldH 5 rfl rfl rfl ‹HRow _ _ 0 _› rfl ?_ | refine gny_ldN 5 rfl rfl rfl rfl ?_ | refine gny_bld 5 rfl rfl rfl ?_); (first | refine gny_p 6 rfl rfl rfl ?_ | refine gny_ld 6 rfl rfl rfl rfl ?_ | refine gny_ldH 6 rfl rfl rfl ‹HRow _ _ 0 _› rfl ?_ | refine gny_T 6 rfl rfl rfl ?_ | refine gny_F 6 rfl rfl rfl ?_ | refine gny_B 6 rfl rfl rfl ?_ | refine gny_skip 6 rfl rfl ?_ | refine gny_sp 6 rfl rfl rfl ?_ | refine gny_sB 6 rfl rfl rfl ?_ | refine gny_sld 6 rfl rfl rfl rfl ?_ | refine gny_sldH 6 rfl rfl rfl ‹HRow _ _ 0 _› rfl ?_ | refine gny_ldN 6 rfl rfl rfl rfl ?_ | refine gny_bld 6 rfl rfl rfl ?_); (first | refine gny_p 7 rfl rfl rfl ?_ | refine gny_ld 7 rfl rfl rfl rfl ?_ | refine gny_ldH 7 rfl rfl rfl ‹HRow _ _ 0 _› rfl ?_ | refine gny_T 7 rfl rfl rfl ?_ | refine gny_F 7 rfl rfl rfl ?_ | refine gny_B 7 rfl rfl rfl ?_ | refine gny_skip 7 rfl rfl ?_ | refine gny_sp 7 rfl rfl rfl ?_ | refine gny_sB 7 rfl rfl rfl ?_ | refine gny_sld 7 rfl rfl rfl rfl ?_ | refine gny_sldH 7 rfl rfl rfl ‹HRow _ _ 0 _› rfl ?_ | refine gny_ldN 7 rfl rfl rfl rfl ?_ | refine gny_bld 7 rfl rfl rfl ?_); (first | refine gny_p 8 rfl rfl rfl ?_ | refine gny_ld 8 rfl rfl rfl rfl ?_ | refine gny_ldH 8 rfl rfl rfl ‹HRow _ _ 0 _› rfl ?_ | refine gny_T 8 rfl rfl rfl ?_ | refine gny_F 8 rfl rfl rfl ?_ | refine gny_B 8 rfl rfl rfl ?_ | refine gny_skip 8 rfl rfl ?_ | refine gny_sp 8 rfl rfl rfl ?_ | refine gny_sB 8 rfl rfl rfl ?_ | refine gny_sld 8 rfl rfl rfl rfl ?_ | refine gny_sldH 8 rfl rfl rfl ‹HRow _ _ 0 _› rfl ?_ | refine gny_ldN 8 rfl rfl rfl rfl ?_ | refine gny_bld 8 rfl rfl rfl ?_); (first | refine gny_p 9 rfl rfl rfl ?_ | refine gny_ld 9 rfl rfl rfl rfl ?_ | refine gny_ldH 9 rfl rfl rfl ‹HRow _ _ 0 _› rfl ?_ | refine gny_T 9 rfl rfl rfl ?_ | refine gny_F 9 rfl rfl rfl ?_ | refine gny_B 9 rfl rfl rfl ?_ | refine gny_skip 9 rfl rfl ?_ | refine gny_sp 9 rfl rfl rfl ?_ | refine gny_sB 9 rfl rfl rfl ?_ | refine gny_sld 9 rfl rfl rfl rfl ?_ | refine gny_sldH 9 rfl rfl rfl ‹HRow _ _ 0 _› rfl ?_ | refine gny_ldN 9 rfl rfl rfl rfl ?_ | refine gny_bld 9 rfl rfl rfl ?_); (first | refine gny_p 10 rfl rfl rfl ?_ | refine gny_ld 10 rfl rfl rfl rfl ?_ | refine gny_ldH 10 rfl rfl rfl ‹HRow _ _ 0 _› rfl ?_ | refine gny_T 10 rfl rfl rfl ?_ | refine gny_F 10 rfl rfl rfl ?_ | refine gny_B 10 rfl rfl rfl ?_ | refine gny_skip 10 rfl rfl ?_ | refine gny_sp 10 rfl rfl rfl ?_ | refine gny_sB 10 rfl rfl rfl ?_ | refine gny_sld 10 rfl rfl rfl rfl ?_ | refine gny_sldH 10 rfl rfl rfl ‹HRow _ _ 0 _› rfl ?_ | refine gny_ldN 10 rfl rfl rfl rfl ?_ | refine gny_bld 10 rfl rfl rfl ?_); (first | refine gny_p 12 rfl rfl rfl ?_ | refine gny_ld 12 rfl rfl rfl rfl ?_ | refine gny_ldH 12 rfl rfl rfl ‹HRow _ _ 0 _› rfl ?_ | refine gny_T 12 rfl rfl rfl ?_ | refine gny_F 12 rfl rfl rfl ?_ | refine gny_B 12 rfl rfl rfl ?_ | refine gny_skip 12 rfl rfl ?_ | refine gny_sp 12 rfl rfl rfl ?_ | refine gny_sB 12 rfl rfl rfl ?_ | refine gny_sld 12 rfl rfl rfl rfl ?_ | refine gny_sldH 12 rfl rfl rfl ‹HRow _ _ 0 _› rfl ?_ | refine gny_ldN 12 rfl rfl rfl rfl ?_ | refine gny_bld 12 rfl rfl rfl ?_)
  refine gny_call 11 rfl rfl rfl (cloneB_spec hpre) fun r4 H4 B hl4 ⟨eB, eH⟩ => ?_
  subst eB eH
  refine ⟨(by (repeat (first | exact Sub.refl _ | exact Sub.nil _ | (apply sub_pick; (repeat (first | exact Has.here | apply Has.there)); skip) | apply Sub.drop))), ?_⟩
  refine any_shape r4 fun d4 c4 hr4 _ _ _ => ?_
  subst hr4
  (first | refine gny_p 13 rfl rfl rfl ?_ | refine gny_ld 13 rfl rfl rfl rfl ?_ | refine gny_ldH 13 rfl rfl rfl ‹HRow _ _ 0 _› rfl ?_ | refine gny_T 13 rfl rfl rfl ?_ | refine gny_F 13 rfl rfl rfl ?_ | refine gny_B 13 rfl rfl rfl ?_ | refine gny_skip 13 rfl rfl ?_ | refine gny_sp 13 rfl rfl rfl ?_ | refine gny_sB 13 rfl rfl rfl ?_ | refine gny_sld 13 rfl rfl rfl rfl ?_ | refine gny_sldH 13 rfl rfl rfl ‹HRow _ _ 0 _› rfl ?_ | refine gny_ldN 13 rfl rfl rfl rfl ?_ | refine gny_bld 13 rfl rfl rfl ?_)
  refine gny_w 14 rfl rfl (op_box rfl rfl fun q _ => ⟨.refl _, (by (repeat (first | exact Sub.refl _ | exact Sub.nil _ | (apply sub_pick; (repeat (first | exact Has.here | apply Has.there)); skip) | apply Sub.drop))), ?_⟩)
  refine any_rest rfl ?_
  refine ops_back hD hdj (.refl _) ?_
  have hef2 : f = ⟨n, tx bs, sy⟩ := hef.symm
  have hsz : ((tx bs).size : Int) = bs.length := by rw [tx_size]
  have htk : m.Files.take (k + 1) = m.Files.take k ++ [f] := by rw [List.take_succ_eq_append_getElem hk4, ← hf]
  have hcr : crAll (m.Files.take (k + 1)) ks = (if sy < bs.length then nx + 1 else nx, ys.map FE.f ++ [⟨n, tx (bs.take j), j⟩]) := by
    rw [htk, crAll_snoc, hk2]
    simp only [crStep, hef2, hsz, ← hnx, hj, Int.toNat_natCast, tx_take]
  have hnew : ∀ x ∈ ys, x.nm ≠ n := by
    intro x hx hxn
    have h1 : x.f ∈ (crAll (m.Files.take k) ks).2 := by rw [← hk2]; exact List.mem_map.2 ⟨x, hx, rfl⟩
    have h2 : n ∈ (m.Files.take k).map (·.Name) := by rw [← crAll_names (ks := ks)]; exact List.mem_map.2 ⟨x.f, h1, hxn⟩
    have h3 := up_names hrel.2
    have h4 : List.Sublist ((m.Files.take (k + 1)).map (·.Name)) (m.Files.map (·.Name)) := (List.take_sublist _ _).map _
    have h5 := List.Sublist.nodup h4 h3
    rw [htk, List.map_append, List.nodup_append] at h5
    exact h5.2.2 n h2 n (by rw [hef2]; simp) rfl
  refine ops_update (RV := rVal) (u := ptr q) (cs := [ptr q]) rfl rfl (show rVal Heap.empty [ptr q] (ptr q) from ⟨rfl, rfl⟩) (by repeat (first | exact Has.here | apply Has.there)) ?_
  rw [ms_new (e := ⟨n, q, .slice d4 (bs.take j).length c4, bs.take j, j⟩) hnew]
  have hfit : fits ((k : Int) + 1) := by unfold fits; omega
  refine walk ?_
  refine out_next hL (k + 1, ys ++ [⟨n, q, .slice d4 (bs.take j).length c4, bs.take j, j⟩]) ⟨by omega, ?_, ?_⟩ (hs := ?_) (hf := ?_)
  · rw [hcr, List.map_append]; rfl
  · intro x hx
    rcases List.mem_append.1 hx with h | h
    · exact hk3 x h
    · rw [List.mem_singleton.1 h]
      exact ⟨hoe.1, by have := hoe.2.1; simp only [List.length_take] at *; omega, by simp only; omega, by simp only [List.length_take]; omega⟩
  · dsimp only
    refine Sub.trans (show Sub _ (ownS rU8 1 1 5 (union H3 D) (.slice d4 (bs.take j).length c4) (bs.take j) :: row q 67 [.slice d4 (bs.take j).length c4, I (j : Nat)] :: row pf 67 [.slice d1 bs.length c1, I sy] :: ownS rU8 1 1 5 Heap.empty (.slice d1 bs.length c1) bs :: bigL fA (l1 ++ l2) :: dRow p mp 0 false 0 :: dMap mp (ys ++ [⟨n, q, .slice d4 (bs.take j).length c4, bs.take j, j⟩]) :: bigL fA (ys ++ []) :: dMap mb (l1 ++ ⟨n, pf, .slice d1 bs.length c1, bs, sy⟩ :: l2) :: dRow b mb m.Steps m.Armed (leftV m) :: R) from by rw [List.append_nil]; exact (by (repeat (first | exact Sub.refl _ | exact Sub.nil _ | (apply sub_pick; (repeat (first | exact Has.here | apply Has.there)); skip) | apply Sub.drop)))) ?_
    refine (sub_flat _ Heap.empty).trans ?_
    refine Sub.trans (show Sub _ (row q 67 [.slice d4 (bs.take j).length c4, I (j : Nat)] :: ownS rU8 1 1 5 Heap.empty (.slice d4 (bs.take j).length c4) (bs.take j) :: bigL fA (ys ++ []) :: row pf 67 [.slice d1 bs.length c1, I sy] :: ownS rU8 1 1 5 Heap.empty (.slice d1 bs.length c1) bs :: bigL fA (l1 ++ l2) :: dRow p mp 0 false 0 :: dMap mp (ys ++ [⟨n, q, .slice d4 (bs.take j).length c4, bs.take j, j⟩]) :: dMap mb (l1 ++ ⟨n, pf, .slice d1 bs.length c1, bs, sy⟩ :: l2) :: dRow b mb m.Steps m.Armed (leftV m) :: R) from (by (repeat (first | exact Sub.refl _ | exact Sub.nil _ | (apply sub_pick; (repeat (first | exact Has.here | apply Has.there)); skip) | apply Sub.drop)))) ?_
    refine (zs_in (e := ⟨n, q, .slice d4 (bs.take j).length c4, bs.take j, j⟩)).trans ?_
    refine Sub.trans (Sub.cons (zs_in (e := ⟨n, pf, .slice d1 bs.length c1, bs, sy⟩))) ?_
    (repeat (first | exact Sub.refl _ | exact Sub.nil _ | (apply sub_pick; (repeat (first | exact Has.here | apply Has.there)); skip) | apply Sub.drop))
  · rw [hcr]
    (try dsimp only); repeat (first | exact fsub_nil _ | refine fsub_cons rfl ?_)
end Go.Proofs.Ytjafnombaehcaaa
