/- Owned resources, lending, stores at any place, append in place, clear, struct literals. No program in sight. -/
import Derived.Test.YtnfmjkjhiolfdaaDoorSx8
import Derived.Laws.Cover3
set_option linter.unusedVariables false
set_option linter.unusedSimpArgs false
namespace Go.Sx
open Go
/-! ### Lists of resources -/
theorem big_app {A B : List HProp} {h : Heap} (hb : big (A ++ B) h) : ∃ h1 h2, big A h1 ∧ big B h2 ∧ Disj h1 h2 ∧ h1.le h ∧ h2.le h := by
  induction A generalizing h with
  | nil => exact ⟨Heap.empty, h, trivial, hb, fun _ => .inl rfl, fun _ _ h => by simp [Heap.empty] at h, .refl _⟩
  | cons a A ih =>
    obtain ⟨h1, h2, p, q, d, l1, l2⟩ := hb
    obtain ⟨h3, h4, p3, p4, d34, l3, l4⟩ := ih q
    have d13 : Disj h1 h3 := (d.symm.mono l3).symm
    have d14 : Disj h1 h4 := (d.symm.mono l4).symm
    exact ⟨union h1 h3, h4, ⟨h1, h3, p, p3, d13, le_union_left _ _, le_union_right d13⟩, p4, disj_union d14 d34, union_le l1 (l3.trans l2), l4.trans l2⟩
theorem big_mk {A B : List HProp} {h h1 h2 : Heap} (ha : big A h1) (hb : big B h2) (d : Disj h1 h2) (l1 : h1.le h) (l2 : h2.le h) : big (A ++ B) h := by
  induction A generalizing h h1 with
  | nil => exact big_mono l2 hb
  | cons a A ih =>
    obtain ⟨h3, h4, p, q, dd, l3, l4⟩ := ha
    have d32 : Disj h3 h2 := d.mono l3
    have d42 : Disj h4 h2 := d.mono l4
    exact ⟨h3, union h4 h2, p, ih q d42 (le_union_left _ _) (le_union_right d42), (disj_union dd.symm d32.symm).symm, l3.trans l1, union_le (l4.trans l1) l2⟩
/-- a resource made of others -/
def bigO (A : List HProp) : HProp := big A
theorem sub_open {A : HProp} {B R : List HProp} (h : ∀ x, A x → big B x) : Sub (A :: R) (B ++ R) := fun x ⟨h1, h2, p, q, d, l1, l2⟩ => big_mk (h _ p) q d l1 l2
theorem sub_shut {A : HProp} {B R : List HProp} (h : ∀ x, big B x → A x) : Sub (B ++ R) (A :: R) := fun x hx => by
  obtain ⟨h1, h2, p, q, d, l1, l2⟩ := big_app hx
  exact ⟨h1, h2, h _ p, q, d, l1, l2⟩
theorem sub_fold {L R : List HProp} {A : HProp} {B : List HProp} (hs : Sub L (B ++ R)) (h : ∀ x, big B x → A x) : Sub L (A :: R) := hs.trans (sub_shut h)
theorem sub_into {L L' R : List HProp} {A : HProp} {B : List HProp} (ht : Has L A R) (h : ∀ x, A x → big B x) (hs : Sub (B ++ R) L') : Sub L L' := ht.to.trans ((sub_open h).trans hs)
section
variable {n : Nat} {W0 : World} {F : Slots} {H : Heap} {L R : List HProp} {G : Act → World → Prop}
theorem sat_unfold {σ : Type} {A : HProp} {B : σ → List HProp} {p : σ → Prop} (hh : Has L A R) (hu : ∀ h, A h → ∃ s, p s ∧ big (B s) h) (h : ∀ s, p s → Sat n W0 F H (B s ++ R) G) : Sat n W0 F H L G := fun a w hF hS => by
  obtain ⟨hA, hR, pa, r, d, dA, dR, lA, lR⟩ := (hS.sub hh.to).parts
  obtain ⟨s, hp, hb⟩ := hu hA pa
  refine h s hp a w hF ⟨hS.env, hS.ro, union hA hR, big_mk hb r d (le_union_left _ _) (le_union_right d), union_le lA lR, (disj_union dA.symm dR.symm).symm⟩
theorem sl_unfold {P : Program} {ops : Array Oper} {Q : Exit → Act → World → Prop} {rest : List Oper} {σ : Type} {A : HProp} {B : σ → List HProp} {p : σ → Prop} (hh : Has L A R) (hu : ∀ h, A h → ∃ s, p s ∧ big (B s) h)
    (h : ∀ s, p s → SL false P n W0 F H (B s ++ R) ops Q rest) : SL false P n W0 F H L ops Q rest := sat_unfold hh hu h
theorem sat_sub {L' : List HProp} (h : Sat n W0 F H L' G) (hs : Sub L L') : Sat n W0 F H L G := fun a w hF hS => h a w hF (hS.sub hs)
/-- what is known of an owned part alone -/
theorem sat_know {A : HProp} {p : Prop} (hh : Has L A R) (hu : ∀ h, A h → p) (h : p → Sat n W0 F H L G) : Sat n W0 F H L G := fun a w hF hS => by
  obtain ⟨hA, hR, pa, _⟩ := (hS.sub hh.to).parts
  exact h (hu hA pa) a w hF hS
end
theorem own_open {T sz m : Nat} {s : Value} {xs : List Value} {h : Heap} (hm : 0 < m) (ho : own T sz s m xs h) :
    ∃ x : Nat × Nat × List Value, (s = .slice (some ⟨x.1, 0, none⟩) m x.2.1 ∧ m ≤ x.2.1 ∧ x.2.1 ≤ 9223372036854775807 ∧ xs.length = m * sz ∧ (xs ++ x.2.2).length = x.2.1 * sz) ∧ big [row x.1 T (xs ++ x.2.2)] h := by
  obtain ⟨hl, hc⟩ := ho
  rcases hc with ⟨rfl, _⟩ | ⟨b, cap, sp, rfl, _, h1, h2, h3, h4⟩
  · omega
  · exact ⟨(b, cap, sp), ⟨rfl, h1, h2, hl, h3⟩, h, Heap.empty, h4, trivial, fun _ => .inr rfl, .refl _, fun _ _ h => by simp [Heap.empty] at h⟩
theorem own_shut {T sz m b cap : Nat} {xs sp : List Value} {R : List HProp} (hl : xs.length = m * sz) (h1 : m ≤ cap) (h2 : cap ≤ 9223372036854775807) (h3 : (xs ++ sp).length = cap * sz) :
    Sub (row b T (xs ++ sp) :: R) (own T sz (.slice (some ⟨b, 0, none⟩) m cap) m xs :: R) := fun h ⟨h1', h2', p, q, d, l1, l2⟩ => by
  refine ⟨h1', h2', ⟨hl, ?_⟩, q, d, l1, l2⟩
  by_cases h0 : cap = 0
  · subst h0; have : m = 0 := by omega
    subst this; exact .inl ⟨rfl, _, rfl⟩
  · exact .inr ⟨b, cap, sp, rfl, by omega, h1, h2, h3, p⟩
theorem own_shape {T sz m : Nat} {s : Value} {xs : List Value} {h : Heap} (ho : own T sz s m xs h) : (∃ base cap, s = .slice base m cap ∧ m ≤ cap ∧ cap ≤ 9223372036854775807) ∧ xs.length = m * sz := by
  obtain ⟨hl, hc⟩ := ho
  rcases hc with ⟨rfl, b, rfl⟩ | ⟨b, cap, sp, rfl, _, h1, h2, h3, h4⟩
  · exact ⟨⟨b, 0, rfl, by omega, by omega⟩, hl⟩
  · exact ⟨⟨_, cap, rfl, h1, h2⟩, hl⟩
/-- an owned slice, read -/
theorem own_reads {T sz m : Nat} {s : Value} {xs : List Value} {h H : Heap} (ho : own T sz s m xs h) (hl : h.le H) (h1 : xs.all (·.oneCell') = true) : SlcR H sz s m xs := by
  obtain ⟨hxl, hc⟩ := ho
  rcases hc with ⟨rfl, b, rfl⟩ | ⟨b, cap, sp, rfl, _, hm, hm2, h3, h4⟩
  · have : xs = [] := List.eq_nil_of_length_eq_zero (by simpa using hxl)
    subst this; exact SlcR.nil H sz b 0 (by omega)
  · refine ⟨_, cap, rfl, ⟨hm, hm2⟩, hxl, h1, .inr ⟨b, 0, rfl, fun j u hj => ?_⟩⟩
    have : (xs ++ sp)[j]? = some u := by rw [List.getElem?_append_left (List.getElem?_eq_some_iff.1 hj).1]; exact hj
    simp [hcell, hl _ _ h4, this]

/-! ### Lending -/
section
variable {P : Program} {n : Nat} {W0 : World} {F : Slots} {H : Heap} {L : List HProp} {K : Value → Heap → List HProp → Prop} {dst : Option Tmp} {ty : TypeId} {pos : String} {aft : Array Edge} {g : Option (Nat × Bool)}
theorem Ct.lend {f : FuncId} {vs : Array Value} {A A2 : List HProp} {Post : Value → List HProp → Prop} (hs : ∀ hA, big A hA → Disj H hA → Ct P f vs W0 (union H hA) A2 (fun r _ B => Post r B)) :
    Ct P f vs W0 H (A ++ A2) (fun r _ B => ∃ B', B = A ++ B' ∧ Post r B') := by
  intro w R hS
  obtain ⟨x, hx, lx, dx⟩ := hS.own
  rw [List.append_assoc] at hx
  obtain ⟨hA, hR, pa, pr, d, l1, l2⟩ := big_app hx
  have dA : Disj H hA := (dx.symm.mono l1).symm
  have dR : Disj H hR := (dx.symm.mono l2).symm
  have hS1 : St W0 (union H hA) w (A2 ++ R) := ⟨hS.env, union_le hS.ro (l1.trans lx), hR, pr, l2.trans lx, disj_union dR d⟩
  refine (hs hA pa dA w R hS1).mono ?_
  rintro e w' ⟨r, H', B, rfl, hl, hp, hS'⟩
  have hAH' : hA.le H' := (le_union_right dA).trans hl
  let H2 : Heap := fun b => match hA b with | some _ => none | none => H' b
  have l2' : H2.le H' := fun b o hb => by
    simp only [H2] at hb; split at hb
    · cases hb
    · exact hb
  have hH2 : H.le H2 := fun b o hb => by
    have h1 : hA b = none := by rcases dA b with x | x; rw [hb] at x; cases x; exact x
    simp only [H2, h1]; exact hl b o (le_union_left _ _ b o hb)
  obtain ⟨y, py, ly, dy⟩ := hS'.own
  refine ⟨r, H2, A ++ B, rfl, hH2, ⟨B, rfl, hp⟩, hS'.env, l2'.trans hS'.ro, union hA y, ?_, union_le (hAH'.trans hS'.ro) ly, ?_⟩
  · rw [List.append_assoc]
    have dAy : Disj hA y := fun b => by
      cases h1 : hA b with
      | none => exact .inl rfl
      | some o => right; rcases dy b with x | x; rw [hAH' b o h1] at x; cases x; exact x
    exact big_mk pa py dAy (le_union_left _ _) (le_union_right dAy)
  · have h1 : Disj hA H2 := fun b => by
      cases h1 : hA b with
      | none => exact .inl rfl
      | some o => right; simp [H2, h1]
    exact (disj_union h1 (dy.symm.mono (Heap.le.refl _) |>.symm.mono l2' |>.symm)).symm
/-! ### Memory at any place -/
theorem op_storeAt {t : TypeId} {x y : Operand} {b off k : Nat} {T : TypeId} {cs vs : List Value} {v : Value} {R : List HProp} [hz : TSz P t k] (hx : opv F x = some (.pointer (some ⟨b, off, none⟩)))
    (hy : opv F y = some v) (hvc : v.cells = vs.toArray) (hl : vs.length = k) (h1 : vs.all (·.oneCell') = true) (hu : Has L (row b T cs) R) (hle : off + vs.length ≤ cs.length)
    (hk : K undef H (row b T (cs.take off ++ vs ++ cs.drop (off + vs.length)) :: R)) : OpW P n W0 ⟨dst, .store t x y, ty, pos, aft, g⟩ F H L K :=
  .of_skip fun a w hF hS => by
    have h0 := hS.sub hu.to
    have hst := run_storeCells_at P b off T vs 0 cs.toArray w h0.ptRead.1 (by simpa using hle) (by simpa using h1)
    simp only [Nat.add_zero] at hst
    refine ⟨H, _, _, ?_, .refl _, hk, h0.rowPut (cs' := cs.take off ++ vs ++ cs.drop (off + vs.length))⟩
    simp only [execOp, hF.opv hx, hF.opv hy, Instr.storeAt, Instr.sureAddr]
    simp [storeVar, hz.run, hvc, hl]
    rw [hst]; simp [hl]
theorem op_loadAt {t : TypeId} {x : Operand} {b off k : Nat} {T : TypeId} {cs vs : List Value} {R : List HProp} [ht : TAgg P t true] [hz : TSz P t k] (hx : opv F x = some (.pointer (some ⟨b, off, none⟩)))
    (hu : Has L (row b T cs) R) (hv : At cs off vs) (hl : vs.length = k) :
    OpP P n W0 ⟨dst, .load t x, ty, pos, aft, g⟩ F H L (.agg vs.toArray) := .mk fun a w hF hS => by
  have h1 : ∀ j v, vs[j]? = some v → w.cell? ((⟨b, off, none⟩ : Addr).add j) = some v := fun j v hj => by
    rw [Addr.add_lit, (hS.sub hu.to).rowCell]; exact hv j v hj
  simp [execOp, hF.opv hx, Instr.loadAt, Instr.sureAddr, run_loadVarN (t := t) hl h1]
/-- append where there is room -/
theorem op_appendIn {t tx e : TypeId} {sz by_ : Nat} {z : Value} [hT : TSl P t e] [hI : TIn P e sz by_ z] {s x : Operand} {xv : Value} {b off m cap k mk : Nat} {cs news cs' : List Value} {R : List HProp}
    (hs : opv F s = some (.slice (some ⟨b, off, none⟩) m cap)) (hx : opv F x = some xv) (hh : Has L (row b e cs) R) (hsrc : ∀ w, St W0 H w L → Src P sz tx xv k news w) (hmk : m + k = mk) (hcs : cs.take (off + m * sz) ++ news ++ cs.drop (off + m * sz + news.length) = cs') (hroom : mk ≤ cap) (hfit : off + m * sz + news.length ≤ cs.length)
    (hk : K (.slice (some ⟨b, off, none⟩) mk cap) H (row b e cs' :: R)) :
    OpW P n W0 ⟨dst, .call ⟨.builtin .append, #[s, x], #[t, tx]⟩, ty, pos, aft, g⟩ F H L K :=
  .of_run fun a w hF hS => by
    subst hmk; subst hcs
    obtain ⟨i, hi, hsz, hby, hz, hzs, hpos⟩ := hI.ex
    subst hsz; subst hby
    have h0 := hS.sub hh.to
    have hsr := hsrc w hS
    have hlen := hsr.len
    have hcells := hsr.cells
    have hst := run_storeCells_at P b (off + m * i.size) e news 0 cs.toArray w h0.ptRead.1 (by simpa using hfit) hsr.one
    simp only [Nat.add_zero] at hst
    refine ⟨_, H, _, _, ?_, .refl _, hk, h0.rowPut (cs' := cs.take (off + m * i.size) ++ news ++ cs.drop (off + m * i.size + news.length))⟩
    simp only [execOp, resolve]
    rcases hsr.kind with ⟨e', hk'⟩ | hk' <;> simp [invoke, builtin, hF.opv hs, hF.opv hx, Builtin.append_, run_underlying hT.und, run_underlying hk', sizeOf, typeInfo, hi, hlen, hcells, hroom, Addr.add_lit] <;> simp at hst <;> rw [hst] <;> simp
theorem src_row {t e : TypeId} {sz b off m c : Nat} {T : TypeId} {cs news : List Value} {R : List HProp} [hT : TSl P t e] (hh : Has L (row b T cs) R) (ha : At cs off news) (hl : news.length = m * sz) (h1 : news.all (·.oneCell') = true) :
    ∀ w, St W0 H w L → Src P sz t (.slice (some ⟨b, off, none⟩) m c) m news w := fun w hS =>
  Src.ofSlice w hT.und _ m c news hl (fun j u hj => by rw [Addr.add_lit, (hS.sub hh.to).rowCell]; exact ha j u hj) (by simpa using h1)
theorem src_none {t e : TypeId} {sz c : Nat} {base : Option Addr} [hT : TSl P t e] : ∀ w, St W0 H w L → Src P sz t (.slice base 0 c) 0 [] w := fun w _ => by
  cases base with
  | none => exact Src.ofNil w hT.und c
  | some a => exact Src.ofSlice w hT.und a 0 c [] (by simp) (by simp) (by simp)
theorem zeroCells_list (z : Value) (m : Nat) : (Builtin.zeroCells z.cells m).toList = (List.range (m * z.cells.size)).map fun i => z.cells[i % z.cells.size]! := by simp [Builtin.zeroCells, Array.toList_range]
/-- clear of a part of an owned row -/
theorem op_clear {t e : TypeId} {sz by_ : Nat} {z : Value} [hT : TSl P t e] [hI : TIn P e sz by_ z] {x : Operand} {b off m cap : Nat} {cs : List Value} {R : List HProp} (hx : opv F x = some (.slice (some ⟨b, off, none⟩) m cap))
    (hh : Has L (row b e cs) R) (hfit : off + m * sz ≤ cs.length) (h1 : z.cells.all (·.oneCell') = true) (hk : ∀ zs : List Value, zs.length = m * sz → K (.tuple #[]) H (row b e (cs.take off ++ zs ++ cs.drop (off + m * sz)) :: R)) :
    OpW P n W0 ⟨dst, .call ⟨.builtin .clear, #[x], #[t]⟩, ty, pos, aft, g⟩ F H L K :=
  .of_run fun a w hF hS => by
    obtain ⟨i, hi, hsz, hby, hz, hzs, hpos⟩ := hI.ex
    subst hsz
    have h0 := hS.sub hh.to
    have hzl : (Builtin.zeroCells z.cells m).toList.length = m * i.size := by rw [zeroCells_list]; simp [hzs]
    have hone : ∀ v ∈ (Builtin.zeroCells z.cells m).toList, v.oneCell' = true := fun v hv => by
      rw [zeroCells_list] at hv
      obtain ⟨j, _, rfl⟩ := List.mem_map.1 hv
      have hlt : j % z.cells.size < z.cells.size := Nat.mod_lt _ (by omega)
      rw [getElem!_pos z.cells _ hlt]
      exact (Array.all_eq_true.1 h1) _ hlt
    by_cases hm : m = 0
    · subst hm
      refine ⟨_, H, _, w, ?_, .refl _, hk [] (by simp), ?_⟩
      · simp only [execOp, resolve]
        simp [invoke, builtin, hF.opv hx, Builtin.clear_, run_underlying hT.und]
      · simpa using h0
    · have hst := run_storeCells_at P b off e (Builtin.zeroCells z.cells m).toList 0 cs.toArray w h0.ptRead.1 (by simp only [hzl]; simpa using hfit) hone
      simp only [Nat.add_zero] at hst
      refine ⟨_, H, _, _, ?_, .refl _, hk (Builtin.zeroCells z.cells m).toList hzl, h0.rowPut (cs' := cs.take off ++ (Builtin.zeroCells z.cells m).toList ++ cs.drop (off + m * i.size))⟩
      simp only [execOp, resolve]
      obtain ⟨m', rfl⟩ : ∃ m', m = m' + 1 := ⟨m - 1, by omega⟩
      simp [invoke, builtin, hF.opv hx, Builtin.clear_, run_underlying hT.und, zeroValue, typeInfo, hi, hz]
      rw [hst]; simp [hzl]
theorem op_clear0 {t e : TypeId} [hT : TSl P t e] {x : Operand} {base : Option Addr} {cap : Nat} (hx : opv F x = some (.slice base 0 cap)) : OpP P n W0 ⟨dst, .call ⟨.builtin .clear, #[x], #[t]⟩, ty, pos, aft, g⟩ F H L (.tuple #[]) :=
  .mk fun a w hF hS => by
    simp only [execOp, resolve]
    cases base <;> simp [invoke, builtin, hF.opv hx, Builtin.clear_, run_underlying hT.und]
theorem op_makeFunc {f : FuncId} {l : List Operand} {vs : List Value} (ha : Args F l vs) : OpP P n W0 ⟨dst, .makeFunc (.func f) #[] l.toArray, ty, pos, aft, g⟩ F H L (.func (.func f) #[] vs.toArray) := .mk fun a w hF hS => by
  have := ha.eval hF
  simp [execOp, Instr.makeFunc, this]
theorem op_eqlNil {x y : Operand} {T T' e : TypeId} {base : Option Addr} {m c : Nat} [hT : TSl P T e] (hx : opv F x = some (.slice base m c)) (hy : opv F y = some (.slice none 0 0)) :
    OpP P n W0 ⟨dst, .binOp .eql T x y T', ty, pos, aft, g⟩ F H L (.bool base.isNone) := .mk fun _ w hF _ => by
  simp only [execOp, hF.opv hx, hF.opv hy]; simp [eqGuard_at_slice, binOp, run_equal_slice_nil w T e base m c hT.und]
/-! ### Struct literals -/
/-- where the fields of a struct lie -/
class TPl (P : Program) (t : TypeId) (pl : outParam (List (Nat × Nat))) : Prop where
  ex : ∃ fs, P.underlying t = some (.struct fs) ∧ ∀ w, (fs.mapM (m := Sem) fun f => do pure (f.offset, ← sizeOf f.type)).run P w = .ok pl.toArray w
inductive FillR (F : Slots) (pl : List (Nat × Nat)) : List (Nat × Operand) → List Value → List Value → Prop
  | nil {cs : List Value} : FillR F pl [] cs cs
  | cons {i off k : Nat} {x : Operand} {v : Value} {us cs cs' cs'' : List Value} {r : List (Nat × Operand)} : pl[i]? = some (off, k) → opv F x = some v → v.cells = us.toArray → us.length = k → Lay cs off us cs' → FillR F pl r cs' cs'' → FillR F pl ((i, x) :: r) cs cs''
theorem fold_lay : ∀ (l : List Value) (off i : Nat) (arr : List Value), off + i + l.length ≤ arr.length →
    (l.zipIdx i).foldl (fun (cs : Array Value) (c, j) => cs.setIfInBounds (off + j) c) arr.toArray = (arr.take (off + i) ++ l ++ arr.drop (off + i + l.length)).toArray := by
  intro l
  induction l with
  | nil => intro off i arr _; simp
  | cons c l ih =>
    intro off i arr hl'
    simp only [List.zipIdx_cons, List.foldl_cons, List.setIfInBounds_toArray]
    rw [ih off (i + 1) _ (by simp at hl' ⊢; omega)]
    congr 1
    simp only [List.length_cons] at hl' ⊢
    rw [List.drop_set_of_lt (by omega)]
    have e1 : (arr.set (off + i) c).take (off + (i + 1)) = arr.take (off + i) ++ [c] := by
      rw [← Nat.add_assoc, List.take_add_one, List.getElem?_set_self (by omega), List.take_set_of_le (by omega)]; simp
    rw [e1]
    simp [Nat.add_assoc, Nat.add_comm 1]
theorem FillR.run {pl : List (Nat × Nat)} {ps : List (Nat × Operand)} {cs cs' : List Value} (h : FillR F pl ps cs cs') {a : Act} (hF : FrOk n a F) : Instr.fill (fun i => pl[i]?) cs.toArray (ps.map fun x => (x.1, a.eval x.2)) = some cs'.toArray := by
  induction h with
  | nil => rfl
  | @cons i off k x v us cs cs' cs'' r hp hx hc hl hlay _ ih =>
    obtain ⟨he, hfit⟩ := hlay.eq
    simp only [List.map_cons, Instr.fill, hp, hF.opv hx, hc]
    rw [if_neg (by simp; omega)]
    have := fold_lay us off 0 cs (by omega)
    simp only [Nat.add_zero] at this
    rw [← he] at this
    have e2 : (us.toArray.zipIdx.foldl (fun (cs : Array Value) (x : Value × Nat) => match x with | (c, j) => cs.setIfInBounds (off + j) c) cs.toArray) = cs'.toArray := by simpa using this
    rw [e2]; exact ih
theorem op_build {t : TypeId} {pl : List (Nat × Nat)} {ps : List (Nat × Operand)} {zs cs : List Value} [hT : TPl P t pl] [hZ : TZL P t zs] (hf : FillR F pl ps zs cs) :
    OpP P n W0 ⟨dst, .build t ps.toArray, ty, pos, aft, g⟩ F H L (.agg cs.toArray) := .mk fun a w hF hS => by
  obtain ⟨fs, hu, hm⟩ := hT.ex
  obtain ⟨z, hz1, hz⟩ := hZ.ex
  have := hf.run hF
  have hm' := hm w
  simp only [execOp]
  simp [Instr.build, hz1, run_underlying hu, hz]
  simp at hm'
  rw [hm']
  simp
  rw [this]
  rfl
end
end Go.Sx
