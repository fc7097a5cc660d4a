/- Typed readings of memory; slices that are made and appended to. No program in sight. -/
import Derived.Test.YtjkiioicjmaeoaaKSx6
set_option linter.unusedVariables false
set_option linter.unusedSimpArgs false
namespace Go.Sx
open Go Go.X
section
variable {P : Program} {n : NF} {W0 : GW} {F : Slots} {H : Heap} {L : List HProp} {Q : Exit → Act → GW → Prop} {c : Operand} {x y : Code} {p : Prop} [Decidable p]
end
section
variable {P : Program} {n : NF} {W0 : GW} {F : Slots} {H H0 : Heap} {L R : List HProp}
end
theorem HRow.drop {H : Heap} {b off k : Nat} {cs : List Value} (h : HRow H b off cs) : HRow H b (off + k) (cs.drop k) := fun j v hj => by
  rw [List.getElem?_drop] at hj; rw [Nat.add_assoc]; exact h _ v hj
theorem HRow.take {H : Heap} {b off k : Nat} {cs : List Value} (h : HRow H b off cs) : HRow H b off (cs.take k) := fun j v hj => by
  rw [List.getElem?_take] at hj; split at hj
  · exact h _ v hj
  · cases hj
theorem HRow.app {H : Heap} {b off : Nat} {cs ds : List Value} (h : HRow H b off (cs ++ ds)) : HRow H b off cs ∧ HRow H b (off + cs.length) ds :=
  ⟨fun j v hj => h j v (by rw [List.getElem?_append_left (List.getElem?_eq_some_iff.1 hj).1]; exact hj),
   fun j v hj => by rw [Nat.add_assoc]; exact h _ v (by rw [List.getElem?_append_right (by omega)]; simpa using hj)⟩
abbrev Rd (α : Type) := Heap → List Value → α → Prop
class RdOk {α : Type} (R : Rd α) (sz : outParam Nat) : Prop where
  len : ∀ {H c x}, R H c x → c.length = sz
  one : ∀ {H c x}, R H c x → c.all (·.oneCell') = true
  mono : ∀ {H H' c x}, Heap.le H H' → R H c x → R H' c x
def rInt : Rd Int := fun _ c x => c = [.int .i64 x] ∧ fits x
def cap47 : Nat := 140737488355328
def rStr : Rd ByteArray := fun _ c x => c = [.string x] ∧ x.size ≤ cap47
def rBool : Rd Bool := fun _ c x => c = [.bool x]
def RL {α : Type} (R : Rd α) (H : Heap) : List Value → List α → Prop
  | cs, [] => cs = []
  | cs, x :: xs => ∃ c r, cs = c ++ r ∧ R H c x ∧ RL R H r xs
section
variable {α : Type} {R : Rd α} {sz : Nat} {H H' : Heap}
theorem RL.mono [hR : RdOk R sz] (hl : H.le H') : ∀ {cs : List Value} {xs : List α}, RL R H cs xs → RL R H' cs xs
  | _, [], h => h
  | _, _ :: _, ⟨c, r, e, h1, h2⟩ => ⟨c, r, e, hR.mono hl h1, RL.mono hl h2⟩
theorem RL.len [hR : RdOk R sz] : ∀ {cs : List Value} {xs : List α}, RL R H cs xs → cs.length = xs.length * sz
  | _, [], h => by rw [show _ = [] from h]; simp
  | _, _ :: xs, ⟨c, r, e, h1, h2⟩ => by rw [e, List.length_append, hR.len h1, RL.len h2, List.length_cons, Nat.add_mul]; omega
theorem RL.one [hR : RdOk R sz] : ∀ {cs : List Value} {xs : List α}, RL R H cs xs → cs.all (·.oneCell') = true
  | _, [], h => by rw [show _ = [] from h]; rfl
  | _, _ :: xs, ⟨c, r, e, h1, h2⟩ => by rw [e, List.all_append, hR.one h1, RL.one h2]; rfl
theorem RL.app : ∀ {cs ds : List Value} {xs ys : List α}, RL R H cs xs → RL R H ds ys → RL R H (cs ++ ds) (xs ++ ys)
  | _, _, [], _, h, h' => by rw [show _ = [] from h]; exact h'
  | _, _, _ :: _, _, ⟨c, r, e, h1, h2⟩, h' => ⟨c, r ++ _, by rw [e, List.append_assoc], h1, RL.app h2 h'⟩
theorem RL.nil : RL R H [] [] := rfl
theorem RL.single {c : List Value} {x : α} (h : R H c x) : RL R H c [x] := ⟨c, [], by simp, h, rfl⟩
theorem RL.snoc {cs c : List Value} {xs : List α} {x : α} (h : RL R H cs xs) (h' : R H c x) : RL R H (cs ++ c) (xs ++ [x]) := h.app (RL.single h')
theorem RL.split [hR : RdOk R sz] : ∀ {k : Nat} {cs : List Value} {xs : List α}, RL R H cs xs → k ≤ xs.length → RL R H (cs.take (k * sz)) (xs.take k) ∧ RL R H (cs.drop (k * sz)) (xs.drop k)
  | 0, cs, xs, h, _ => by simp [RL, h]
  | k + 1, _, [], _, hk => by simp at hk
  | k + 1, cs, x :: xs, ⟨c, r, e, h1, h2⟩, hk => by
    have hl := hR.len h1
    obtain ⟨i1, i2⟩ := RL.split h2 (k := k) (by simpa using hk)
    have e1 : (k + 1) * sz = c.length + k * sz := by rw [Nat.add_mul, hl]; omega
    rw [e, e1, List.take_length_add_append, List.drop_length_add_append]
    exact ⟨⟨c, _, rfl, h1, i1⟩, i2⟩
theorem RL.take [RdOk R sz] {k : Nat} {cs : List Value} {xs : List α} (h : RL R H cs xs) (hk : k ≤ xs.length) : RL R H (cs.take (k * sz)) (xs.take k) := (h.split hk).1
theorem RL.drop [RdOk R sz] {k : Nat} {cs : List Value} {xs : List α} (h : RL R H cs xs) (hk : k ≤ xs.length) : RL R H (cs.drop (k * sz)) (xs.drop k) := (h.split hk).2
theorem RL.get [hR : RdOk R sz] {k : Nat} {cs : List Value} {xs : List α} (h : RL R H cs xs) (hk : k < xs.length) : ∃ c r, cs.drop (k * sz) = c ++ r ∧ R H c xs[k] := by
  have := h.drop (Nat.le_of_lt hk)
  rw [List.drop_eq_getElem_cons hk] at this
  obtain ⟨c, r, e, h1, _⟩ := this
  exact ⟨c, r, e, h1⟩
end
def SlR {α : Type} (R : Rd α) (sz : Nat) (H : Heap) (v : Value) (xs : List α) : Prop := ∃ cs, SlcR H sz v xs.length cs ∧ RL R H cs xs
section
variable {α : Type} {R : Rd α} {sz : Nat} {H H' : Heap} {v : Value} {xs : List α}
theorem SlR.mono [RdOk R sz] (hl : H.le H') (h : SlR R sz H v xs) : SlR R sz H' v xs := by obtain ⟨cs, a, b⟩ := h; exact ⟨cs, a.mono hl, b.mono hl⟩
theorem SlR.shape (h : SlR R sz H v xs) : ∃ base cap, v = .slice base xs.length cap ∧ xs.length ≤ cap ∧ cap ≤ 9223372036854775807 := by obtain ⟨cs, a, _⟩ := h; exact a.shape
theorem SlR.get [hR : RdOk R sz] {base : Option Addr} {m cap k : Nat} (h : SlR R sz H (.slice base m cap) xs) (hk : k < xs.length) :
    ∃ b off c, base = some ⟨b, off, none⟩ ∧ m = xs.length ∧ HRow H b (off + k * sz) c ∧ R H c xs[k] := by
  obtain ⟨cs, a, hr⟩ := h
  obtain ⟨b, off, cap', e, _, _, hrow⟩ := a.cases (by omega)
  cases e
  obtain ⟨c, r, e, h1⟩ := hr.get hk
  refine ⟨b, off, c, rfl, rfl, ?_, h1⟩
  have := hrow.drop (k := k * sz)
  rw [e] at this
  exact this.app.1
theorem SlR.nil (H : Heap) (R : Rd α) (sz : Nat) (base : Option Addr) (cap : Nat) (hc : cap ≤ 9223372036854775807) : SlR R sz H (.slice base 0 cap) ([] : List α) := ⟨[], SlcR.nil H sz base cap hc, rfl⟩
end
def own (T : TypeId) (sz : Nat) (s : Value) (m : Nat) (xs : List Value) : HProp := fun h =>
  xs.length = m * sz ∧ ((m = 0 ∧ ∃ base, s = .slice base 0 0) ∨
    ∃ b cap sp, s = .slice (some ⟨b, 0, none⟩) m cap ∧ 0 < cap ∧ m ≤ cap ∧ cap ≤ maxLen ∧ (xs ++ sp).length = cap * sz ∧ h b = some (.cells (xs ++ sp).toArray T (0, 0)))
inductive ASrc (P : Program) (sz : Nat) (H : Heap) (L : List HProp) : TypeId → Value → Nat → List Value → Prop
  | nil {t e : TypeId} {base : Option Addr} {c : Nat} : P.underlying t = some (.slice e) → ASrc P sz H L t (.slice base 0 c) 0 []
  | ro {t e : TypeId} {v : Value} {m : Nat} {cs : List Value} : P.underlying t = some (.slice e) → SlcR H sz v m cs → ASrc P sz H L t v m cs
  | row {t e : TypeId} {b m c : Nat} {T : TypeId} {cs sp : List Value} {R : List HProp} : P.underlying t = some (.slice e) → Has L (row b T (cs ++ sp)) R → cs.length = m * sz → cs.all (·.oneCell') = true → ASrc P sz H L t (.slice (some ⟨b, 0, none⟩) m c) m cs
  | str {t : TypeId} {s : ByteArray} : sz = 1 → P.underlying t = some .string → ASrc P sz H L t (.string s) s.size (byteCells s)
theorem ASrc.src {P : Program} {sz : Nat} {H : Heap} {L : List HProp} {t : TypeId} {v : Value} {m : Nat} {cs : List Value} (h : ASrc P sz H L t v m cs) {W0 w : World} (hS : St W0 H w L) : Src P sz t v m cs w := by
  cases h with
  | @nil e base c hk =>
    cases base with
    | none => exact Src.ofNil w hk c
    | some a => exact Src.ofSlice w hk a 0 c [] (by simp) (by simp) (by simp)
  | ro hk hr =>
    obtain ⟨base, cap, rfl, _, hl, h1, he⟩ := hr
    rcases he with rfl | ⟨b, off, rfl, hrow⟩
    · have : cs = [] := List.eq_nil_of_length_eq_zero (by simpa using hl)
      subst this
      cases base with
      | none => exact Src.ofNil w hk cap
      | some a => exact Src.ofSlice w hk a 0 cap [] (by simp) (by simp) (by simp)
    · exact Src.ofSlice w hk _ m cap cs hl (fun j u hj => by rw [Addr.add_lit]; exact hS.hcell (hrow j u hj)) (by simpa using h1)
  | @row e b m c T cs sp R hk hh hl h1 =>
    refine Src.ofSlice w hk _ m c cs hl (fun j u hj => ?_) (by simpa using h1)
    rw [Addr.add_lit, (hS.sub hh.to).rowCell, Nat.zero_add, List.getElem?_append_left (List.getElem?_eq_some_iff.1 hj).1]; exact hj
  | str hz hk => subst hz; exact Src.ofString w hk _
section
variable {P : Program} {n : NF} {W0 : GW} {F : Slots} {H : Heap} {L : List HProp} {K : Value → Heap → List HProp → Prop} {dst : Option Tmp} {ty : TypeId} {pos : String} {aft : Array Edge} {g : Option (Nat × Bool)}
theorem zeroCells_len (z : Array Value) (n : Nat) : (Builtin.zeroCells z n).size = n * z.size := by simp [Builtin.zeroCells]
theorem run_append_mine {W0 w : World} {R : List HProp} {t tx e : TypeId} {sz by_ : Nat} {z : Value} [hT : TSl P t e] [hI : TIn P e sz by_ z] {s x : Value} {m k : Nat} {xs news : List Value}
    (hS : St W0 H w (own e sz s m xs :: R)) (hsrc : Src P sz tx x k news w) (hb1 : m + k ≤ maxLen) (hb2 : (m + k) * by_ ≤ 140737488355328) :
    ∃ base cap w', (Builtin.append_ #[t, tx] ty #[s, x]).run P w = .ok (.slice base (m + k) cap) w' ∧ St W0 H w' (own e sz (.slice base (m + k) cap) (m + k) (xs ++ news) :: R) := by
  obtain ⟨i, hi, hsz, hby, hz, hzs, hpos⟩ := hI.ex
  subst hsz; subst hby
  have hsmall : ((m + k : Nat) : Int) ≤ 9223372036854775807 := by simp only [maxLen] at hb1; omega
  have hnl := hsrc.newsLen
  have hml : maxLen = 9223372036854775807 := rfl
  obtain ⟨hA, hR, a, r, d, dA, dR, lA, lR⟩ := hS.parts
  obtain ⟨hxl, hcase⟩ := a
  have grow : ∀ (base : Option Addr) (cap : Nat), s = .slice base m cap → cap < m + k → (Builtin.firstCells i.size m (.slice base m cap)).run P w.drew = .ok xs.toArray w.drew →
      ∃ base' cap' w', (Builtin.append_ #[t, tx] ty #[s, x]).run P w = .ok (.slice base' (m + k) cap') w' ∧ St W0 H w' (own e i.size (.slice base' (m + k) cap') (m + k) (xs ++ news) :: R) := by
    intro base cap hs hlt hold
    have hr := run_append_grow_src (P := P) (ty := ty) w t tx e i z hT.und hi hz base m cap xs hold x k news hsrc hlt hsmall (growslice_fits hlt hb2)
    refine ⟨_, _, _, by rw [hs]; exact hr, ?_⟩
    have hge := grownCap_ge w (m + k) cap e
    have hcm : grownCap w (m + k) cap e ≤ maxLen := grownCap_le_maxLen w (m + k) cap e hb1
    have hS2 : St W0 H w R := hS.sub (Sub.drop (Sub.refl _))
    have hS3 : St W0 H w.drew R := hS2.keep (hS2.env.of rfl rfl rfl) rfl
    have h4 := hS3.alloc (w' := w.drew.alloc (.cells ((xs ++ news).toArray ++ Builtin.zeroCells z.cells (grownCap w (m + k) cap e - (m + k))) e)) (hS3.env.of rfl rfl rfl) rfl
    refine h4.sub fun h hh => ?_
    obtain ⟨h1, h2, p, q, dd, l1, l2⟩ := hh
    refine ⟨h1, h2, ⟨by rw [List.length_append, hxl, hnl, Nat.add_mul], .inr ⟨w.heap.size, _, (Builtin.zeroCells z.cells (grownCap w (m + k) cap e - (m + k))).toList, rfl, by omega, hge, hcm, ?_, ?_⟩⟩, q, dd, l1, l2⟩
    · simp only [List.length_append, Array.length_toList, zeroCells_len, hzs, hxl, hnl]
      rw [← Nat.add_mul, ← Nat.add_mul]; congr 1; omega
    · have : h1 w.heap.size = some (.cells ((xs ++ news).toArray ++ Builtin.zeroCells z.cells (grownCap w (m + k) cap e - (m + k))) e (0, 0)) := p
      rw [this]; congr 2; apply Array.ext'; simp
  rcases hcase with ⟨rfl, base, rfl⟩ | ⟨b, cap, sp, rfl, hc0, hmc, hcm, hcl, hb⟩
  · have hx0 : xs = [] := List.eq_nil_of_length_eq_zero (by simpa using hxl)
    subst hx0
    by_cases hk : k = 0
    · subst hk
      have hn0 : news = [] := List.eq_nil_of_length_eq_zero (by simpa using hnl)
      subst hn0
      refine ⟨base, 0, w, ?_, hS⟩
      have hlen := hsrc.len
      have hcells := hsrc.cells
      rcases hsrc.kind with ⟨e', hk'⟩ | hk' <;> cases base <;> simp [Builtin.append_, run_underlying hT.und, run_underlying hk', sizeOf, typeInfo, hi, hlen, hcells, storeCells]
    · refine grow base 0 rfl (by omega) ?_
      cases base with
      | none => simp [Builtin.firstCells]
      | some a => simp [Builtin.firstCells, loadCells, loadCellsFrom]
  · by_cases hroom : m + k ≤ cap
    · have hbw : w.heap[b]? = some (.cells (xs ++ sp).toArray e (0, 0)) := hp_some (lA b _ hb)
      have hfit : m * i.size + news.length ≤ (xs ++ sp).length := by rw [hnl, hcl, ← Nat.add_mul]; exact Nat.mul_le_mul_right _ hroom
      have hst := run_storeCells_at P b (m * i.size) e news 0 (xs ++ sp).toArray w hbw (by simpa using hfit) hsrc.one
      simp only [Nat.add_zero] at hst
      have hrun : (Builtin.append_ #[t, tx] ty #[.slice (some ⟨b, 0, none⟩) m cap, x]).run P w = .ok (.slice (some ⟨b, 0, none⟩) (m + k) cap) (w.setRow b ((xs ++ sp).toArray.toList.take (m * i.size) ++ news ++ (xs ++ sp).toArray.toList.drop (m * i.size + news.length)).toArray) := by
        have hlen := hsrc.len
        have hcells := hsrc.cells
        rcases hsrc.kind with ⟨e', hk'⟩ | hk' <;> simp [Builtin.append_, run_underlying hT.und, run_underlying hk', sizeOf, typeInfo, hi, hlen, hcells, hroom, Addr.add_lit] <;> simp at hst <;> rw [hst] <;> simp
      refine ⟨_, _, _, hrun, ?_⟩
      have e1 : (xs ++ sp).toArray.toList.take (m * i.size) ++ news ++ (xs ++ sp).toArray.toList.drop (m * i.size + news.length) = (xs ++ news) ++ sp.drop news.length := by
        rw [← hxl]
        simp [List.append_assoc]
      rw [e1]
      refine hS.step (hS.env.of rfl rfl rfl) fun hA' a' lA' => ?_
      obtain ⟨_, hc2⟩ := a'
      have hb' : hA' b = some (.cells (xs ++ sp).toArray e (0, 0)) := by
        rcases hc2 with ⟨rfl, base, h0⟩ | ⟨b2, cap2, sp2, h0, _, _, _, _, hb2'⟩
        · cases h0; omega
        · cases h0; rw [hb2']; have := hp_some (lA' _ _ hb2'); rw [hbw] at this; injection this with this; rw [this]
      refine ⟨fun x hx hn => hp_other rfl (setRow_other w b x _ (by rintro rfl; rw [hb'] at hn; cases hn)), one b (.cells ((xs ++ news) ++ sp.drop news.length).toArray e (0, 0)), ⟨by rw [List.length_append, hxl, hnl, Nat.add_mul], .inr ⟨b, cap, sp.drop news.length, rfl, hc0, hroom, hcm, ?_, by simp [one]⟩⟩, one_le (hp_here (w := w) rfl (lA b _ hb) (setRow_heap w b _ _ e _ hbw)), fun x hx => ?_⟩
      · simp only [List.length_append, List.length_drop] at hcl hfit ⊢; omega
      · left; simp only [one] at hx; split at hx
        · rename_i e0; subst e0; rw [hb']; simp
        · simp at hx
    · refine grow _ cap rfl (by omega) ?_
      have holds : ∀ j v, xs[j]? = some v → w.drew.cell? ((⟨b, 0, none⟩ : Addr).add j) = some v := fun j v hj => by
        have hbw : w.heap[b]? = some (.cells (xs ++ sp).toArray e (0, 0)) := hp_some (lA b _ hb)
        rw [Addr.add_lit]
        rw [World.cell?_drew]
        simp only [World.cell?, hbw, Nat.zero_add]
        have : (xs ++ sp)[j]? = some v := by rw [List.getElem?_append_left (List.getElem?_eq_some_iff.1 hj).1]; exact hj
        simp [this]
      exact run_firstCells_some (P := P) w.drew i.size m _ m cap xs hxl holds
end
end Go.Sx
