/- The operations on slices, in the walk. No program in sight. -/
import Derived.Test.YtjkiioicjmaeoaaQSx6
set_option linter.unusedVariables false
set_option linter.unusedSimpArgs false
namespace Go.Sx
open Go Go.X
section
variable {P : Program} {n : NF} {W0 : GW} {F : Slots} {H : Heap} {L : List HProp} {Q : Exit → Act → GW → Prop} {c : Operand} {x y : Code} {p : Prop} [Decidable p]
end
section
variable {P : Program} {n : NF} {W0 : GW} {F : Slots} {H H0 : Heap} {L R : List HProp}
end
theorem HRow.drop {H : Heap} {b off k : Nat} {cs : List Value} (h : HRow H b off cs) : HRow H b (off + k) (cs.drop k) := fun j v hj => by
  rw [List.getElem?_drop] at hj; rw [Nat.add_assoc]; exact h _ v hj
theorem HRow.take {H : Heap} {b off k : Nat} {cs : List Value} (h : HRow H b off cs) : HRow H b off (cs.take k) := fun j v hj => by
  rw [List.getElem?_take] at hj; split at hj
  · exact h _ v hj
  · cases hj
theorem HRow.app {H : Heap} {b off : Nat} {cs ds : List Value} (h : HRow H b off (cs ++ ds)) : HRow H b off cs ∧ HRow H b (off + cs.length) ds :=
  ⟨fun j v hj => h j v (by rw [List.getElem?_append_left (List.getElem?_eq_some_iff.1 hj).1]; exact hj),
   fun j v hj => by rw [Nat.add_assoc]; exact h _ v (by rw [List.getElem?_append_right (by omega)]; simpa using hj)⟩
abbrev Rd (α : Type) := Heap → List Value → α → Prop
class RdOk {α : Type} (R : Rd α) (sz : outParam Nat) : Prop where
  len : ∀ {H c x}, R H c x → c.length = sz
  one : ∀ {H c x}, R H c x → c.all (·.oneCell') = true
  mono : ∀ {H H' c x}, Heap.le H H' → R H c x → R H' c x
def rInt : Rd Int := fun _ c x => c = [.int .i64 x] ∧ fits x
def cap47 : Nat := 140737488355328
def rStr : Rd ByteArray := fun _ c x => c = [.string x] ∧ x.size ≤ cap47
def rBool : Rd Bool := fun _ c x => c = [.bool x]
instance : RdOk rInt 1 := ⟨fun ⟨h, _⟩ => by subst h; rfl, fun ⟨h, _⟩ => by subst h; rfl, fun _ h => h⟩
def RL {α : Type} (R : Rd α) (H : Heap) : List Value → List α → Prop
  | cs, [] => cs = []
  | cs, x :: xs => ∃ c r, cs = c ++ r ∧ R H c x ∧ RL R H r xs
section
variable {α : Type} {R : Rd α} {sz : Nat} {H H' : Heap}
theorem RL.mono [hR : RdOk R sz] (hl : H.le H') : ∀ {cs : List Value} {xs : List α}, RL R H cs xs → RL R H' cs xs
  | _, [], h => h
  | _, _ :: _, ⟨c, r, e, h1, h2⟩ => ⟨c, r, e, hR.mono hl h1, RL.mono hl h2⟩
theorem RL.len [hR : RdOk R sz] : ∀ {cs : List Value} {xs : List α}, RL R H cs xs → cs.length = xs.length * sz
  | _, [], h => by rw [show _ = [] from h]; simp
  | _, _ :: xs, ⟨c, r, e, h1, h2⟩ => by rw [e, List.length_append, hR.len h1, RL.len h2, List.length_cons, Nat.add_mul]; omega
theorem RL.one [hR : RdOk R sz] : ∀ {cs : List Value} {xs : List α}, RL R H cs xs → cs.all (·.oneCell') = true
  | _, [], h => by rw [show _ = [] from h]; rfl
  | _, _ :: xs, ⟨c, r, e, h1, h2⟩ => by rw [e, List.all_append, hR.one h1, RL.one h2]; rfl
theorem RL.app : ∀ {cs ds : List Value} {xs ys : List α}, RL R H cs xs → RL R H ds ys → RL R H (cs ++ ds) (xs ++ ys)
  | _, _, [], _, h, h' => by rw [show _ = [] from h]; exact h'
  | _, _, _ :: _, _, ⟨c, r, e, h1, h2⟩, h' => ⟨c, r ++ _, by rw [e, List.append_assoc], h1, RL.app h2 h'⟩
theorem RL.single {c : List Value} {x : α} (h : R H c x) : RL R H c [x] := ⟨c, [], by simp, h, rfl⟩
theorem RL.snoc {cs c : List Value} {xs : List α} {x : α} (h : RL R H cs xs) (h' : R H c x) : RL R H (cs ++ c) (xs ++ [x]) := h.app (RL.single h')
theorem RL.split [hR : RdOk R sz] : ∀ {k : Nat} {cs : List Value} {xs : List α}, RL R H cs xs → k ≤ xs.length → RL R H (cs.take (k * sz)) (xs.take k) ∧ RL R H (cs.drop (k * sz)) (xs.drop k)
  | 0, cs, xs, h, _ => by simp [RL, h]
  | k + 1, _, [], _, hk => by simp at hk
  | k + 1, cs, x :: xs, ⟨c, r, e, h1, h2⟩, hk => by
    have hl := hR.len h1
    obtain ⟨i1, i2⟩ := RL.split h2 (k := k) (by simpa using hk)
    have e1 : (k + 1) * sz = c.length + k * sz := by rw [Nat.add_mul, hl]; omega
    rw [e, e1, List.take_length_add_append, List.drop_length_add_append]
    exact ⟨⟨c, _, rfl, h1, i1⟩, i2⟩
theorem RL.take [RdOk R sz] {k : Nat} {cs : List Value} {xs : List α} (h : RL R H cs xs) (hk : k ≤ xs.length) : RL R H (cs.take (k * sz)) (xs.take k) := (h.split hk).1
theorem RL.drop [RdOk R sz] {k : Nat} {cs : List Value} {xs : List α} (h : RL R H cs xs) (hk : k ≤ xs.length) : RL R H (cs.drop (k * sz)) (xs.drop k) := (h.split hk).2
theorem RL.get [hR : RdOk R sz] {k : Nat} {cs : List Value} {xs : List α} (h : RL R H cs xs) (hk : k < xs.length) : ∃ c r, cs.drop (k * sz) = c ++ r ∧ R H c xs[k] := by
  have := h.drop (Nat.le_of_lt hk)
  rw [List.drop_eq_getElem_cons hk] at this
  obtain ⟨c, r, e, h1, _⟩ := this
  exact ⟨c, r, e, h1⟩
end
def SlR {α : Type} (R : Rd α) (sz : Nat) (H : Heap) (v : Value) (xs : List α) : Prop := ∃ cs, SlcR H sz v xs.length cs ∧ RL R H cs xs
section
variable {α : Type} {R : Rd α} {sz : Nat} {H H' : Heap} {v : Value} {xs : List α}
theorem SlR.mono [RdOk R sz] (hl : H.le H') (h : SlR R sz H v xs) : SlR R sz H' v xs := by obtain ⟨cs, a, b⟩ := h; exact ⟨cs, a.mono hl, b.mono hl⟩
theorem SlR.shape (h : SlR R sz H v xs) : ∃ base cap, v = .slice base xs.length cap ∧ xs.length ≤ cap ∧ cap ≤ 9223372036854775807 := by obtain ⟨cs, a, _⟩ := h; exact a.shape
theorem SlR.get [hR : RdOk R sz] {base : Option Addr} {m cap k : Nat} (h : SlR R sz H (.slice base m cap) xs) (hk : k < xs.length) :
    ∃ b off c, base = some ⟨b, off, none⟩ ∧ m = xs.length ∧ HRow H b (off + k * sz) c ∧ R H c xs[k] := by
  obtain ⟨cs, a, hr⟩ := h
  obtain ⟨b, off, cap', e, _, _, hrow⟩ := a.cases (by omega)
  cases e
  obtain ⟨c, r, e, h1⟩ := hr.get hk
  refine ⟨b, off, c, rfl, rfl, ?_, h1⟩
  have := hrow.drop (k := k * sz)
  rw [e] at this
  exact this.app.1
theorem SlR.nil (H : Heap) (R : Rd α) (sz : Nat) (base : Option Addr) (cap : Nat) (hc : cap ≤ 9223372036854775807) : SlR R sz H (.slice base 0 cap) ([] : List α) := ⟨[], SlcR.nil H sz base cap hc, rfl⟩
end
def own (T : TypeId) (sz : Nat) (s : Value) (m : Nat) (xs : List Value) : HProp := fun h =>
  xs.length = m * sz ∧ ((m = 0 ∧ ∃ base, s = .slice base 0 0) ∨
    ∃ b cap sp, s = .slice (some ⟨b, 0, none⟩) m cap ∧ 0 < cap ∧ m ≤ cap ∧ cap ≤ maxLen ∧ (xs ++ sp).length = cap * sz ∧ h b = some (.cells (xs ++ sp).toArray T (0, 0)))
inductive ASrc (P : Program) (sz : Nat) (H : Heap) (L : List HProp) : TypeId → Value → Nat → List Value → Prop
  | nil {t e : TypeId} {base : Option Addr} {c : Nat} : P.underlying t = some (.slice e) → ASrc P sz H L t (.slice base 0 c) 0 []
  | ro {t e : TypeId} {v : Value} {m : Nat} {cs : List Value} : P.underlying t = some (.slice e) → SlcR H sz v m cs → ASrc P sz H L t v m cs
  | row {t e : TypeId} {b m c : Nat} {T : TypeId} {cs sp : List Value} {R : List HProp} : P.underlying t = some (.slice e) → Has L (row b T (cs ++ sp)) R → cs.length = m * sz → cs.all (·.oneCell') = true → ASrc P sz H L t (.slice (some ⟨b, 0, none⟩) m c) m cs
  | str {t : TypeId} {s : ByteArray} : sz = 1 → P.underlying t = some .string → ASrc P sz H L t (.string s) s.size (byteCells s)
theorem ASrc.src {P : Program} {sz : Nat} {H : Heap} {L : List HProp} {t : TypeId} {v : Value} {m : Nat} {cs : List Value} (h : ASrc P sz H L t v m cs) {W0 w : World} (hS : St W0 H w L) : Src P sz t v m cs w := by
  cases h with
  | @nil e base c hk =>
    cases base with
    | none => exact Src.ofNil w hk c
    | some a => exact Src.ofSlice w hk a 0 c [] (by simp) (by simp) (by simp)
  | ro hk hr =>
    obtain ⟨base, cap, rfl, _, hl, h1, he⟩ := hr
    rcases he with rfl | ⟨b, off, rfl, hrow⟩
    · have : cs = [] := List.eq_nil_of_length_eq_zero (by simpa using hl)
      subst this
      cases base with
      | none => exact Src.ofNil w hk cap
      | some a => exact Src.ofSlice w hk a 0 cap [] (by simp) (by simp) (by simp)
    · exact Src.ofSlice w hk _ m cap cs hl (fun j u hj => by rw [Addr.add_lit]; exact hS.hcell (hrow j u hj)) (by simpa using h1)
  | @row e b m c T cs sp R hk hh hl h1 =>
    refine Src.ofSlice w hk _ m c cs hl (fun j u hj => ?_) (by simpa using h1)
    rw [Addr.add_lit, (hS.sub hh.to).rowCell, Nat.zero_add, List.getElem?_append_left (List.getElem?_eq_some_iff.1 hj).1]; exact hj
  | str hz hk => subst hz; exact Src.ofString w hk _
section
variable {P : Program} {n : NF} {W0 : GW} {F : Slots} {H : Heap} {L : List HProp} {K : Value → Heap → List HProp → Prop} {dst : Option Tmp} {ty : TypeId} {pos : String} {aft : Array Edge} {g : Option (Nat × Bool)}
theorem zeroCells_len (z : Array Value) (n : Nat) : (Builtin.zeroCells z n).size = n * z.size := by simp [Builtin.zeroCells]
theorem run_append_mine {W0 w : World} {R : List HProp} {t tx e : TypeId} {sz by_ : Nat} {z : Value} [hT : TSl P t e] [hI : TIn P e sz by_ z] {s x : Value} {m k : Nat} {xs news : List Value}
    (hS : St W0 H w (own e sz s m xs :: R)) (hsrc : Src P sz tx x k news w) (hb1 : m + k ≤ maxLen) (hb2 : (m + k) * by_ ≤ 140737488355328) :
    ∃ base cap w', (Builtin.append_ #[t, tx] ty #[s, x]).run P w = .ok (.slice base (m + k) cap) w' ∧ St W0 H w' (own e sz (.slice base (m + k) cap) (m + k) (xs ++ news) :: R) := by
  obtain ⟨i, hi, hsz, hby, hz, hzs, hpos⟩ := hI.ex
  subst hsz; subst hby
  have hsmall : ((m + k : Nat) : Int) ≤ 9223372036854775807 := by simp only [maxLen] at hb1; omega
  have hnl := hsrc.newsLen
  have hml : maxLen = 9223372036854775807 := rfl
  obtain ⟨hA, hR, a, r, d, dA, dR, lA, lR⟩ := hS.parts
  obtain ⟨hxl, hcase⟩ := a
  have grow : ∀ (base : Option Addr) (cap : Nat), s = .slice base m cap → cap < m + k → (Builtin.firstCells i.size m (.slice base m cap)).run P w.drew = .ok xs.toArray w.drew →
      ∃ base' cap' w', (Builtin.append_ #[t, tx] ty #[s, x]).run P w = .ok (.slice base' (m + k) cap') w' ∧ St W0 H w' (own e i.size (.slice base' (m + k) cap') (m + k) (xs ++ news) :: R) := by
    intro base cap hs hlt hold
    have hr := run_append_grow_src (P := P) (ty := ty) w t tx e i z hT.und hi hz base m cap xs hold x k news hsrc hlt hsmall (growslice_fits hlt hb2)
    refine ⟨_, _, _, by rw [hs]; exact hr, ?_⟩
    have hge := grownCap_ge w (m + k) cap e
    have hcm : grownCap w (m + k) cap e ≤ maxLen := grownCap_le_maxLen w (m + k) cap e hb1
    have hS2 : St W0 H w R := hS.sub (Sub.drop (Sub.refl _))
    have hS3 : St W0 H w.drew R := hS2.keep (hS2.env.of rfl rfl rfl) rfl
    have h4 := hS3.alloc (w' := w.drew.alloc (.cells ((xs ++ news).toArray ++ Builtin.zeroCells z.cells (grownCap w (m + k) cap e - (m + k))) e)) (hS3.env.of rfl rfl rfl) rfl
    refine h4.sub fun h hh => ?_
    obtain ⟨h1, h2, p, q, dd, l1, l2⟩ := hh
    refine ⟨h1, h2, ⟨by rw [List.length_append, hxl, hnl, Nat.add_mul], .inr ⟨w.heap.size, _, (Builtin.zeroCells z.cells (grownCap w (m + k) cap e - (m + k))).toList, rfl, by omega, hge, hcm, ?_, ?_⟩⟩, q, dd, l1, l2⟩
    · simp only [List.length_append, Array.length_toList, zeroCells_len, hzs, hxl, hnl]
      rw [← Nat.add_mul, ← Nat.add_mul]; congr 1; omega
    · have : h1 w.heap.size = some (.cells ((xs ++ news).toArray ++ Builtin.zeroCells z.cells (grownCap w (m + k) cap e - (m + k))) e (0, 0)) := p
      rw [this]; congr 2; apply Array.ext'; simp
  rcases hcase with ⟨rfl, base, rfl⟩ | ⟨b, cap, sp, rfl, hc0, hmc, hcm, hcl, hb⟩
  · have hx0 : xs = [] := List.eq_nil_of_length_eq_zero (by simpa using hxl)
    subst hx0
    by_cases hk : k = 0
    · subst hk
      have hn0 : news = [] := List.eq_nil_of_length_eq_zero (by simpa using hnl)
      subst hn0
      refine ⟨base, 0, w, ?_, hS⟩
      have hlen := hsrc.len
      have hcells := hsrc.cells
      rcases hsrc.kind with ⟨e', hk'⟩ | hk' <;> cases base <;> simp [Builtin.append_, run_underlying hT.und, run_underlying hk', sizeOf, typeInfo, hi, hlen, hcells, storeCells]
    · refine grow base 0 rfl (by omega) ?_
      cases base with
      | none => simp [Builtin.firstCells]
      | some a => simp [Builtin.firstCells, loadCells, loadCellsFrom]
  · by_cases hroom : m + k ≤ cap
    · have hbw : w.heap[b]? = some (.cells (xs ++ sp).toArray e (0, 0)) := hp_some (lA b _ hb)
      have hfit : m * i.size + news.length ≤ (xs ++ sp).length := by rw [hnl, hcl, ← Nat.add_mul]; exact Nat.mul_le_mul_right _ hroom
      have hst := run_storeCells_at P b (m * i.size) e news 0 (xs ++ sp).toArray w hbw (by simpa using hfit) hsrc.one
      simp only [Nat.add_zero] at hst
      have hrun : (Builtin.append_ #[t, tx] ty #[.slice (some ⟨b, 0, none⟩) m cap, x]).run P w = .ok (.slice (some ⟨b, 0, none⟩) (m + k) cap) (w.setRow b ((xs ++ sp).toArray.toList.take (m * i.size) ++ news ++ (xs ++ sp).toArray.toList.drop (m * i.size + news.length)).toArray) := by
        have hlen := hsrc.len
        have hcells := hsrc.cells
        rcases hsrc.kind with ⟨e', hk'⟩ | hk' <;> simp [Builtin.append_, run_underlying hT.und, run_underlying hk', sizeOf, typeInfo, hi, hlen, hcells, hroom, Addr.add_lit] <;> simp at hst <;> rw [hst] <;> simp
      refine ⟨_, _, _, hrun, ?_⟩
      have e1 : (xs ++ sp).toArray.toList.take (m * i.size) ++ news ++ (xs ++ sp).toArray.toList.drop (m * i.size + news.length) = (xs ++ news) ++ sp.drop news.length := by
        rw [← hxl]
        simp [List.append_assoc]
      rw [e1]
      refine hS.step (hS.env.of rfl rfl rfl) fun hA' a' lA' => ?_
      obtain ⟨_, hc2⟩ := a'
      have hb' : hA' b = some (.cells (xs ++ sp).toArray e (0, 0)) := by
        rcases hc2 with ⟨rfl, base, h0⟩ | ⟨b2, cap2, sp2, h0, _, _, _, _, hb2'⟩
        · cases h0; omega
        · cases h0; rw [hb2']; have := hp_some (lA' _ _ hb2'); rw [hbw] at this; injection this with this; rw [this]
      refine ⟨fun x hx hn => hp_other rfl (setRow_other w b x _ (by rintro rfl; rw [hb'] at hn; cases hn)), one b (.cells ((xs ++ news) ++ sp.drop news.length).toArray e (0, 0)), ⟨by rw [List.length_append, hxl, hnl, Nat.add_mul], .inr ⟨b, cap, sp.drop news.length, rfl, hc0, hroom, hcm, ?_, by simp [one]⟩⟩, one_le (hp_here (w := w) rfl (lA b _ hb) (setRow_heap w b _ _ e _ hbw)), fun x hx => ?_⟩
      · simp only [List.length_append, List.length_drop] at hcl hfit ⊢; omega
      · left; simp only [one] at hx; split at hx
        · rename_i e0; subst e0; rw [hb']; simp
        · simp at hx
    · refine grow _ cap rfl (by omega) ?_
      have holds : ∀ j v, xs[j]? = some v → w.drew.cell? ((⟨b, 0, none⟩ : Addr).add j) = some v := fun j v hj => by
        have hbw : w.heap[b]? = some (.cells (xs ++ sp).toArray e (0, 0)) := hp_some (lA b _ hb)
        rw [Addr.add_lit]
        rw [World.cell?_drew]
        simp only [World.cell?, hbw, Nat.zero_add]
        have : (xs ++ sp)[j]? = some v := by rw [List.getElem?_append_left (List.getElem?_eq_some_iff.1 hj).1]; exact hj
        simp [this]
      exact run_firstCells_some (P := P) w.drew i.size m _ m cap xs hxl holds
end
end Go.Sx
namespace Go.Sx
open Go Go.X
class TBo (P : Program) (t : TypeId) : Prop where
  und : P.underlying t = some .bool
theorem sub_pick {L M L' : List HProp} {A : HProp} (h : Has L A M) (hs : Sub M L') : Sub L (A :: L') := h.to.trans (Sub.cons hs)
section
variable {P : Program} {n : NF} {W0 : GW} {F : Slots} {H : Heap} {L : List HProp} {K : Value → Heap → List HProp → Prop} {dst : Option Tmp} {ty : TypeId} {pos : String} {aft : Array Edge} {g : Option (Nat × Bool)}
theorem op_append {t tx e : TypeId} {sz by_ : Nat} {z : Value} [hT : TSl P t e] [hI : TIn P e sz by_ z] {s x : Operand} {sv xv : Value} {m k : Nat} {xs news : List Value} {R : List HProp}
    (hs : opv F s = some sv) (hx : opv F x = some xv) (hh : Has L (own e sz sv m xs) R) (hsrc : ASrc P sz H L tx xv k news) (hb1 : m + k ≤ maxLen) (hb2 : (m + k) * by_ ≤ 140737488355328)
    (hk : ∀ base cap, K (.slice base (m + k) cap) H (own e sz (.slice base (m + k) cap) (m + k) (xs ++ news) :: R)) :
    OpW P n W0 ⟨dst, .call ⟨.builtin .append, #[s, x], #[t, tx]⟩, ty, pos, aft, g⟩ F H L K :=
  .of_run fun a w hF hS => by
    obtain ⟨base, cap, w', hr, hS'⟩ := run_append_mine (P := P) (ty := ty) (t := t) (tx := tx) (hS.sub hh.to) (hsrc.src hS) hb1 hb2
    refine ⟨_, H, _, w', ?_, .refl _, hk base cap, hS'⟩
    simp only [execOp, resolve]
    simp [invoke, builtin, hF.opv hs, hF.opv hx, hr]
theorem op_buildSlice1 {t e : TypeId} {sz : Nat} {z v : Value} {cs : List Value} {x : Operand} [hT : TSl P t e] [hS' : TSz P e sz] [hZ : TZ P e z] (hx : opv F x = some v) (hc : v.cells = cs.toArray) (hl : cs.length = sz) (hz : z.cells.size = sz)
    (h0 : Nat.blt 0 sz && Nat.ble sz 1000 = true) (hk : ∀ b, H b = none → K (.slice (some ⟨b, 0, none⟩) 1 1) H (row b e cs :: L)) : OpW P n W0 ⟨dst, .buildSlice t 1 #[(0, x)], ty, pos, aft, g⟩ F H L K :=
  .of_run fun a w hF hS => by
    have hs : St _ H (w.alloc (.cells cs.toArray e)) (row w.heap.size e cs :: L) := hS.alloc (hS.env.of rfl rfl rfl) rfl
    refine ⟨_, H, _, _, ?_, .refl _, hk _ hs.ptRead.2, hs⟩
    have h0 : 0 < sz ∧ sz ≤ 1000 := by simpa using h0
    have hne : sz ≠ 0 := by omega
    have hfold : ∀ (l : List Value) (i : Nat) (arr : List Value), i + l.length ≤ arr.length → (l.zipIdx i).foldl (fun (cs : Array Value) (c, j) => cs.setIfInBounds (0 + j) c) arr.toArray = (arr.take i ++ l ++ arr.drop (i + l.length)).toArray := by
      intro l
      induction l with
      | nil => intro i arr _; simp
      | cons c l ih =>
        intro i arr hl'
        simp only [List.zipIdx_cons, List.foldl_cons, Nat.zero_add, List.setIfInBounds_toArray]
        rw [show (fun (cs : Array Value) (x : Value × Nat) => cs.setIfInBounds x.2 x.1) = (fun (cs : Array Value) (x : Value × Nat) => match x with | (c, j) => cs.setIfInBounds (0 + j) c) from by funext cs x; simp]
        rw [ih (i + 1) _ (by simp at hl' ⊢; omega)]
        congr 1
        simp only [List.length_cons] at hl' ⊢
        rw [List.drop_set_of_lt (by omega)]
        have e1 : (arr.set i c).take (i + 1) = arr.take i ++ [c] := by
          rw [List.take_add_one, List.getElem?_set_self (by omega), List.take_set_of_le (by omega)]; simp
        rw [e1]; simp [Nat.add_assoc, Nat.add_comm 1]
    have hf := hfold cs 0 ((List.range (1 * sz)).map (fun i => z.cells[i % z.cells.size]!)) (by simp; omega)
    have hd : ((List.range (1 * sz)).map (fun i => z.cells[i % z.cells.size]!)).drop (0 + cs.length) = [] := List.drop_eq_nil_of_le (by simp; omega)
    rw [hd] at hf
    simp only [List.take_zero, List.nil_append, List.append_nil] at hf
    have hfill : Instr.fill (fun i => some (i * sz, sz)) ((Array.range (1 * sz)).map (fun i => z.cells[i % z.cells.size]!)) [(0, v)] = some cs.toArray := by
      simp only [Instr.fill, hc, Nat.zero_mul]
      rw [if_neg (by simp; omega)]
      have e2 : ((Array.range (1 * sz)).map (fun i => z.cells[i % z.cells.size]!)) = ((List.range (1 * sz)).map (fun i => z.cells[i % z.cells.size]!)).toArray := by
        apply Array.ext'; simp [Array.toList_range]
      rw [e2]
      simpa using hf
    simp only [execOp]
    simp [Instr.buildSlice, run_underlying hT.und, hS'.run, hne, hZ.run, hF.opv hx, newRow]
    rw [if_neg (by omega)]
    simp only [Nat.one_mul] at hfill
    simp [hfill]
theorem op_buildSlice0 {t e : TypeId} {sz : Nat} [hT : TSl P t e] [hS' : TSz P e sz] (hk : ∀ b, H b = none → K (.slice (some ⟨b, 0, none⟩) 0 0) H (row b e [] :: L)) : OpW P n W0 ⟨dst, .buildSlice t 0 #[], ty, pos, aft, g⟩ F H L K :=
  .of_run fun a w hF hS => by
    have hs : St _ H (w.alloc (.cells #[] e)) (row w.heap.size e [] :: L) := hS.alloc (hS.env.of rfl rfl rfl) rfl
    refine ⟨_, H, _, _, ?_, .refl _, hk _ hs.ptRead.2, hs⟩
    simp only [execOp]
    simp [Instr.buildSlice, run_underlying hT.und, hS'.run, newRow, Instr.fill, Array.range_zero']
def slc (base : Option Addr) (cap l h sz : Nat) : Value := .slice (if cap = l then base else base.map (·.add (l * sz))) (h - l) (cap - l)
def ob (F : Slots) (o : Option Operand) (d : Int) : Option Int := match o with | none => some d | some x => match opv F x with | some (.int _ i) => some i | _ => none
theorem op_slice {t e : TypeId} {sz : Nat} [hT : TSl P t e] [hs : TSz P e sz] {x : Operand} {lo hi : Option Operand} {base : Option Addr} {m cap : Nat} {l h : Int} (hx : opv F x = some (.slice base m cap)) (hlo : ob F lo 0 = some l) (hhi : ob F hi m = some h)
    (h0 : 0 ≤ l) (h1 : l ≤ h) (h2 : h ≤ cap) :
    OpP P n ⟨dst, .slice t x lo hi none, ty, pos, aft, g⟩ F H L (slc base cap l.toNat h.toNat sz) :=
  .mk fun a w hF hS => by
    have hb : (Instr.sliceBounds true m cap (lo.map a.eval) (hi.map a.eval) none).run P w = .ok (l.toNat, h.toNat, cap) w := by
      have hhi' : ∀ y, hi = some y → ∃ k, a.eval y = .int k h := fun y hy => by
        subst hy; simp only [ob] at hhi; split at hhi
        · rename_i k i hy'; cases hhi; exact ⟨k, hF.opv hy'⟩
        · cases hhi
      have hlo' : ∀ y, lo = some y → ∃ k, a.eval y = .int k l := fun y hy => by
        subst hy; simp only [ob] at hlo; split at hlo
        · rename_i k i hy'; cases hlo; exact ⟨k, hF.opv hy'⟩
        · cases hlo
      have e1 : ∀ (k : IntKind) (c : BoundsCode), (Instr.sliceBound (.int k h) cap c).run P w = .ok h.toNat w := fun k c => by
        simp [Instr.sliceBound, asIntOf, show 0 ≤ h by omega, h2]
      have e2 : ∀ (k : IntKind) (c : BoundsCode), (Instr.sliceBound (.int k l) h.toNat c).run P w = .ok l.toNat w := fun k c => by
        simp [Instr.sliceBound, asIntOf, h0]; omega
      cases hi with
      | none =>
        simp only [ob, Option.some.injEq] at hhi
        subst hhi
        cases lo with
        | none => simp only [ob, Option.some.injEq] at hlo; subst hlo; simp [Instr.sliceBounds]
        | some y => obtain ⟨k, hk⟩ := hlo' y rfl; have := e2 k .sliceB; simp at this; simp [Instr.sliceBounds, hk, this]
      | some y =>
        obtain ⟨k, hk⟩ := hhi' y rfl
        cases lo with
        | none => simp only [ob, Option.some.injEq] at hlo; subst hlo; simp [Instr.sliceBounds, hk, e1]
        | some y' => obtain ⟨k', hk'⟩ := hlo' y' rfl; simp [Instr.sliceBounds, hk, hk', e1, e2]
    simp only [execOp]
    simp [Instr.sliceAt, Instr.slice, run_underlying hT.und, hs.run, hF.opv hx, hb, slc]
theorem SlcR.slc {H : Heap} {base : Option Addr} {m cap l h sz : Nat} {cs : List Value} (hr : SlcR H sz (.slice base m cap) m cs) (h1 : l ≤ h) (h2 : h ≤ m) : SlcR H sz (Sx.slc base cap l h sz) (h - l) ((cs.drop (l * sz)).take ((h - l) * sz)) := by
  obtain ⟨base', cap', e, hc, hl, h1c, he⟩ := hr
  cases e
  have hmul : (h - l) * sz + l * sz ≤ m * sz := by rw [← Nat.add_mul]; exact Nat.mul_le_mul_right _ (by omega)
  refine ⟨_, _, rfl, by omega, by rw [List.length_take, List.length_drop, hl]; omega, ?_, ?_⟩
  · simp only [List.all_eq_true] at h1c ⊢
    exact fun u hu => h1c u (List.mem_of_mem_drop (List.mem_of_mem_take hu))
  · by_cases hz : h - l = 0
    · exact .inl hz
    · right
      rcases he with he | ⟨b, off, rfl, hrow⟩
      · omega
      · rw [if_neg (by omega)]
        exact ⟨b, off + l * sz, by simp [Addr.add_lit], hrow.drop.take⟩
theorem SlR.slc {α : Type} {R : Rd α} {sz : Nat} [RdOk R sz] {H : Heap} {base : Option Addr} {m cap l h : Nat} {xs : List α} (hr : SlR R sz H (.slice base m cap) xs) (h1 : l ≤ h) (h2 : h ≤ xs.length) :
    SlR R sz H (Sx.slc base cap l h sz) ((xs.drop l).take (h - l)) := by
  obtain ⟨cs, a, b⟩ := hr
  have hm : m = xs.length := by obtain ⟨_, _, e, _⟩ := a; cases e; rfl
  subst hm
  have hl : ((xs.drop l).take (h - l)).length = h - l := by simp; omega
  refine ⟨_, hl.symm ▸ a.slc h1 h2, (b.drop (by omega)).take (by simp; omega)⟩
end
theorem own_nil {e sz : Nat} {base : Option Addr} {L : List HProp} : Sub L (own e sz (.slice base 0 0) 0 [] :: L) := fun h hb =>
  ⟨Heap.empty, h, ⟨by simp, .inl ⟨rfl, base, rfl⟩⟩, hb, fun _ => .inl rfl, fun _ _ h => by simp [Heap.empty] at h, .refl _⟩
theorem sat_freeze_own {n : NF} {W0 : GW} {F : Slots} {H : Heap} {L R : List HProp} {G : Act → GW → Prop} {e sz m : Nat} {s : Value} {xs : List Value} (hh : Has L (own e sz s m xs) R) (h1 : xs.all (·.oneCell') = true)
    (h : ∀ H', H.le H' → SlcR H' sz s m xs → Sat n W0 F H' R G) : Sat n W0 F H L G := fun a w hF hS => by
  have hS' := hS.sub hh.to
  obtain ⟨hA, hR, ⟨hl, hc⟩, r, d, dA, dR, lA, lR⟩ := hS'.parts
  rcases hc with ⟨rfl, base, rfl⟩ | ⟨b, cap, sp, rfl, _, hmc, hcm, _, hb⟩
  · have : xs = [] := List.eq_nil_of_length_eq_zero (by simpa using hl)
    subst this
    exact h H (.refl _) (SlcR.nil H sz base 0 (by omega)) a w hF (hS.sub (hh.to.trans (Sub.drop (Sub.refl _))))
  · have hpt : StG W0 H w (pt b (.cells (xs ++ sp).toArray e (0, 0)) :: R) := StG.of_parts hS hS.ro (hA := hA) hb r d dA dR lA lR
    obtain ⟨hn, hS2⟩ := hpt.freeze
    refine h _ (le_upd hn) ⟨_, cap, rfl, ⟨hmc, hcm⟩, hl, h1, .inr ⟨b, 0, rfl, fun j u hj => ?_⟩⟩ a w hF hS2
    have : (xs ++ sp)[j]? = some u := by rw [List.getElem?_append_left (List.getElem?_eq_some_iff.1 hj).1]; exact hj
    simp [hcell, upd_same, this]
section
variable {q : Bool} {P : Program} {n : NF} {W0 : GW} {F : Slots} {H : Heap} {L : List HProp} {ops : Array Oper} {Q : Exit → Act → GW → Prop} {rest : List Oper} {ty : TypeId} {pos : String} {aft : Array Edge} {d : Tmp} {g : Option (Nat × Bool)}
  {x y : Operand} {k : IntKind} {a b : Int} {T T' : TypeId}
theorem op_eqlB {dst : Option Tmp} {s t : Bool} [hT : TBo P T] (hx : opv F x = some (.bool s)) (hy : opv F y = some (.bool t)) : OpP P n ⟨dst, .binOp .eql T x y T', ty, pos, aft, g⟩ F H L (.bool (s == t)) :=
  .mk (fun _ w hF _ => by simp only [execOp, hF.opv hx, hF.opv hy]; simp [eqGuard_at_bool, binOp, run_equal_bool w T s t hT.und]) fun a hF => calm_eqB hT.und (by simp) (hF.opv hx) (hF.opv hy)
end
end Go.Sx
