/- Proves NetKeepsSaid: for every input, NetKeeps returns true and the input reads behind the call as it read before. No condition. -/
import Derived.Test.YtlbpaokehdiinaaNet7
import Derived.Test.YtlbpaokehdiinaaRows
import Derived.ChangeSame
import Derived.JoinedOf
import Derived.JoinedAt
import Derived.RowKit
import Derived.Carry
import Derived.ChangeSlices
/- The frame: from the reading of the arguments to the walk, and back. -/
set_option linter.unusedVariables false
set_option linter.unusedSimpArgs false
namespace Go.Proofs.Ytlbpaokehdiinaa
open Go Go.Sx Go.Proofs Go.ChangeShapes Go.WideShapes Go.ChangeAt Go.RowKit
theorem st_below {W w' : World} {L : List HProp} (h : St W (hp W) w' L) : Below W.heap.size W w' := by
  refine ⟨h.env.os, h.env.tape, h.env.output, ?_, fun k hk => ?_⟩
  · refine Nat.le_of_not_lt fun hlt => ?_
    have : hp W w'.heap.size = some W.heap[w'.heap.size] := by simp [hp, hlt]
    exact absurd (hp_lt (h.ro _ _ this)) (by omega)
  · have e : hp W k = some W.heap[k] := by simp [hp, hk]
    exact (h.ro k _ e).trans e.symm
theorem st_start (W : World) : St W (hp W) W ([] ++ []) := ⟨⟨rfl, rfl, rfl⟩, .refl _, ⟨Heap.empty, trivial, fun _ _ h => (by cases h), fun _ => .inr rfl⟩⟩
section
variable {H : Type} {enc : TypeId × Value → H} {P : Program} {W W' : World}
def tysOk (P : Program) (ts : List TypeId) : Bool := ts.all fun t => P.readableRec t && decide (t < P.types.size)
theorem trodAll_below (hl : laidOutB P = true) (hB : Below W.heap.size W W') : ∀ {ts : List TypeId} {vs : List Value} {ds : List (DataW H)} {ps : List MemPlace}, tysOk P ts = true →
    DataW.TrodAll enc P W 0 (fun _ => true) true ts vs ds ps → (∀ x ∈ ps, x.block < W.heap.size) → DataW.TrodAll enc P W' 0 (fun b => decide (b < W.heap.size)) true ts vs ds ps
  | [], vs, ds, ps, _, h, _ => by
    obtain ⟨rfl, rfl, rfl⟩ := trodAll_nil h
    exact rfl
  | t :: ts, vs, ds, ps, ht, h, hlt => by
    obtain ⟨v, vs', d, ds', p, q, rfl, rfl, rfl, h1, h2⟩ := trodAll_cons h
    simp only [tysOk, List.all_cons, Bool.and_eq_true, decide_eq_true_eq] at ht
    exact ⟨p, q, Below.trod hl ht.1.1 ht.1.2 h1 hB (fun x hx => hlt x (List.mem_append_left _ hx)), trodAll_below hl hB (by simpa [tysOk] using ht.2) h2 (fun x hx => hlt x (List.mem_append_right _ hx)), rfl⟩
theorem post_law {f : Func} {s : ChangeSpec} {args : Array Value} {ds : List (DataW H)} {before : List MemPlace} {v : Value} (hl : laidOutB P = true) (hts : tysOk P f.params.toList = true) (hv : s.vars = [])
    (hW : DataW.Whole enc P f.params.toList s.vars false W args.toList ds [] before) (hB : Below W.heap.size W W')
    (hargs : (s.fn H (ds ++ [])).args = ds) (hvars : (s.fn H (ds ++ [])).vars = [])
    (hres : ∀ b sp hd, DataW.TrodAll enc P W' b sp hd f.resultTypes.toList (v.resultList f.resultTypes.size) (s.fn H (ds ++ [])).results []) :
    s.post enc P f false true false false W args v W' := by
  have hlt := hW.lt
  have hW2 := hW
  obtain ⟨p, q, hA, hV, rfl, _, _⟩ := hW2
  rw [hv] at hV
  obtain ⟨-, rfl⟩ := trodVars_none hV
  refine ⟨ds, [], _, [], p, [], hW, hres _ _ _, ?_, ?_, hB.frame _, fun h => by cases h⟩
  · rw [hargs]; exact trodAll_below hl hB hts hA (fun x hx => hlt x (List.mem_append_left _ hx))
  · rw [hvars, hv]; exact rfl
theorem sl_ints {base : Nat} {t e : TypeId} {v : Value} {d : DataW H} {ps : List MemPlace} (ht : P.underlying t = some (.slice e)) (he : P.underlying e = some (.int .i64)) (hc : P.cellsOf e = 1)
    (ho : Value.okWide P W .any base t v) (h : DataW.Trod enc P W 0 (fun _ => true) true t v d ps) : ∃ xs, SlR rInt 1 (hp W) v xs := by
  obtain ⟨a0, len, cap, rfl⟩ := okWide_slice ht ho
  obtain ⟨fuel, hf⟩ := h
  rcases open_ints ht he hc hf with ⟨hcs, _⟩ | ⟨a, len', cap', zs, hcs, _, hlc, hm, hz, _, hcell, hwz⟩
  · simp [Value.cells] at hcs
    obtain ⟨rfl, rfl, rfl⟩ := hcs
    exact ⟨[], SlR.nil _ _ _ _ _ (by omega)⟩
  · simp [Value.cells] at hcs
    obtain ⟨rfl, rfl, rfl⟩ := hcs
    simp only [if_true] at hz
    unfold maxLen at hm
    have hlen : (zs.take len).length = len := by simp; omega
    refine ⟨zs.take len, (zs.take len).map (fun z => .int .i64 z), ⟨_, cap, by rw [hlen], ⟨by omega, by omega⟩, by simp, by rw [List.all_eq_true]; intro x hx; obtain ⟨z, _, rfl⟩ := List.mem_map.1 hx; rfl, ?_⟩, ?_⟩
    · rcases Nat.eq_zero_or_pos len with h0 | h0
      · left; omega
      · right
        obtain ⟨b, off, spot⟩ := a
        have hspot : spot = none := by simpa [Addr.add] using World.cell?_spot (hcell 0 (by omega))
        subst hspot
        refine ⟨b, off, rfl, fun j u hj => ?_⟩
        rw [List.getElem?_map] at hj
        have hjl : j < len := by
          rcases Nat.lt_or_ge j len with h | h
          · exact h
          · rw [List.getElem?_eq_none (by omega)] at hj; cases hj
        have hc := hcell j (by omega)
        rw [List.getElem?_take, if_pos hjl, List.getElem?_eq_getElem (by omega)] at hj
        cases hj
        rw [List.getD_eq_getElem?_getD, List.getElem?_eq_getElem (by omega)] at hc
        rw [add_plain] at hc
        unfold World.cell? at hc
        unfold Sx.hcell hp
        dsimp only at hc ⊢
        split at hc
        · next hh => rw [hh]; simpa using hc
        · cases hc
    · have : ∀ n ∈ zs.take len, fits n := fun n hn => by
        have := hwz n (List.mem_of_mem_take hn)
        simp only [Lit.wf, Bool.and_eq_true, decide_eq_true_eq] at this
        exact ⟨by simpa [IntKind.min, IntKind.signed, IntKind.bits] using this.1, by simpa [IntKind.max, IntKind.signed, IntKind.bits] using this.2⟩
      generalize zs.take len = ys at this
      induction ys with
      | nil => rfl
      | cons y ys ih => exact ⟨[_], _, rfl, ⟨rfl, this y (by simp)⟩, ih fun n hn => this n (by simp [hn])⟩
end
theorem own0 : ownKnob Try.prog.godebug = none := by kernel_rfl
theorem laid0 : laidOutB Try.prog = true := by kernel_rfl
theorem und3 : Try.prog.underlying 3 = some (.int .i64) := by kernel_rfl
theorem und4 : Try.prog.underlying 4 = some .bool := by kernel_rfl
theorem und22 : Try.prog.underlying 22 = some (.slice 3) := by kernel_rfl
theorem cells3 : Try.prog.cellsOf 3 = 1 := by kernel_rfl
set_option maxRecDepth 100000 in
theorem keeps_lifted (os : Os) (started : os.Started) (H : Type) (enc : TypeId × Value → H) :
    ReturnsInHanded {} Try.checked os 3 .any (Rows.netKeepsSpec.pre6 enc Try.prog Try.f3 Rows.netKeepsRow.domain false) (Rows.netKeepsSpec.post enc Try.prog Try.f3 false true false false) := by
  refine returnsInHanded_of_change (C := Try.checked) own0 started (by kernel_rfl) Try.func3
    (ChangeSpec.witness6 (enc := enc) (C := Try.checked) false ⟨#[], #[.slice none 0 0, .int .i64 0], []⟩ 8 (by kernel_rfl) (by kernel_rfl) (by kernel_rfl) (by kernel_rfl)) ?_
  intro W base args ds gs before hval hW _ _
  have hW' := hW
  obtain ⟨p, q, hA, hV, rfl, _, _⟩ := hW
  have hA' : DataW.TrodAll enc Try.prog W 0 (fun _ => true) true [22, 3] args.toList ds p := hA
  obtain ⟨v0, v1, d0, d1, p0, p1, rfl, rfl, rfl, h0, h1⟩ := trodAll_two hA'
  obtain ⟨rfl, rfl⟩ := trodVars_none hV
  obtain ⟨t, rfl, rfl, rfl, wt⟩ := open_int und3 (hval 1 3 v1 rfl rfl) h1
  obtain ⟨xs, hx⟩ := sl_ints und22 und3 cells3 (hval 0 22 v0 rfl rfl) h0
  refine (keeps_spec hx W [] (st_start W)).mono fun e W' ⟨r, H', B, he, hle, ⟨hr, hBB⟩, hst⟩ => ?_
  subst hr
  have hst' : St W (hp W) W' [] := ⟨hst.env, hle.trans hst.ro, ⟨Heap.empty, trivial, fun _ _ h => (by cases h), fun _ => .inr rfl⟩⟩
  exact ⟨_, he, post_law laid0 (by kernel_rfl) rfl hW' (st_below hst') rfl rfl fun _ _ _ => trodAll_mk1 (shut_bool und4 true)⟩
theorem netKeeps_proved : Rows.NetKeepsSaid :=
  OpenClaim.holds_of_wide 3 Try.f3 rfl rfl rfl rfl rfl rfl rfl ⟨rfl, rfl, rfl, rfl, rfl⟩ rfl rfl rfl rfl rfl (by kernel_rfl) Try.func3 (by kernel_rfl)
    (of_decide_eq_true (by kernel_rfl)) (by unfold Func.isWrapper; first | (rw [if_pos (by decide +kernel)]; kernel_rfl) | (rw [if_neg (by decide +kernel)]; exact ⟨rfl, rfl⟩))
    (fun os started H enc _ => keeps_lifted os started H enc)
end Go.Proofs.Ytlbpaokehdiinaa
