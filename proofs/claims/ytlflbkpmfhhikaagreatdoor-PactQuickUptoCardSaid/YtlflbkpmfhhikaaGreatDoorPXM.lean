/- The document's example, walked. -/
import Derived.Test.YtlflbkpmfhhikaaGreatDoorPTR
import Derived.Test.YtlflbkpmfhhikaaGreatDoorPXK
import Derived.Test.YtlflbkpmfhhikaaGreatDoorPYI
set_option linter.unusedVariables false
set_option linter.unusedSimpArgs false
namespace Go.Proofs.YtlflbkpmfhhikaaGreatDoor
open Go Go.Sx Go.Proofs
theorem set_mid {p c q : List Value} {o k : Nat} {v : Value} (hp : p.length = o) (hk : k < c.length) : (p ++ c ++ q).set (o + k) v = p ++ c.set k v ++ q := by
  rw [List.append_assoc, List.set_append_right _ _ (by omega), hp, Nat.add_sub_cancel_left, List.set_append_left _ _ hk, ← List.append_assoc]
theorem get_mid {p c q : List Value} {o k : Nat} {v : Value} (hp : p.length = o) (hk : c[k]? = some v) : (p ++ c ++ q)[o + k]? = some v := by
  have hl : k < c.length := (List.getElem?_eq_some_iff.1 hk).1
  rw [List.append_assoc, List.getElem?_append_right (by omega), hp, Nat.add_sub_cancel_left, List.getElem?_append_left hl, hk]
theorem cut_mid {cs c r : List Value} {o : Nat} (h : cs.drop o = c ++ r) (hc : 0 < c.length) : ∃ p, cs = p ++ c ++ r ∧ p.length = o := by
  refine ⟨cs.take o, by rw [List.append_assoc, ← h, List.take_append_drop], ?_⟩
  have h2 : (cs.drop o).length = (c ++ r).length := by rw [h]
  rw [List.length_drop, List.length_append] at h2
  rw [List.length_take]; omega
theorem cloneN_spec {W0 : World} {H : Heap} {b0 : Option Addr} {c0 : Nat} {l : List PactNote} (hb : l.length * 128 ≤ cap47) :
    Ct Tryz.prog 29 #[.slice b0 l.length c0] W0 H [wLog H (.slice b0 l.length c0) l] (fun r H' B => B = [wLog H r l, wLog H (.slice b0 l.length c0) l] ∧ H' = H) := by
  refine Ct.go fun R => ?_
  refine walk ?_
  refine ex_if rfl (fun h => ?_) (fun h => ?_)
  · subst h
    refine walk ?_
    refine out_know .here (p := l.length = 0) (fun h ho => ?_) fun h0 => ?_
    · obtain ⟨cs, _, ho⟩ := ho
      obtain ⟨_, ho⟩ := ho
      rcases ho with ⟨h, _⟩ | ⟨b, cap, sp, h, _⟩
      · exact h
      · cases h
    obtain rfl : l = [] := List.eq_nil_of_length_eq_zero h0
    refine finB [wLog H (.slice none 0 0) [], wLog H (.slice none 0 c0) []] ?_ (hs := ownS_nil)
    exact ⟨rfl, rfl⟩
  · refine walk ?_
    refine ops_mk0 (w := 128) rPactNote rfl fun b => ?_
    refine walk ?_
    refine ops_appSO rfl rfl (by simpa using hb) fun base cap => ?_
    refine walk ?_
    refine finB [wLog H (.slice base ([].length + l.length) cap) ([] ++ l), wLog H (.slice b0 l.length c0) l] ?_
    exact ⟨rfl, rfl⟩
set_option maxHeartbeats 16000000 in
set_option maxRecDepth 20000 in
theorem wlog_spec {W0 : World} {H : Heap} {p : Nat} {w : PW} (hb : w.log.length * 128 ≤ cap47) :
    Ct Tryz.prog 12 #[ptrC p] W0 H [worldO H p w] (fun r H' B => B = [wLog H' r w.log, worldO H' p w]) := by
  refine Ct.go (vs := [ptrC p]) fun R => ?_
  refine ex_open (A := worldO H p w) (σ := Value × Nat × Value × List NE) (B := fun a => [wRow p a.1 a.2.1 (PW.now w) a.2.2.1, wNs a.1 a.2.2.2, bigL (ndP H) a.2.2.2, bigL (ndC H) a.2.2.2, Net.netO H (ptrC a.2.1) (PW.net w), wLog H a.2.2.1 (PW.log w)]) (p := fun a => PW.ns w = a.2.2.2.map NE.q) (by repeat (first | exact Has.here | apply Has.there)) (fun h ⟨nv, nb, lv, es, hb, hk⟩ => ⟨(nv, nb, lv, es), hk, hb⟩) fun ⟨nv, nb, lv, es⟩ hns => ?_
  dsimp only at hns ⊢
  refine ex_shape lv fun lb lc e _ _ _ => ?_
  subst e
  obtain ⟨l, hll⟩ : ∃ l, w.log = l := ⟨_, rfl⟩
  have hwf : ∀ H' : Heap, H.le H' → Sub (wRow p nv nb w.now (.slice lb l.length lc) :: wNs nv es :: bigL (ndP H) es :: bigL (ndC H) es :: Net.netO H (ptrC nb) w.net :: wLog H (.slice lb l.length lc) l :: R) (worldO H' p w :: R) := fun H' hl => by
    rw [← hll]; exact world_shut hns hl hl hl hl
  rw [hll] at hb ⊢
  refine walk ?_
  refine ops_call rfl rfl (cloneN_spec (W0 := W0) (H := H) (b0 := lb) (c0 := lc) hb) fun r1 H1 B hl1 ⟨eB, eH⟩ => ?_
  subst eB eH
  refine ops_shape r1 fun b1 c1 e k1 k2 k3 => ?_
  subst e
  refine walk ?_
  refine ex_loop (σ := Nat × Heap) (fun u => u.1 ≤ l.length ∧ H1.le u.2) (fun u => [(3, .slice b1 l.length c1), (12, I l.length), (13, I u.1)]) (fun u => u.2)
    (fun u => wLog u.2 (.slice b1 l.length c1) l :: wRow p nv nb w.now (.slice lb l.length lc) :: wNs nv es :: bigL (ndP H1) es :: bigL (ndC H1) es :: Net.netO H1 (ptrC nb) w.net :: wLog H1 (.slice lb l.length lc) l :: R) (fun u => l.length - u.1) (0, H1) ⟨Nat.zero_le _, .refl _⟩ fun ⟨j, HK⟩ ⟨hj0, hlK⟩ K hL => ?_
  simp only at hj0 hlK
  dsimp only
  by_cases hj1 : j < l.length
  · have hj2 : (j : Int) < (l.length : Int) := by omega
    refine walk ?_
    refine ops_rowS (.slice b1 l.length c1) (Nat.lt_of_le_of_lt (Nat.zero_le j) hj1) fun b2 cap2 cs sp e q1 q2 q3 q4 q5 q6 => ?_
    cases e
    obtain ⟨c, rr, hcr, hcc⟩ := q5.get hj1
    have hcl : c.length = 10 := RdOk.len hcc
    obtain ⟨pp, rfl, hpl⟩ := cut_mid hcr (by rw [hcl]; decide)
    rw [List.append_assoc (pp ++ c)]
    obtain ⟨qq, hqq⟩ : ∃ qq, rr ++ sp = qq := ⟨_, rfl⟩
    rw [hqq]
    obtain ⟨s1, s2, s3, rfl, f0, f1, f2, f3, f4, f5, g1, g2, g3⟩ := hcc
    obtain ⟨x1, y1, rfl, _, _⟩ := g1.1.shape
    obtain ⟨x2, y2, rfl, _, _⟩ := g2.1.shape
    obtain ⟨x3, y3, rfl, _, _⟩ := g3.1.shape
    obtain ⟨x, hx⟩ : ∃ x, l[j] = x := ⟨_, rfl⟩
    rw [hx] at f0 f1 f2 f3 f4 f5 g1 g2 g3 ⊢
    refine walk ?_
    refine ex_z 31 ?_
    refine z_take 1 rfl rfl ?_
    refine z_take 2 rfl rfl ?_
    refine z_any 20 [row b2 71 (pp ++ PactNote.cv x (.slice x1 x.Rec.Work.Take.length y1) (.slice x2 x.Rec.Work.Drop.length y2) (.slice x3 x.Rec.Parts.length y3) ++ qq)] ?_
    refine stepY 0 ?_; refine stepY 3 ?_; refine stepY 4 ?_; refine stepY 5 ?_; refine stepY 6 ?_; refine stepY 9 ?_; refine stepY 10 ?_; refine stepY 11 ?_; refine stepY 12 ?_; refine stepY 15 ?_; refine stepY 16 ?_; refine stepY 17 ?_
    refine gny_ld 7 rfl rfl rfl (by rw [Nat.zero_add]; exact get_mid (k := 6) hpl rfl) ?_
    refine gny_ld 13 rfl rfl rfl (by rw [Nat.zero_add]; exact get_mid (k := 7) hpl rfl) ?_
    refine gny_ld 18 rfl rfl rfl (by rw [Nat.zero_add]; exact get_mid (k := 9) hpl rfl) ?_
    refine gny_call 8 rfl rfl rfl (cloneT_spec (W0 := W0) (H := HK) g1) fun r8 H8 B hl8 ⟨eB, eH⟩ => ?_
    subst eB eH
    refine ⟨subA, ?_⟩
    refine gny_call 14 rfl rfl rfl (cloneT_spec (W0 := W0) (H := H8) g2) fun r14 H9 B hl9 ⟨eB, eH⟩ => ?_
    subst eB eH
    refine ⟨subA, ?_⟩
    refine gny_call 19 rfl rfl rfl (cloneI_spec (W0 := W0) (H := H9) g3) fun r19 H10 B hl10 ⟨eB, eH⟩ => ?_
    subst eB eH
    refine ⟨subA, ?_⟩
    refine any_stage 31 [] ?_
    refine any_freeze r8 fun H2 hl2 h1 => ?_
    refine any_freeze r14 fun H3 hl3 h2 => ?_
    refine any_freeze r19 fun H4 hl4 h3 => ?_
    obtain ⟨u1, v1, rfl, _, _⟩ := h1.1.shape
    obtain ⟨u2, v2, rfl, _, _⟩ := h2.1.shape
    obtain ⟨u3, v3, rfl, _, _⟩ := h3.1.shape
    have hcw : ∀ v1 v2 v3, (PactNote.cv x v1 v2 v3).length = 10 := fun _ _ _ => rfl
    refine stepY 20 ?_; refine stepY 21 ?_; refine stepY 22 ?_
    refine any_sta 23 (cs' := pp ++ PactNote.cv x (.slice u1 x.Rec.Work.Take.length v1) (.slice x2 x.Rec.Work.Drop.length y2) (.slice x3 x.Rec.Parts.length y3) ++ qq) rfl rfl rfl rfl (by simp only [Nat.zero_add, List.length_append, hcw, hpl, List.length_singleton]; omega) (by rw [Nat.zero_add, set_cut (by simp only [List.length_append, hcw, hpl]; omega)]; exact set_mid (k := 6) hpl (by rw [hcw]; decide)) ⟨subA, ?_⟩
    refine stepY 24 ?_; refine stepY 25 ?_; refine stepY 26 ?_
    refine any_sta 27 (cs' := pp ++ PactNote.cv x (.slice u1 x.Rec.Work.Take.length v1) (.slice u2 x.Rec.Work.Drop.length v2) (.slice x3 x.Rec.Parts.length y3) ++ qq) rfl rfl rfl rfl (by simp only [Nat.zero_add, List.length_append, hcw, hpl, List.length_singleton]; omega) (by rw [Nat.zero_add, set_cut (by simp only [List.length_append, hcw, hpl]; omega)]; exact set_mid (k := 7) hpl (by rw [hcw]; decide)) ⟨subA, ?_⟩
    refine stepY 28 ?_; refine stepY 29 ?_
    refine any_sta 30 (cs' := pp ++ PactNote.cv x (.slice u1 x.Rec.Work.Take.length v1) (.slice u2 x.Rec.Work.Drop.length v2) (.slice u3 x.Rec.Parts.length v3) ++ qq) rfl rfl rfl rfl (by simp only [Nat.zero_add, List.length_append, hcw, hpl, List.length_singleton]; omega) (by rw [Nat.zero_add, set_cut (by simp only [List.length_append, hcw, hpl]; omega)]; exact set_mid (k := 9) hpl (by rw [hcw]; decide)) ⟨subA, ?_⟩
    refine any_rest rfl ?_
    refine walk ?_
    have hs5 := RL.set (q5.mono (hl2.trans (hl3.trans hl4))) (us := PactNote.cv x (.slice u1 x.Rec.Work.Take.length v1) (.slice u2 x.Rec.Work.Drop.length v2) (.slice u3 x.Rec.Parts.length v3)) (y := x) ⟨_, _, _, rfl, f0, f1, f2, f3, f4, f5, h1.mono (hl3.trans hl4), h2.mono hl4, h3⟩ hj1
    have hsx : l.set j x = l := by rw [← hx, List.set_getElem_self]
    rw [hsx, hcw, List.append_assoc pp, List.take_left' hpl, ← List.append_assoc pp, List.drop_left' (by rw [List.length_append, hpl]; rfl)] at hs5
    have e3 : pp ++ PactNote.cv x (.slice u1 x.Rec.Work.Take.length v1) (.slice u2 x.Rec.Work.Drop.length v2) (.slice u3 x.Rec.Parts.length v3) ++ qq = pp ++ PactNote.cv x (.slice u1 x.Rec.Work.Take.length v1) (.slice u2 x.Rec.Work.Drop.length v2) (.slice u3 x.Rec.Parts.length v3) ++ rr ++ sp := by rw [← hqq, List.append_assoc (pp ++ _)]
    rw [e3]
    refine out_next hL (j + 1, H4) ⟨by simp only; omega, hlK.trans (hl2.trans (hl3.trans hl4))⟩ (hs := ?_)
    refine (own_shut ?_ q1 q2 ?_).trans (ownS_mk hs5 q6)
    · rw [← q3]; simp only [List.length_append, hcw]; rfl
    · rw [← q4]; simp only [List.length_append, hcw]; rfl
  · obtain rfl : j = l.length := by omega
    clear hL
    refine walk ?_
    refine finB [wLog HK (.slice b1 l.length c1) l, worldO HK p w] ?_ (hs := Sub.cons (hwf HK hlK))
    rfl
end Go.Proofs.YtlflbkpmfhhikaaGreatDoor
set_option linter.unusedVariables false
set_option linter.unusedSimpArgs false
namespace Go.Sx
open Go
theorem setRow (base : Nat) : ∀ (l : List Value) (i : Nat) (arr : List Value), base + i + l.length ≤ arr.length → (l.zipIdx i).foldl (fun (cs : Array Value) (p : Value × Nat) => cs.setIfInBounds (base + p.2) p.1) arr.toArray = (arr.take (base + i) ++ l ++ arr.drop (base + i + l.length)).toArray
  | [], i, arr, _ => by simp
  | c :: l, i, arr, hl => by
    simp only [List.length_cons] at hl
    simp only [List.zipIdx_cons, List.foldl_cons, List.setIfInBounds_toArray]
    rw [setRow base l (i + 1) (arr.set (base + i) c) (by simp; omega)]
    congr 1
    rw [List.drop_set_of_lt (by omega), show base + (i + 1) = base + i + 1 by omega]
    have e1 : (arr.set (base + i) c).take (base + i + 1) = arr.take (base + i) ++ [c] := by
      rw [List.take_add_one, List.getElem?_set_self (by omega), List.take_set_of_le (by omega)]; simp
    rw [e1]
    simp only [List.length_cons, List.append_assoc, List.singleton_append, List.cons_append, List.nil_append]
    rw [show base + i + 1 + l.length = base + i + (l.length + 1) by omega]
def CLs (sz : Nat) : List Value → List (List Value) → Prop
  | [], [] => True
  | v :: vs, cs :: css => (v.cells = cs.toArray ∧ cs.length = sz) ∧ CLs sz vs css
  | _, _ => False
theorem fillM (sz : Nat) : ∀ (vs : List Value) (css : List (List Value)) (i : Nat) (arr : List Value), CLs sz vs css → i * sz + vs.length * sz ≤ arr.length → Instr.fill (fun i => some (i * sz, sz)) arr.toArray ((vs.zipIdx i).map fun p => (p.2, p.1)) = some (arr.take (i * sz) ++ css.flatten ++ arr.drop (i * sz + vs.length * sz)).toArray
  | [], [], i, arr, _, _ => by simp [Instr.fill]
  | [], _ :: _, _, _, h, _ => h.elim
  | _ :: _, [], _, _, h, _ => h.elim
  | v :: vs, cs :: css, i, arr, ⟨⟨hc, hl⟩, h⟩, hle => by
    simp only [List.length_cons, Nat.succ_mul] at hle
    simp only [List.zipIdx_cons, List.map_cons, Instr.fill, hc]
    rw [if_neg (by simp; omega)]
    have hs := setRow (i * sz) cs 0 arr (by omega)
    simp only [Nat.add_zero] at hs
    have e0 : (cs.toArray : Array Value).zipIdx.foldl (fun (a : Array Value) (x : Value × Nat) => match x with | (c, j) => a.setIfInBounds (i * sz + j) c) arr.toArray = (cs.zipIdx 0).foldl (fun (a : Array Value) (p : Value × Nat) => a.setIfInBounds (i * sz + p.2) p.1) arr.toArray := by
      simp
    rw [e0, hs]
    have hlen : (arr.take (i * sz) ++ cs ++ arr.drop (i * sz + cs.length)).length = arr.length := by simp; omega
    rw [fillM sz vs css (i + 1) _ h (by rw [hlen, Nat.succ_mul]; omega)]
    congr 2
    have t1 : (arr.take (i * sz)).length = i * sz := by simp; omega
    rw [Nat.succ_mul]
    have e1 : (arr.take (i * sz) ++ cs ++ arr.drop (i * sz + cs.length)).take (i * sz + sz) = arr.take (i * sz) ++ cs := by
      rw [List.take_append_of_le_length (by simp; omega), List.take_of_length_le (by simp; omega)]
    have e2 : (arr.take (i * sz) ++ cs ++ arr.drop (i * sz + cs.length)).drop (i * sz + sz + vs.length * sz) = arr.drop (i * sz + (vs.length * sz + sz)) := by
      rw [List.drop_append, List.drop_eq_nil_of_le (by simp; omega), List.nil_append, List.drop_drop]
      congr 1
      simp only [List.length_append, t1, hl]
      omega
    rw [e1, e2]
    simp [Nat.succ_mul]
section
variable {P : Program} {n : Nat} {W0 : World} {F : Slots} {H : Heap} {L : List HProp} {K : Value → Heap → List HProp → Prop} {dst : Option Tmp} {ty : TypeId} {pos : String} {aft : Array Edge} {g : Option (Nat × Bool)}
theorem op_bsM {t e : TypeId} {z : Value} {m sz : Nat} {ps : List (Nat × Operand)} {vs : List Value} (css : List (List Value)) [hT : TSl P t e] [hS' : TSz P e sz] [hZ : TZ P e z] (hx : partsC F 0 ps = some vs) (h1 : CLs sz vs css) (hm : vs.length = m) (hz : z.cells.size = sz) (h0 : (Nat.blt 0 (m * sz) && Nat.ble (m * sz) 1000) = true)
    (hk : ∀ b, H b = none → K (.slice (some ⟨b, 0, none⟩) m m) H (row b e css.flatten :: L)) : OpW P n W0 ⟨dst, .buildSlice t m ps.toArray, ty, pos, aft, g⟩ F H L K :=
  .of_run fun a w hF hS => by
    have hs : St W0 H (w.alloc (.cells css.flatten.toArray e)) (row w.heap.size e css.flatten :: L) := hS.alloc (hS.env.of rfl rfl rfl) rfl
    refine ⟨_, H, _, _, ?_, .refl _, hk _ hs.ptRead.2, hs⟩
    have h0 : 0 < m * sz ∧ m * sz ≤ 1000 := by simpa using h0
    have hsz : sz ≠ 0 := fun h => by subst h; simp at h0
    have hmz : m ≠ 0 := fun h => by subst h; simp at h0
    have hms : m * sz ≠ 0 := by omega
    have hm1 : m ≤ m * sz := Nat.le_mul_of_pos_right _ (by omega)
    have hfill := fillM sz vs css 0 ((List.range (m * sz)).map (fun i => z.cells[i % z.cells.size]!)) h1 (by simp [hm])
    have hd : ((List.range (m * sz)).map (fun i => z.cells[i % z.cells.size]!)).drop (0 * sz + vs.length * sz) = [] := List.drop_eq_nil_of_le (by simp [hm])
    rw [hd] at hfill
    simp only [Nat.zero_mul, List.take_zero, List.nil_append, List.append_nil] at hfill
    have e2 : ((Array.range (m * sz)).map (fun i => z.cells[i % z.cells.size]!)) = ((List.range (m * sz)).map (fun i => z.cells[i % z.cells.size]!)).toArray := by
      apply Array.ext'; simp [Array.toList_range]
    rw [← e2] at hfill
    have hp := partsC_eval hF hx
    have hp3 : (ps.map fun x => (x.1, a.eval x.2)) = (vs.zipIdx 0).map fun p => (p.2, p.1) := hp
    simp only [execOp]
    simp [Instr.buildSlice, run_underlying hT.und, hS'.run, hmz, hsz, hZ.run, newRow]
    rw [if_neg (by omega)]
    simp only [hp3, hfill]
    simp [hms]
    try exact fun h => absurd h hms
end
section
variable {P : Program} {n : Nat} {W0 : World} {Q : Exit → Act → World → Prop} {F : Slots} {H : Heap} {L : List HProp} {ops : Array Oper} {rest : List Oper} {k : List Fr} {ty : TypeId} {pos : String} {aft : Array Edge} {d : Tmp} {g : Option (Nat × Bool)} {gv : Option (Value × Bool)} {t e : TypeId} {z : Value} {ml sz : Nat} {ps : List (Nat × Operand)} {vs : List Value}
theorem ops_bsM (css : List (List Value)) [hT : TSl P t e] [hS' : TSz P e sz] [hZ : TZ P e z] (hg : gval ops F g = some gv) [hb : GOk gv true] (hx : partsC F 0 ps = some vs) (h1 : CLs sz vs css) (hk : ∀ b, H b = none → Ops P n W0 Q ((d, .slice (some ⟨b, 0, none⟩) ml ml) :: F) H (row b e css.flatten :: L) false ops rest k)
    (hm : vs.length = ml := by rfl) (hz : z.cells.size = sz := by rfl) (h0 : (Nat.blt 0 (ml * sz) && Nat.ble (ml * sz) 1000) = true := by rfl) (hd : Nat.blt d n = true := by rfl) : Ops P n W0 Q F H L false ops (⟨some d, .buildSlice t ml ps.toArray, ty, pos, aft, g⟩ :: rest) k :=
  ops_w hg hd (op_bsM css hx h1 hm hz h0 hk)
end
end Go.Sx
namespace Go.Proofs.YtlflbkpmfhhikaaGreatDoor
open Go Go.Sx Go.Proofs
theorem world_up {H H' : Heap} {p : Nat} {w : PW} {L : List HProp} (hl : H.le H') : Sub (worldO H p w :: L) (worldO H' p w :: L) := fun h ⟨h1, h2, ⟨nv, nb, lv, es, hb, hn⟩, r⟩ => by
  have := world_shut (L := []) (H' := H') hn hl hl hl hl h1 hb
  obtain ⟨g1, g2, a, _, _, l1, l2⟩ := this
  obtain ⟨nv', nb', lv', es', hb', hn'⟩ := a
  exact ⟨h1, h2, ⟨nv', nb', lv', es', Go.Sx.big_mono l1 hb', hn'⟩, r⟩
set_option maxHeartbeats 16000000 in
set_option maxRecDepth 20000 in
theorem wawake_spec {W0 : World} {H : Heap} (hP : PkH H) :
    Ct Tryz.prog 10 #[] W0 H [] (fun r H' B => r = .bool true ∧ B = []) := by
  refine Ct.go (vs := []) fun R => ?_
  have hf1 : fits (1 : Int) := by unfold fits; omega
  have hf2 : fits (2 : Int) := by unfold fits; omega
  refine walk ?_
  refine ops_call rfl rfl (wnew_spec (W0 := W0) (H := H) (nodes := 2)) fun r1 H1 B hl1 hq => ?_
  obtain ⟨h, _⟩ | ⟨n, p, hn, _, er, eB⟩ := hq
  · exact absurd ⟨by decide, by decide⟩ h
  obtain rfl : n = 2 := by omega
  subst er eB
  refine walk ?_
  refine ops_w rfl rfl (op_bs1 rfl rfl rfl fun b9 => ?_)
  refine walk ?_
  refine ops_w rfl rfl (op_bs1 rfl rfl rfl fun b10 => ?_)
  refine walk ?_
  refine ops_L (L' := row b9 9 [.string kaW] :: row b10 9 [.string kbW] :: worldO H1 p (newW 2) :: R) subA ?_
  refine ops_frzR .here fun H2 hl2 hr2 => ?_
  refine ops_frzR .here fun H3 hl3 hr3 => ?_
  have hsa : SlB rStr 1 16 H3 (.slice (some ⟨b9, 0, none⟩) 1 1) [kaW] := ⟨slr_of_hrow (R := rStr) (xs := [kaW]) (hr2.mono hl3) ⟨[.string kaW], [], rfl, ⟨rfl, by decide⟩, rfl⟩ (by simp) (by omega), by decide⟩
  have hsb : SlB rStr 1 16 H3 (.slice (some ⟨b10, 0, none⟩) 1 1) [kbW] := ⟨slr_of_hrow (R := rStr) (xs := [kbW]) hr3 ⟨[.string kbW], [], rfl, ⟨rfl, by decide⟩, rfl⟩ (by simp) (by omega), by decide⟩
  refine ops_bsM (sz := 3) [[I 1, .slice (some ⟨b9, 0, none⟩) 1 1, nilS], [I 1, .slice (some ⟨b10, 0, none⟩) 1 1, nilS]] rfl rfl ⟨⟨rfl, rfl⟩, ⟨rfl, rfl⟩, trivial⟩ (fun pb _ => ?_)
  refine ops_frzR .here fun H4 hl4 hr4 => ?_
  have hwa : rWork H4 [I 1, .slice (some ⟨b9, 0, none⟩) 1 1, nilS] aW := ⟨_, _, rfl, hf1, hsa.mono hl4, SlB.nil⟩
  have hwb : rWork H4 [I 1, .slice (some ⟨b10, 0, none⟩) 1 1, nilS] bW := ⟨_, _, rfl, hf1, hsb.mono hl4, SlB.nil⟩
  have hsw : SlB rWork 3 56 H4 (.slice (some ⟨pb, 0, none⟩) 2 2) [aW, bW] := ⟨slr_of_hrow (R := rWork) (xs := [aW, bW]) hr4 ⟨_, _, rfl, hwa, ⟨_, [], rfl, hwb, rfl⟩⟩ (by simp) (by omega), by decide⟩
  refine walk ?_
  refine ops_bsM (sz := 3) [[I 1, I 0, .slice (some ⟨pb, 0, none⟩) 2 2], [I 2, I 0, nilS], [I 2, I 0, nilS], [I 2, I 0, nilS], [I 2, I 0, nilS]] rfl rfl ⟨⟨rfl, rfl⟩, ⟨rfl, rfl⟩, ⟨rfl, rfl⟩, ⟨rfl, rfl⟩, ⟨rfl, rfl⟩, trivial⟩ (fun pm _ => ?_)
  refine ops_frzR .here fun H5 hl5 hr5 => ?_
  have hma : rMove H5 [I 1, I 0, .slice (some ⟨pb, 0, none⟩) 2 2] ⟨1, 0, [aW, bW]⟩ := ⟨_, rfl, hf1, fits0, hsw.mono hl5⟩
  have hmd : rMove H5 [I 2, I 0, nilS] ⟨2, 0, []⟩ := ⟨_, rfl, hf2, fits0, SlB.nil⟩
  have hsm : SlR rMove 3 H5 (.slice (some ⟨pm, 0, none⟩) 5 5) mvA := slr_of_hrow (R := rMove) (xs := mvA) hr5 ⟨_, _, rfl, hma, _, _, rfl, hmd, _, _, rfl, hmd, _, _, rfl, hmd, _, [], rfl, hmd, rfl⟩ (by simp [mvA]) (by omega)
  refine ops_L (L' := worldO H5 p (newW 2) :: R) ?_ ?_
  · refine Sub.trans (B := worldO H1 p (newW 2) :: R) subA ?_
    exact world_up (hl2.trans (hl3.trans (hl4.trans hl5)))
  have hlH : H.le H5 := hl1.trans (hl2.trans (hl3.trans (hl4.trans hl5)))
  refine walk ?_
  refine ex_loop (σ := Nat × PW × Heap) (fun u => (u.1 ≤ 5 ∧ AtA u.1 u.2.1 ∧ (∃ B, WInv 2 u.1 B u.2.1) ∧ u.2.1.log.length ≤ u.1) ∧ H5.le u.2.2) (fun u => [(1, ptrC p), (25, .slice (some ⟨pm, 0, none⟩) 5 5), (26, I 5), (27, I u.1)]) (fun u => u.2.2)
    (fun u => worldO u.2.2 p u.2.1 :: R) (fun u => 5 - u.1) (0, newW 2, H5) ⟨⟨Nat.zero_le _, rfl, ⟨[], winv0 (by decide)⟩, Nat.le_refl _⟩, .refl _⟩ fun ⟨j, w, HK⟩ ⟨⟨hj0, hA, ⟨B0, I0⟩, hlg⟩, hlK⟩ K hL => ?_
  simp only at hj0 hA I0 hlg hlK
  dsimp only
  by_cases hj1 : j < 5
  · have hj2 : (j : Int) < 5 := by omega
    have hj3 : j < mvA.length := hj1
    refine walk ?_
    obtain ⟨q1, q2, c, q3, q4, q5, hc⟩ := (hsm.mono hlK).get hj3
    cases q3
    obtain ⟨s1, ec, hk1, hk2, hk3⟩ := hc
    subst ec
    obtain ⟨sb, sc, rfl, _, _⟩ := hk3.1.shape
    refine ops_ldNH rfl rfl q5 rfl ?_
    refine walk ?_
    refine ops_alloc rfl fun p4 _ => ?_
    refine walk ?_
    refine ops_call rfl rfl (wplay_spec (W0 := W0) (H := HK) (p := p) (m := mvA[j]) (hP.mono (hlH.trans hlK)) I0 (by omega) hk3 hk1 hk2) fun r2 H6 B hl6 ⟨w', e, hp, er, eB⟩ => ?_
    obtain ⟨rfl, hA'⟩ := hA.next hj3 hp
    subst er eB
    refine walk ?_
    obtain ⟨B', I1, _⟩ := I0.play (by omega) (mvA_ok hj3) hp
    exact out_next hL (j + 1, w', H6) ⟨⟨by simp only; omega, hA', ⟨B', I1⟩, by have := hp.log; simp only; omega⟩, hlK.trans hl6⟩
  · obtain rfl : j = 5 := by omega
    clear hL
    obtain ⟨c1, c2, d, d', rfl⟩ : ∃ c1 c2 d d', w = W5 (tW c1 c2) d d' := hA
    refine walk ?_
    refine ops_call rfl rfl (wflight_spec (W0 := W0) (H := HK) (p := p) (w := W5 (tW c1 c2) d d')) fun r2 H6 B hl6 ⟨er, eB, eH⟩ => ?_
    subst er eB eH
    rw [show (W5 (tW c1 c2) d d').net.length = 2 from rfl]
    refine walk ?_
    refine ops_call rfl rfl (wlog_spec (W0 := W0) (H := H6) (p := p) (w := W5 (tW c1 c2) d d') (by show 3 * 128 ≤ cap47; decide)) fun r3 H7 B hl7 eB => ?_
    subst eB
    refine ops_shape r3 fun d3 e3 e _ _ _ => ?_
    rw [show (W5 (tW c1 c2) d d').log.length = 3 from rfl] at e
    subst e
    refine walk ?_
    have hpl : ∀ q ∈ (W5 (tW c1 c2) d d').ns, ∀ k t, mget k q.cs.ts = some t → t.parts.length * 8 ≤ cap47 := fun q hq k t hk => by
      simp only [W5, List.mem_cons, List.not_mem_nil, or_false] at hq
      rcases hq with rfl | rfl
      · simp only [cW, mget] at hk
        split at hk
        · cases hk; show 2 * 8 ≤ cap47; decide
        · cases hk
      · cases hk
    have hol : (openW (W5 (tW c1 c2) d d') 0).length = 1 := by
      have hs1 : allC (cW (openT (tW c1 c2))) = [(0, 1, 1)] := List.perm_singleton.1 (by unfold allC sort3; exact List.mergeSort_perm ..)
      show (openL (cW (openT (tW c1 c2)))).length = 1
      unfold openL
      rw [hs1]
      rfl
    refine ops_call rfl rfl (wopen_spec (W0 := W0) (H := H7) (p := p) (n := 5) (w := W5 (tW c1 c2) d d') (a := 0) (I0.ok (by omega)).c (by omega) hpl) fun r4 H8 B hl8 eB => ?_
    subst eB
    refine ops_shape r4 fun d4 e4 e _ _ _ => ?_
    rw [hol] at e
    subst e
    refine walk ?_
    refine fin0 ?_
    exact ⟨rfl, rfl⟩
end Go.Proofs.YtlflbkpmfhhikaaGreatDoor
