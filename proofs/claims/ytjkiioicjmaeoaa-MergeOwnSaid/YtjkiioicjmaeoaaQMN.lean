/- The fixed fact. -/
import Derived.Test.YtjkiioicjmaeoaaQML
import Derived.Test.YtjkiioicjmaeoaaQPM
set_option linter.unusedVariables false
set_option linter.unusedSimpArgs false
namespace Go.Sx
open Go Go.X
def partsC (F : Slots) : Nat → List (Nat × Operand) → Option (List Value)
  | _, [] => some []
  | i, (j, x) :: r => match Nat.beq i j with
    | false => none
    | true => match opv F x with
      | none => none
      | some v => match partsC F (i + 1) r with
        | none => none
        | some vs => some (v :: vs)
theorem partsC_eval {n : NF} {F : Slots} {a : Act} (hF : FrOk n a F) : ∀ {ps : List (Nat × Operand)} {i : Nat} {vs : List Value}, partsC F i ps = some vs → ps.map (fun p => (p.1, a.eval p.2)) = (vs.zipIdx i).map fun p => (p.2, p.1)
  | [], i, vs, h => by simp [partsC] at h; subst h; rfl
  | (j, x) :: r, i, vs, h => by
    simp only [partsC] at h
    split at h
    · cases h
    · next hij =>
      split at h
      · cases h
      · next v hv =>
        split at h
        · cases h
        · next us hu =>
          cases h
          have e : i = j := by simpa using hij
          subst e
          simp only [List.map_cons, List.zipIdx_cons, hF.opv hv, partsC_eval hF hu]
theorem setRow (base : Nat) : ∀ (l : List Value) (i : Nat) (arr : List Value), base + i + l.length ≤ arr.length → (l.zipIdx i).foldl (fun (cs : Array Value) (p : Value × Nat) => cs.setIfInBounds (base + p.2) p.1) arr.toArray = (arr.take (base + i) ++ l ++ arr.drop (base + i + l.length)).toArray
  | [], i, arr, _ => by simp
  | c :: l, i, arr, hl => by
    simp only [List.length_cons] at hl
    simp only [List.zipIdx_cons, List.foldl_cons, List.setIfInBounds_toArray]
    rw [setRow base l (i + 1) (arr.set (base + i) c) (by simp; omega)]
    congr 1
    rw [List.drop_set_of_lt (by omega), show base + (i + 1) = base + i + 1 by omega]
    have e1 : (arr.set (base + i) c).take (base + i + 1) = arr.take (base + i) ++ [c] := by
      rw [List.take_add_one, List.getElem?_set_self (by omega), List.take_set_of_le (by omega)]; simp
    rw [e1]
    simp only [List.length_cons, List.append_assoc, List.singleton_append, List.cons_append, List.nil_append]
    rw [show base + i + 1 + l.length = base + i + (l.length + 1) by omega]
def CLs (sz : Nat) : List Value → List (List Value) → Prop
  | [], [] => True
  | v :: vs, cs :: css => (v.cells = cs.toArray ∧ cs.length = sz) ∧ CLs sz vs css
  | _, _ => False
theorem fillM (sz : Nat) : ∀ (vs : List Value) (css : List (List Value)) (i : Nat) (arr : List Value), CLs sz vs css → i * sz + vs.length * sz ≤ arr.length → Instr.fill (fun i => some (i * sz, sz)) arr.toArray ((vs.zipIdx i).map fun p => (p.2, p.1)) = some (arr.take (i * sz) ++ css.flatten ++ arr.drop (i * sz + vs.length * sz)).toArray
  | [], [], i, arr, _, _ => by simp [Instr.fill]
  | [], _ :: _, _, _, h, _ => h.elim
  | _ :: _, [], _, _, h, _ => h.elim
  | v :: vs, cs :: css, i, arr, ⟨⟨hc, hl⟩, h⟩, hle => by
    simp only [List.length_cons, Nat.succ_mul] at hle
    simp only [List.zipIdx_cons, List.map_cons, Instr.fill, hc]
    rw [if_neg (by simp; omega)]
    have hs := setRow (i * sz) cs 0 arr (by omega)
    simp only [Nat.add_zero] at hs
    have e0 : (cs.toArray : Array Value).zipIdx.foldl (fun (a : Array Value) (x : Value × Nat) => match x with | (c, j) => a.setIfInBounds (i * sz + j) c) arr.toArray = (cs.zipIdx 0).foldl (fun (a : Array Value) (p : Value × Nat) => a.setIfInBounds (i * sz + p.2) p.1) arr.toArray := by
      simp
    rw [e0, hs]
    have hlen : (arr.take (i * sz) ++ cs ++ arr.drop (i * sz + cs.length)).length = arr.length := by simp; omega
    rw [fillM sz vs css (i + 1) _ h (by rw [hlen, Nat.succ_mul]; omega)]
    congr 2
    have t1 : (arr.take (i * sz)).length = i * sz := by simp; omega
    rw [Nat.succ_mul]
    have e1 : (arr.take (i * sz) ++ cs ++ arr.drop (i * sz + cs.length)).take (i * sz + sz) = arr.take (i * sz) ++ cs := by
      rw [List.take_append_of_le_length (by simp; omega), List.take_of_length_le (by simp; omega)]
    have e2 : (arr.take (i * sz) ++ cs ++ arr.drop (i * sz + cs.length)).drop (i * sz + sz + vs.length * sz) = arr.drop (i * sz + (vs.length * sz + sz)) := by
      rw [List.drop_append, List.drop_eq_nil_of_le (by simp; omega), List.nil_append, List.drop_drop]
      congr 1
      simp only [List.length_append, t1, hl]
      omega
    rw [e1, e2]
    simp [Nat.succ_mul]
section
variable {P : Program} {n : NF} {W0 : GW} {F : Slots} {H : Heap} {L : List HProp} {K : Value → Heap → List HProp → Prop} {dst : Option Tmp} {ty : TypeId} {pos : String} {aft : Array Edge} {g : Option (Nat × Bool)}
theorem op_bsM {t e : TypeId} {z : Value} {m sz : Nat} {ps : List (Nat × Operand)} {vs : List Value} (css : List (List Value)) [hT : TSl P t e] [hS' : TSz P e sz] [hZ : TZ P e z] (hx : partsC F 0 ps = some vs) (h1 : CLs sz vs css) (hm : vs.length = m) (hz : z.cells.size = sz) (h0 : (Nat.blt 0 (m * sz) && Nat.ble (m * sz) 1000) = true)
    (hk : ∀ b, H b = none → K (.slice (some ⟨b, 0, none⟩) m m) H (row b e css.flatten :: L)) : OpW P n W0 ⟨dst, .buildSlice t m ps.toArray, ty, pos, aft, g⟩ F H L K :=
  .of_run fun a w hF hS => by
    have hs : St _ H (w.alloc (.cells css.flatten.toArray e)) (row w.heap.size e css.flatten :: L) := hS.alloc (hS.env.of rfl rfl rfl) rfl
    refine ⟨_, H, _, _, ?_, .refl _, hk _ hs.ptRead.2, hs⟩
    have h0 : 0 < m * sz ∧ m * sz ≤ 1000 := by simpa using h0
    have hsz : sz ≠ 0 := fun h => by subst h; simp at h0
    have hmz : m ≠ 0 := fun h => by subst h; simp at h0
    have hms : m * sz ≠ 0 := by omega
    have hm1 : m ≤ m * sz := Nat.le_mul_of_pos_right _ (by omega)
    have hfill := fillM sz vs css 0 ((List.range (m * sz)).map (fun i => z.cells[i % z.cells.size]!)) h1 (by simp [hm])
    have hd : ((List.range (m * sz)).map (fun i => z.cells[i % z.cells.size]!)).drop (0 * sz + vs.length * sz) = [] := List.drop_eq_nil_of_le (by simp [hm])
    rw [hd] at hfill
    simp only [Nat.zero_mul, List.take_zero, List.nil_append, List.append_nil] at hfill
    have e2 : ((Array.range (m * sz)).map (fun i => z.cells[i % z.cells.size]!)) = ((List.range (m * sz)).map (fun i => z.cells[i % z.cells.size]!)).toArray := by
      apply Array.ext'; simp [Array.toList_range]
    rw [← e2] at hfill
    have hp := partsC_eval hF hx
    have hp3 : (ps.map fun x => (x.1, a.eval x.2)) = (vs.zipIdx 0).map fun p => (p.2, p.1) := hp
    simp only [execOp]
    simp [Instr.buildSlice, run_underlying hT.und, hS'.run, hmz, hsz, hZ.run, newRow]
    rw [if_neg (by omega)]
    simp only [hp3, hfill]
    simp [hms]
    try exact fun h => absurd h hms
end
section
variable {P : Program} {n : NF} {W0 : GW} {Q : Exit → Act → GW → Prop} {F : Slots} {H : Heap} {L : List HProp} {ops : Array Oper} {rest : List Oper} {k : List Fr} {ty : TypeId} {pos : String} {aft : Array Edge} {d : Tmp} {g : Option (Nat × Bool)} {gv : Option (Value × Bool)} {t e : TypeId} {z : Value} {ml sz : Nat} {ps : List (Nat × Operand)} {vs : List Value}
theorem ops_bsM (css : List (List Value)) [hT : TSl P t e] [hS' : TSz P e sz] [hZ : TZ P e z] (hg : gval ops F g = some gv) [hb : GOk gv true] (hx : partsC F 0 ps = some vs) (h1 : CLs sz vs css) (hk : ∀ b, H b = none → Ops P n W0 Q ((d, .slice (some ⟨b, 0, none⟩) ml ml) :: F) H (row b e css.flatten :: L) false ops rest k)
    (hm : vs.length = ml := by rfl) (hz : z.cells.size = sz := by rfl) (h0 : (Nat.blt 0 (ml * sz) && Nat.ble (ml * sz) 1000) = true := by rfl) (hd : Nat.blt d n = true := by rfl) : Ops P n W0 Q F H L false ops (⟨some d, .buildSlice t ml ps.toArray, ty, pos, aft, g⟩ :: rest) k :=
  ops_w hg hd (op_bsM css hx h1 hm hz h0 hk)
end
end Go.Sx
namespace Go.Proofs.Ytjkiioicjmaeoaa
open Go Go.Sx Go.X Go.Proofs
end Go.Proofs.Ytjkiioicjmaeoaa
namespace Go.Proofs.Ytjkiioicjmaeoaa
open Go Go.Sx Go.X Go.Proofs
theorem row_ownS {α : Type} {R : Rd α} {sz w T b : Nat} {H : Heap} {L : List HProp} {cs : List Value} {xs : List α} [hR : RdOk R sz] (hr : RL R H cs xs) (h1 : xs.length * w ≤ cap47) (h2 : xs.length ≤ 9223372036854775807) :
    Sub (row b T cs :: L) (ownS R sz w T H (.slice (some ⟨b, 0, none⟩) xs.length xs.length) xs :: L) := by
  have hs := own_shut (T := T) (sz := sz) (m := xs.length) (b := b) (cap := xs.length) (xs := cs) (sp := []) (R := L) (RL.len hr) (Nat.le_refl _) h2 (by simp [RL.len hr])
  rw [List.append_nil] at hs
  exact hs.trans (ownS_mk hr h1)
theorem isM_dist {xs r : List Entry} (hd : xs.Pairwise fun a b => ¬ Eqv a b) (hp : PW r) (hm : ∀ x, x ∈ r ↔ x ∈ xs) : IsM xs r := by
  refine ⟨hp, fun x => (hm x).trans ⟨fun hx => ?_, fun h => (fst_some h).2⟩⟩
  clear hm hp
  induction xs with
  | nil => cases hx
  | cons a t ih =>
    unfold fst?
    rw [List.find?_cons]
    rcases List.mem_cons.1 hx with rfl | hx
    · simp [Eqv.refl]
    · have : ¬ Eqv a x := List.rel_of_pairwise_cons hd hx
      simp only [this, decide_false]
      exact ih (List.Pairwise.of_cons hd) hx
abbrev ka : ByteArray := ⟨#[97]⟩
abbrev kb : ByteArray := ⟨#[98]⟩
abbrev kc : ByteArray := ⟨#[99]⟩
abbrev a3 : Entry := ⟨ka, 3, false, ⟨#[]⟩⟩
abbrev c1 : Entry := ⟨kc, 1, false, ⟨#[]⟩⟩
abbrev a2 : Entry := ⟨ka, 2, false, ⟨#[120]⟩⟩
abbrev b5 : Entry := ⟨kb, 5, false, ⟨#[]⟩⟩
theorem lab : SLt ka kb := slt_iff.2 (by decide)
theorem lbc : SLt kb kc := slt_iff.2 (by decide)
theorem lac : SLt ka kc := slt_iff.2 (by decide)
theorem ord1 : Ordd [a3, c1] := pw_ordd (by simp only [List.pairwise_cons, List.mem_cons, List.not_mem_nil, or_false, forall_eq]; exact ⟨.inl lac, fun _ h => h.elim, .nil⟩)
theorem ord2 : Ordd [a2, b5] := pw_ordd (by simp only [List.pairwise_cons, List.mem_cons, List.not_mem_nil, or_false, forall_eq]; exact ⟨.inl lab, fun _ h => h.elim, .nil⟩)
theorem pw4 : PW [a3, a2, b5, c1] := by
  refine .cons (fun x hx => ?_) (.cons (fun x hx => ?_) (.cons (fun x hx => ?_) (.cons (fun x hx => by cases hx) .nil)))
  · simp only [List.mem_cons, List.not_mem_nil, or_false] at hx
    rcases hx with rfl | rfl | rfl
    · exact .inr ⟨rfl, by decide⟩
    · exact .inl lab
    · exact .inl lac
  · simp only [List.mem_cons, List.not_mem_nil, or_false] at hx
    rcases hx with rfl | rfl
    · exact .inl lab
    · exact .inl lac
  · simp only [List.mem_cons, List.not_mem_nil, or_false] at hx
    subst hx
    exact .inl lbc
theorem ref4 : refM [a3, c1, a2, b5] = [a3, a2, b5, c1] := by
  refine (isM_refM _).uniq (isM_dist ?_ pw4 fun x => ?_)
  · refine .cons (fun x hx => ?_) (.cons (fun x hx => ?_) (.cons (fun x hx => ?_) (.cons (fun x hx => by cases hx) .nil)))
    · simp only [List.mem_cons, List.not_mem_nil, or_false] at hx
      rcases hx with rfl | rfl | rfl <;> exact fun h => absurd h (by decide)
    · simp only [List.mem_cons, List.not_mem_nil, or_false] at hx
      rcases hx with rfl | rfl <;> exact fun h => absurd h (by decide)
    · simp only [List.mem_cons, List.not_mem_nil, or_false] at hx
      subst hx; exact fun h => absurd h (by decide)
  · simp only [List.mem_cons, List.not_mem_nil, or_false]
    constructor <;> (rintro (h | h | h | h) <;> simp [h])
theorem vis4 : vis 2 [a3, a2, b5, c1] = [⟨ka, ⟨#[120]⟩⟩, ⟨kc, ⟨#[]⟩⟩] := by
  rw [vis_hi (by decide), vis_lo (by decide)]
  have e : past ka [b5, c1] = [b5, c1] := by unfold past; rw [if_neg (by decide)]
  rw [e, vis_hi (by decide), vis_lo (by decide)]
  simp [shown, past, vis]
theorem rlE {H : Heap} : ∀ {l : List Entry}, (∀ e ∈ l, okE e) → RL rEntry H (l.map Entry.cv).flatten l
  | [], _ => rfl
  | e :: l, h => ⟨e.cv, _, rfl, ⟨rfl, h e (List.mem_cons_self ..)⟩, rlE fun x hx => h x (List.mem_cons_of_mem _ hx)⟩
theorem rlL {H : Heap} : ∀ {vs : List Value} {ls : List (List Entry)}, vs.length = ls.length → (∀ i (h : i < ls.length) (h' : i < vs.length), LB H vs[i] ls[i]) → RL (rSl rEntry 4 48) H vs ls
  | [], [], _, _ => rfl
  | v :: vs, l :: ls, e, h => ⟨[v], vs, rfl, ⟨v, rfl, h 0 (by simp) (by simp)⟩, rlL (by simpa using e) fun i hi hi' => h (i + 1) (by simpa using hi) (by simpa using hi')⟩
  | [], _ :: _, e, _ => by cases e
  | _ :: _, [], e, _ => by cases e
theorem ok4 : okE a3 ∧ okE c1 ∧ okE a2 ∧ okE b5 := by
  refine ⟨⟨?_, ?_, ?_⟩, ⟨?_, ?_, ?_⟩, ⟨?_, ?_, ?_⟩, ⟨?_, ?_, ?_⟩⟩ <;> first | decide | (unfold fits; decide)
set_option maxHeartbeats 4000000 in
theorem awake_spec {W0 : GW} {H : Heap} (hs : W0.s = .solo) : Ct Try.prog 8 #[] W0 H [] (fun r H' B => r = .bool true ∧ B = []) := by
  refine Ct.go (vs := []) fun R => ?_
  refine walk ?_
  refine ops_bsM [a3.cv, c1.cv] rfl rfl ⟨⟨rfl, rfl⟩, ⟨rfl, rfl⟩, trivial⟩ fun p1 _ => ?_
  refine ops_L (row_ownS (R := rEntry) (H := H) (w := 48) (xs := [a3, c1]) (rlE (l := [a3, c1]) fun e he => by simp only [List.mem_cons, List.not_mem_nil, or_false] at he; rcases he with rfl | rfl <;> simp [ok4]) (by simp [cap47]) (by simp)) ?_
  refine ops_freeze (.slice (some ⟨p1, 0, none⟩) 2 2) fun H1 hl1 q1 => ?_
  refine walk ?_
  refine ops_bsM [a2.cv, b5.cv] rfl rfl ⟨⟨rfl, rfl⟩, ⟨rfl, rfl⟩, trivial⟩ fun p2 _ => ?_
  refine ops_L (row_ownS (R := rEntry) (H := H1) (w := 48) (xs := [a2, b5]) (rlE (l := [a2, b5]) fun e he => by simp only [List.mem_cons, List.not_mem_nil, or_false] at he; rcases he with rfl | rfl <;> simp [ok4]) (by simp [cap47]) (by simp)) ?_
  refine ops_freeze (.slice (some ⟨p2, 0, none⟩) 2 2) fun H2 hl2 q2 => ?_
  refine walk ?_
  refine ops_bsM [[.slice (some ⟨p1, 0, none⟩) 2 2], [.slice (some ⟨p2, 0, none⟩) 2 2]] rfl rfl ⟨⟨rfl, rfl⟩, ⟨rfl, rfl⟩, trivial⟩ fun p3 _ => ?_
  have q1' := q1.mono hl2
  refine ops_L (row_ownS (R := rSl rEntry 4 48) (H := H2) (w := 24) (xs := [[a3, c1], [a2, b5]]) (rlL rfl fun i h h' => by
    have : i = 0 ∨ i = 1 := by simp at h; omega
    rcases this with rfl | rfl
    · exact q1'
    · exact q2) (by simp [cap47]) (by simp)) ?_
  refine ops_freeze (.slice (some ⟨p3, 0, none⟩) 2 2) fun H3 hl3 q3 => ?_
  refine ops_call rfl rfl (merge_spec hs q3 (by simp [tot, cap47]) (by simp)) fun r H' B hl ⟨⟨s, code, res, er, hlb, hh⟩, eB⟩ => ?_
  subst er eB
  have hall : ∀ l ∈ [[a3, c1], [a2, b5]], Ordd l := fun l hl => by
    simp only [List.mem_cons, List.not_mem_nil, or_false] at hl
    rcases hl with rfl | rfl
    · exact ord1
    · exact ord2
  rcases hh with ⟨hno, _⟩ | ⟨_, rfl, hm⟩
  · exact absurd hall hno
  have hres : res = [a3, a2, b5, c1] := by
    rw [mrg_ref hm hall]
    show (refM [a3, c1, a2, b5]).take _ = _
    rw [ref4, List.take_of_length_le (by simp)]
  subst hres
  obtain ⟨sb, sc, rfl, _, _⟩ := hlb.1.shape
  refine walk ?_
  refine ops_call rfl rfl (visible_spec hlb) fun r H4 B hl4 ⟨⟨s2, code2, res2, er, hpb, hh2⟩, eB⟩ => ?_
  subst er eB
  rcases hh2 with ⟨hno, _⟩ | ⟨_, rfl, hv⟩
  · exact absurd (pw_ordd pw4) hno
  rw [vis4] at hv
  subst hv
  have hlb4 := hlb.mono hl4
  obtain ⟨pb, pc, rfl, _, _⟩ := hpb.1.shape
  refine walk ?_
  rw [show decide ((([a3, a2, b5, c1] : List Entry).length : Int) = 4) = true from rfl]
  refine walk ?_
  refine ops_ixp (j := 1) (hi := ⟨rfl⟩) rfl rfl hlb4.1 (by simp) fun b1 o1 c1 k1 k2 => ?_
  obtain ⟨rfl, -⟩ := k2
  refine walk ?_
  rw [show decide (([a3, a2, b5, c1] : List Entry)[1].Seq = 2) = true from rfl]
  refine walk ?_
  rw [show decide ((([⟨ka, ⟨#[120]⟩⟩, ⟨kc, ⟨#[]⟩⟩] : List Pair).length : Int) = 2) = true from rfl]
  refine walk ?_
  refine ops_ixp (j := 0) (hi := ⟨rfl⟩) rfl rfl hpb.1 (by simp) fun b2 o2 c2 k3 k4 => ?_
  obtain ⟨rfl, -⟩ := k4
  refine ops_ldNH rfl rfl k3 rfl ?_
  refine walk ?_
  refine ops_eqS (ok := okPq) (p := True) rfl rfl rfl ⟨_, ⟨ka, ⟨#[120]⟩⟩, rfl, rfl⟩ ⟨fun _ => rfl, fun _ => trivial⟩ ?_
  rw [show decide True = true from rfl]
  refine walk ?_
  refine ops_ixp (j := 1) (hi := ⟨rfl⟩) rfl rfl hpb.1 (by simp) fun b3 o3 c3 k5 k6 => ?_
  obtain ⟨rfl, -⟩ := k6
  refine walk ?_
  rw [show decide (([⟨ka, ⟨#[120]⟩⟩, ⟨kc, ⟨#[]⟩⟩] : List Pair)[1].Key = kc) = true from rfl]
  refine walk ?_
  refine fin0 ?_
  exact ⟨rfl, rfl⟩
end Go.Proofs.Ytjkiioicjmaeoaa
