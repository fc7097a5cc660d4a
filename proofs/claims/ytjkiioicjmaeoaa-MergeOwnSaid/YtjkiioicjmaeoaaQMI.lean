/- The front whose entry stands first. -/
import Derived.Test.YtjkiioicjmaeoaaQMG
import Derived.Test.YtjkiioicjmaeoaaQZA
set_option linter.unusedVariables false
set_option linter.unusedSimpArgs false
namespace Go.Sx
open Go Go.X
def bigL {ι : Type} (A : ι → HProp) (l : List ι) : HProp := big (l.map A)
section
variable {ι : Type} {A : ι → HProp} {l l1 l2 : List ι} {x y : ι} {L : List HProp}
theorem bigL_open : Sub (bigL A l :: L) (l.map A ++ L) := sub_open fun _ h => h
theorem bigL_shut : Sub (l.map A ++ L) (bigL A l :: L) := sub_shut fun _ h => h
theorem sub_mid {M N : List HProp} {B : HProp} : Sub (M ++ B :: N) (B :: (M ++ N)) := by
  induction M with
  | nil => exact Sub.refl _
  | cons a M ih => exact (Sub.cons ih).trans fun _ => big_swap
theorem sub_unmid {M N : List HProp} {B : HProp} : Sub (B :: (M ++ N)) (M ++ B :: N) := by
  induction M with
  | nil => exact Sub.refl _
  | cons a M ih => exact Sub.trans (fun _ => big_swap) (Sub.cons ih)
theorem bigL_out : Sub (bigL A (l1 ++ x :: l2) :: L) (A x :: bigL A (l1 ++ l2) :: L) := by
  refine bigL_open.trans ?_
  rw [List.map_append, List.map_cons, List.append_assoc, List.cons_append]
  refine sub_mid.trans (Sub.cons ?_)
  rw [← List.append_assoc, ← List.map_append]
  exact bigL_shut
theorem bigL_in : Sub (A x :: bigL A (l1 ++ l2) :: L) (bigL A (l1 ++ x :: l2) :: L) := by
  refine Sub.trans (Sub.cons bigL_open) ?_
  rw [List.map_append, List.append_assoc]
  refine sub_unmid.trans ?_
  have : l1.map A ++ A x :: (l2.map A ++ L) = (l1 ++ x :: l2).map A ++ L := by simp
  rw [this]
  exact bigL_shut
theorem bigL_nil : Sub L (bigL A [] :: L) := fun h hb => ⟨Heap.empty, h, trivial, hb, fun _ => .inl rfl, fun _ _ h => by simp [Heap.empty] at h, .refl _⟩
theorem split_at {k : Nat} (hk : k < l.length) : l = l.take k ++ l[k] :: l.drop (k + 1) := by
  rw [← List.drop_eq_getElem_cons hk, List.take_append_drop]
theorem bigL_get {k : Nat} (hk : k < l.length) : Sub (bigL A l :: L) (A l[k] :: bigL A (l.take k ++ l.drop (k + 1)) :: L) := by
  have h := bigL_out (A := A) (l1 := l.take k) (x := l[k]) (l2 := l.drop (k + 1)) (L := L)
  rwa [← split_at hk] at h
theorem bigL_set {k : Nat} (hk : k < l.length) : Sub (A y :: bigL A (l.take k ++ l.drop (k + 1)) :: L) (bigL A (l.set k y) :: L) := by
  have h := bigL_in (A := A) (l1 := l.take k) (x := y) (l2 := l.drop (k + 1)) (L := L)
  rw [List.set_eq_take_append_cons_drop, if_pos hk]; exact h
end
section
variable {P : Program} {n : NF} {W0 : GW} {Q : Exit → Act → GW → Prop} {F : Slots} {H : Heap} {L : List HProp} {ops : Array Oper} {rest : List Oper} {q : Bool} {k : List Fr} {y : Code}
end
end Go.Sx
namespace Go.Sx
open Go Go.X
def rVal : Rd Value := fun _ c x => c = [x] ∧ x.oneCell' = true
instance : RdOk rVal 1 := ⟨fun ⟨h, _⟩ => by subst h; rfl, fun ⟨h, ho⟩ => by subst h; simpa using ho, fun _ h => h⟩
instance : RdFlat rVal := ⟨fun h => h⟩
instance : R1 rVal (fun x => x) (fun x => x.oneCell' = true) := ⟨fun h => h⟩
section
variable {P : Program} {n : NF} {W0 : GW} {Q : Exit → Act → GW → Prop} {F : Slots} {H : Heap} {L : List HProp} {ops : Array Oper} {rest : List Oper} {k : List Fr} {ty ty' : TypeId} {pos pos' : String} {aft aft' : Array Edge} {d d' : Tmp} {g g' : Option (Nat × Bool)} {v : Value}
theorem empty_le (H : Heap) : Heap.empty.le H := fun _ _ h => by simp [Heap.empty] at h
theorem ex_lendS {c : Code} {α : Type} {R : Rd α} {sz w T : Nat} {HS : Heap} {xs : List α} {L' : List HProp} (s : Value) [hh : HasS L s α R sz w T HS xs L'] [RdOk R sz] [RdFlat R]
    (h : ∀ D, ownS R sz w T HS s xs D → Disj H D → H.le (union H D) → SlB R sz w (union H D) s xs → Ex P n W0 Q F (union H D) L' c k) : Ex P n W0 Q F H L c k :=
  ex_lend hh.has fun D hD hd h1 h2 => h D hD hd h1 (ownS_reads (ownS_flat (H' := Heap.empty) hD) (empty_le _) h2)
end
end Go.Sx
namespace Go.Proofs.Ytjkiioicjmaeoaa
open Go Go.Sx Go.X Go.Proofs
def Bef (a b : Entry) : Prop := SLt a.Key b.Key ∨ (a.Key = b.Key ∧ b.Seq < a.Seq)
instance {a b : Entry} : Decidable (Bef a b) := inferInstanceAs (Decidable (_ ∨ _))
theorem before_spec {W0 : GW} {H : Heap} {a b : Entry} : Ct Try.prog 36 #[vE a, vE b] W0 H [] (fun r H' B => r = .bool (decide (Bef a b)) ∧ B = [] ∧ H' = H) := by
  refine Ct.go (vs := [_, _]) fun R => ?_
  refine walk ?_
  refine ops_box rfl rfl fun p1 _ => ?_
  refine ops_box rfl rfl fun p2 _ => ?_
  refine walk ?_
  by_cases h1 : SLt a.Key b.Key
  · rw [decide_eq_true h1]
    refine walk ?_
    refine fin0 ?_
    exact ⟨by rw [decide_eq_true (p := Bef a b) (.inl h1)], rfl, rfl⟩
  · rw [decide_eq_false h1]
    refine walk ?_
    by_cases h2 : a.Key = b.Key
    · rw [decide_eq_true h2]
      refine walk ?_
      refine fin0 ?_
      exact ⟨by congr 1; exact decide_eq_decide.2 ⟨fun h => .inr ⟨h2, h⟩, fun h => (h.resolve_left h1).2⟩, rfl, rfl⟩
    · rw [decide_eq_false h2]
      refine walk ?_
      refine fin0 ?_
      exact ⟨by rw [decide_eq_false (p := Bef a b) (fun h => h.elim h1 fun h => h2 h.1)], rfl, rfl⟩
def Ordd (l : List Entry) : Prop := ∀ i (h : i + 1 < l.length), Bef l[i] l[i + 1]
theorem ordered_spec {W0 : GW} {H : Heap} {v : Value} {l : List Entry} (hl : SlR rEntry 4 H v l) (hsz : l.length ≤ cap47) : Ct Try.prog 23 #[v] W0 H [] (fun r H' B => (∃ b, r = .bool b ∧ (b = true ↔ Ordd l)) ∧ B = [] ∧ H' = H) := by
  refine Ct.go (vs := [_]) fun R => ?_
  obtain ⟨b0, c0, rfl, hc0, hd0⟩ := hl.shape
  refine walk ?_
  refine ex_loop (fun i : Nat => 1 ≤ i ∧ i ≤ max 1 l.length ∧ ∀ j (h : j + 1 < l.length), j + 1 < i → Bef l[j] l[j + 1]) (fun i => [(3, .int .i64 i), (0, .slice b0 l.length c0)]) (fun _ => H) (fun _ => R) (fun i => l.length + 1 - i) 1 ⟨Nat.le_refl _, by omega, fun j h hj => by omega⟩ fun i ⟨hi1, hi2, hI⟩ K hK => ?_
  by_cases hlt : i < l.length
  · refine walk ?_
    refine ops_ixp (j := i - 1) (hi := ⟨by omega⟩) rfl rfl hl (by omega) fun b1 o1 c1 h1 h2 => ?_
    obtain ⟨rfl, -⟩ := h2
    refine ops_ldNH rfl rfl h1 rfl ?_
    refine walk ?_
    refine ops_ixp rfl rfl hl hlt fun b2 o2 c2 h3 h4 => ?_
    obtain ⟨rfl, -⟩ := h4
    refine ops_ldNH rfl rfl h3 rfl ?_
    refine ops_pcall rfl rfl before_spec ?_
    refine walk ?_
    refine ex_if rfl (fun h => ?_) (fun h => ?_)
    · refine walk ?_
      refine fin0 ?_
      refine ⟨⟨false, rfl, fun h => (by cases h), fun ho => absurd ?_ h⟩, rfl, rfl⟩
      have := ho (i - 1) (by omega)
      have e : i - 1 + 1 = i := by omega
      simpa only [e] using this
    · refine walk ?_
      exact out_next hK (i + 1) ⟨by omega, by omega, fun j hj hji => by
        by_cases e : j + 1 = i
        · subst e
          have := Decidable.not_not.1 h
          simpa using this
        · exact hI j hj (by omega)⟩
  · refine walk ?_
    refine fin0 ?_
    exact ⟨⟨true, rfl, fun _ j h => hI j h (by omega), fun _ => rfl⟩, rfl, rfl⟩
end Go.Proofs.Ytjkiioicjmaeoaa
namespace Go.Sx
open Go Go.X
theorem less_iff : ∀ {a b : List UInt8}, Op.bytesLess a b = true ↔ a < b
  | [], [] => by simp [Op.bytesLess]
  | _ :: _, [] => by simp [Op.bytesLess]
  | [], _ :: _ => by simp [Op.bytesLess]
  | a :: x, b :: y => by
    have ih := less_iff (a := x) (b := y)
    simp only [Op.bytesLess, List.cons_lt_cons_iff, Bool.or_eq_true, Bool.and_eq_true, decide_eq_true_eq, beq_iff_eq, ih]
theorem slt_iff {s t : ByteArray} : SLt s t ↔ s.data.toList < t.data.toList := by
  unfold SLt sless
  rw [less_iff, bytes_toList, bytes_toList]
theorem text_ext {s t : ByteArray} (h : s.data.toList = t.data.toList) : s = t := by
  cases s; cases t; congr; exact Array.ext' h
theorem slt_irr {s : ByteArray} : ¬ SLt s s := by rw [slt_iff]; exact List.lt_irrefl _
theorem slt_trans {s t u : ByteArray} (h : SLt s t) (h' : SLt t u) : SLt s u := by rw [slt_iff] at *; exact List.lt_trans h h'
theorem slt_tri {s t : ByteArray} : SLt s t ∨ s = t ∨ SLt t s := by
  rw [slt_iff, slt_iff]
  by_cases h : s.data.toList < t.data.toList
  · exact .inl h
  · by_cases h' : t.data.toList < s.data.toList
    · exact .inr (.inr h')
    · exact .inr (.inl (text_ext (List.le_antisymm (List.not_lt.1 h') (List.not_lt.1 h))))
section
variable {P : Program} {n : NF} {F : Slots} {H : Heap} {L : List HProp} {dst : Option Tmp} {ty : TypeId} {pos : String} {aft : Array Edge} {g : Option (Nat × Bool)}
theorem op_eqlPtr0 {x y : Operand} {T T' : TypeId} [hT : TPt P T] (hx : opv F x = some (.pointer none)) (hy : opv F y = some (.pointer none)) :
    OpP P n ⟨dst, .binOp .eql T x y T', ty, pos, aft, g⟩ F H L (.bool true) := .mk (calm := fun a hF => let ⟨e, he⟩ := hT.ex; calm_eqNil he (by simp) (hF.opv hx) (hF.opv hy)) fun _ w hF _ => by
  obtain ⟨e, he⟩ := hT.ex
  have h0 : (Op.equal T (.pointer none) (.pointer none)).run P w = .ok true w := by
    have : ∀ d, (Op.equalIn (d + 1) T (.pointer none) (.pointer none)).run P w = .ok true w := fun d => by simp [Op.equalIn, run_underlying he]
    exact this 9999
  simp only [execOp, hF.opv hx, hF.opv hy]; simp [eqGuard_at_pointer, binOp, h0]
instance {x y : Operand} {T T' : TypeId} [TPt P T] : POp P (.binOp .eql T x y T') [.pointer none, .pointer none] True (.bool true) := ⟨fun _ h => op_eqlPtr0 (opvs2 h).1 (opvs2 h).2⟩
end
end Go.Sx
namespace Go.X
open Go Go.Sx Go.Conc
theorem stepG_scope {P : Program} {main : Bool} {b : Frame} {a : Act} {k : List Item} {cs : List Frame} {w : World} {c : Code} : stepG P main (G (b.at a (.code (.scope c) :: k)) cs) w = .go (G (b.at a (.code c :: .inScope c :: k)) cs) w := by simp [G, stepG, stepG.exec, Frame.at]
theorem stepG_inScope {P : Program} {main : Bool} {b : Frame} {a : Act} {k : List Item} {cs : List Frame} {w : World} {c : Code} : stepG P main (G (b.at a (.inScope c :: k)) cs) w = .go (G (b.at a k) cs) w := by simp [G, stepG, stepG.exec, Frame.at]
def noGotoX {σ : Type} (Q : Exit → Act → σ → Prop) : Exit → Act → σ → Prop
  | .goto _, _, _ => False
  | e, a, w => Q e a w
theorem wpV_scope {P : Program} {Q : Exit → Act → GW → Prop} {a : Act} {w : GW} {c : Code} (h : c.wpV P (noGotoX Q) a w) : (Code.scope c).wpV P Q a w := by
  intro Wr hsm b k cs hb hc
  refine .ctl rfl (fun _ _ => stepG_scope) (h Wr hsm b (.inScope c :: k) cs hb fun e a' x' q => ?_)
  cases e with
  | normal => exact .ctl rfl (fun _ _ => stepG_inScope) (hc _ _ _ q)
  | exit id => obtain ⟨k', hk', hg⟩ := hc _ _ _ q; exact ⟨k', by simpa [exitTo] using hk', hg⟩
  | goto l => obtain ⟨_, _, h⟩ := q; exact h.elim
  | ret => exact hc _ _ _ q
  | panic ch => exact hc _ _ _ q
  | outgrown => exact hc _ _ _ q
section
variable {P : Program} {n : NF} {W0 : GW} {Q : Exit → Act → GW → Prop} {F : Slots} {H : Heap} {L : List HProp} {k k' : List Fr} {c : Code}
theorem ex_label {l : Nat} (h : Out P n W0 Q F H L .normal k) : Ex P n W0 Q F H L (.label l) k := ⟨fun a w hF hS Wr hsm => wpX_label ⟨w, rep_xw hsm, h.run a w hF hS⟩⟩
theorem ex_scope (h : Ex P n W0 (noGotoX (Kx P Q k)) F H L c []) : Ex P n W0 Q F H L (.scope c) k := ⟨fun a w hF hS => wpV_scope (h.run a w hF hS)⟩
theorem kx_ret : ∀ (k : List Fr) {a : Act} {w : GW}, Q .ret a w → Kx P Q k .ret a w
  | [], _, _, h => h
  | .seq _ :: k, _, _, h => kx_ret k h
  | .blk _ :: k, _, _, h => kx_ret k h
  | .cut _ :: k, _, _, h => kx_ret k h
theorem out_scope_ret (h : Out P n W0 Q F H L .ret k) : Out P n W0 (noGotoX (Kx P Q k)) F H L .ret k' :=
  ⟨fun a w hF hS => kx_ret k' (h.run a w hF hS)⟩
end
end Go.X
namespace Go.Proofs.Ytjkiioicjmaeoaa
open Go Go.Sx Go.X Go.Proofs
theorem bef_irr {a : Entry} : ¬ Bef a a := fun h => h.elim slt_irr fun h => by omega
theorem bef_trans {a b c : Entry} (h : Bef a b) (h' : Bef b c) : Bef a c := by
  rcases h with h | ⟨h1, h2⟩ <;> rcases h' with h' | ⟨h3, h4⟩
  · exact .inl (slt_trans h h')
  · exact .inl (h3 ▸ h)
  · exact .inl (h1 ▸ h')
  · exact .inr ⟨h1.trans h3, by omega⟩
theorem bef_tri (a b : Entry) : Bef a b ∨ (a.Key = b.Key ∧ a.Seq = b.Seq) ∨ Bef b a := by
  rcases slt_tri (s := a.Key) (t := b.Key) with h | h | h
  · exact .inl (.inl h)
  · rcases Int.lt_trichotomy a.Seq b.Seq with h' | h' | h'
    · exact .inr (.inr (.inr ⟨h.symm, h'⟩))
    · exact .inr (.inl ⟨h, h'⟩)
    · exact .inl (.inr ⟨h, h'⟩)
  · exact .inr (.inr (.inl h))
theorem bef_of_not {a b c : Entry} (h : Bef a b) (h' : ¬ Bef c b) : Bef a c := by
  rcases bef_tri b c with h1 | ⟨h1, h2⟩ | h1
  · exact bef_trans h h1
  · unfold Bef at h ⊢; rw [← h1, ← h2]; exact h
  · exact absurd h1 h'
structure Fro where
  ch : Nat
  fb : Nat
  e : Entry
  more : Bool
  rem : List Entry
def rFro : Rd Fro := fun _ c f => c = [.pointer (some ⟨f.fb, 0, none⟩)]
instance : RdOk rFro 1 := ⟨fun h => by rw [show _ = _ from h]; rfl, fun h => by rw [show _ = _ from h]; rfl, fun _ h => h⟩
instance : RdFlat rFro := ⟨fun h => h⟩
instance : R1 rFro (fun f => .pointer (some ⟨f.fb, 0, none⟩)) (fun _ => True) := ⟨fun h => ⟨h, trivial⟩⟩
abbrev frP (f : Fro) : HProp := row f.fb 66 (cvF f.ch f.e f.more)
def LeastP (fs : List Fro) (i : Nat) : Option Nat → Prop
  | none => ∀ j (h : j < fs.length), j < i → fs[j].more = false
  | some k => ∃ hk : k < fs.length, k < i ∧ fs[k].more = true ∧ (∀ j (h : j < fs.length), j < k → fs[j].more = true → Bef fs[k].e fs[j].e) ∧ ∀ j (h : j < fs.length), j < i → fs[j].more = true → ¬ Bef fs[j].e fs[k].e
def ptrF (fs : List Fro) : Option Nat → Value
  | none => .pointer none
  | some k => match fs[k]? with | some f => .pointer (some ⟨f.fb, 0, none⟩) | none => .pointer none
theorem bigL_rows {fs : List Fro} {D : Heap} (h : bigL frP fs D) : ∀ k (hk : k < fs.length), HRow D fs[k].fb 0 (cvF fs[k].ch fs[k].e fs[k].more) := by
  induction fs generalizing D with
  | nil => intro k hk; cases hk
  | cons f fs ih =>
    obtain ⟨h1, h2, a, b, _, l1, l2⟩ := h
    intro k hk
    cases k with
    | zero => exact row_reads a l1
    | succ k => exact (ih b k (by simpa using hk)).mono l2
theorem rowE {H : Heap} {fb ch : Nat} {e : Entry} {m : Bool} (h : HRow H fb 0 (cvF ch e m)) : HRow H fb 1 e.cv := fun j v hj => by
  have hlt : j < e.cv.length := (List.getElem?_eq_some_iff.1 hj).1
  have := h (j + 1) v (by rw [List.getElem?_cons_succ, List.getElem?_append_left hlt]; exact hj)
  rwa [show 0 + (j + 1) = 1 + j by omega] at this
theorem least_spec {W0 : GW} {H HS : Heap} {s : Value} {fs : List Fro} : Ct Try.prog 29 #[s] W0 H [ownS rFro 1 8 63 HS s fs, bigL frP fs] (fun r H' B => (∃ o, r = ptrF fs o ∧ LeastP fs fs.length o) ∧ B = [ownS rFro 1 8 63 HS s fs, bigL frP fs] ∧ H' = H) := by
  refine Ct.go (vs := [_]) fun R => ?_
  refine ex_lend .here fun D1 o1 d1 l1 l1' => ?_
  refine ex_lend .here fun D2 o2 d2 l2 l2' => ?_
  have hs : SlR rFro 1 (union H D1) s fs := (ownS_reads (ownS_flat (H' := Heap.empty) o1) (empty_le _) l1').1
  replace hs := hs.mono l2
  have hr := fun k hk => (bigL_rows o2 k hk).mono l2'
  obtain ⟨b0, c0, rfl, hc0, hd0⟩ := hs.shape
  have hend : ∀ (F : Slots) (o : Option Nat), fget F 2 = some (ptrF fs o) → LeastP fs fs.length o → Out Try.prog ⟨34, []⟩ W0 (bodyPostV Try.prog Try.f29 (RetOk W0 H (fun r H' B => (∃ o, r = ptrF fs o ∧ LeastP fs fs.length o) ∧ B = [ownS rFro 1 8 63 HS (.slice b0 fs.length c0) fs, bigL frP fs] ∧ H' = H) R)) F (union (union H D1) D2) R .ret [] := fun F o h1 h2 => by
    refine out_back o2 d2 (.refl _) (out_back o1 d1 (.refl _) ?_)
    refine finB [_, _] ?_ (hr := .tmp h1 .nil)
    exact ⟨⟨o, rfl, h2⟩, rfl, rfl⟩
  refine walk ?_
  refine ex_loop (fun s : Nat × Option Nat => s.1 ≤ fs.length ∧ LeastP fs s.1 s.2) (fun s => [(8, .int .i64 s.1), (7, .int .i64 fs.length), (6, .slice b0 fs.length c0), (3, ptrF fs s.2)]) (fun _ => union (union H D1) D2) (fun _ => R) (fun s => fs.length - s.1) (0, none) ⟨Nat.zero_le _, fun j h hj => by omega⟩ fun ⟨i, o⟩ ⟨hi, hI⟩ K hK => ?_
  simp only at hi hI
  by_cases hlt : i < fs.length
  · refine walk ?_
    dsimp only
    have hri := hr i hlt
    refine ops_ldH (i := 5) rfl rfl hri rfl rfl ?_
    cases hm : fs[i].more with
    | false =>
      refine walk ?_
      refine out_next hK (i + 1, o) ⟨hlt, ?_⟩
      cases o with
      | none =>
        intro j h hj
        by_cases e : j = i
        · subst e; exact hm
        · exact hI j h (by simp only at hj; omega)
      | some k =>
        obtain ⟨hk, a1, a2, a3, a4⟩ := hI
        refine ⟨hk, by simp only; omega, a2, a3, fun j h hj hmj => ?_⟩
        by_cases e : j = i
        · subst e; rw [hm] at hmj; cases hmj
        · exact a4 j h (by simp only at hj; omega) hmj
    | true =>
      cases o with
      | none =>
        simp only [ptrF]
        refine walk ?_
        refine out_next hK (i + 1, some i) ⟨hlt, hlt, by simp only; omega, hm, fun j h hj hmj => ?_, fun j h hj hmj => ?_⟩ (hf := ?_)
        · rw [hI j h hj] at hmj; cases hmj
        · by_cases e : j = i
          · subst e; exact bef_irr
          · rw [hI j h (by simp only at hj; omega)] at hmj; cases hmj
        · simp only [ptrF, List.getElem?_eq_getElem hlt]
          repeat (first | exact fsub_nil _ | refine fsub_cons rfl ?_)
      | some k =>
        obtain ⟨hk, a1, a2, a3, a4⟩ := hI
        simp only [ptrF, List.getElem?_eq_getElem hk]
        refine walk ?_
        refine ops_ldNH rfl rfl (rowE hri) rfl ?_
        refine walk ?_
        refine ops_ldNH rfl rfl (rowE (hr k hk)) rfl ?_
        refine ops_pcall rfl rfl before_spec ?_
        refine walk ?_
        refine ex_if rfl (fun h => ?_) (fun h => ?_)
        · refine walk ?_
          refine out_next hK (i + 1, some i) ⟨hlt, hlt, by simp only; omega, hm, fun j h' hj hmj => ?_, fun j h' hj hmj => ?_⟩ (hf := ?_)
          · exact bef_of_not h (a4 j h' hj hmj)
          · by_cases e : j = i
            · subst e; exact bef_irr
            · intro hb
              exact a4 j h' (by simp only at hj; omega) hmj (bef_trans hb h)
          · simp only [ptrF, List.getElem?_eq_getElem hlt]
            repeat (first | exact fsub_nil _ | refine fsub_cons rfl ?_)
        · refine walk ?_
          refine out_next hK (i + 1, some k) ⟨hlt, hk, by simp only; omega, a2, a3, fun j h' hj hmj => ?_⟩ (hf := ?_)
          · by_cases e : j = i
            · subst e; exact h
            · exact a4 j h' (by simp only at hj; omega) hmj
          · simp only [ptrF, List.getElem?_eq_getElem hk]
            repeat (first | exact fsub_nil _ | refine fsub_cons rfl ?_)
  · refine walk ?_
    have e : i = fs.length := by omega
    subst e
    exact hend _ o rfl hI
end Go.Proofs.Ytjkiioicjmaeoaa
