/- The fixed fact: a transaction of two nodes goes its way to its end. -/
import Derived.Test.YtpphdbnifbjfmaaGreatDoorJE48
import Derived.Test.YtpphdbnifbjfmaaGreatDoorJLS
import Derived.Test.YtpphdbnifbjfmaaGreatDoorJXL
import Derived.Test.YtpphdbnifbjfmaaGreatDoorJYA
import Derived.Test.YtpphdbnifbjfmaaGreatDoorJYM
set_option linter.unusedVariables false
set_option linter.unusedSimpArgs false
namespace Go.Proofs.YtpphdbnifbjfmaaGreatDoor
open Go Go.Sx Go.Proofs
def kaW : ByteArray := ⟨#[97]⟩
def kbW : ByteArray := ⟨#[98]⟩
def aW : Work := ⟨1, [kaW], []⟩
def bW : Work := ⟨1, [kbW], []⟩
def xW : Txn := ⟨0, 1, 1⟩
def nd0 (i : Int) : PS := ⟨i, ⟨[], [], []⟩, []⟩
def nd1 (i : Int) (w : Work) (d : List Value) : PS := ⟨i, prepT ⟨[], [], []⟩ xW w d, []⟩
def tW (c1 c2 : List Value) : TX := beganT 0 [((0 : Int), (c1, aW)), (1, (c2, bW))]
def cW (t : TX) : CS := ⟨0, 1, 1, [((0, 1, 1), t)]⟩
def cN (i : Int) : CS := ⟨i, 1, 0, []⟩
def voteW (i : Int) : Message := { zMessage with From := i, To := 0, Kind := 2, Txn := xW, Yes := true }
def recV (w : Work) : Rec := ⟨2, xW, w, false, []⟩
theorem prW {w : Work} (hw : w = aW ∨ w = bW) : prepE ⟨[], [], []⟩ xW w = 0 := by
  unfold prepE
  rcases hw with rfl | rfl
  · rw [if_neg (by decide), if_neg (by rw [dupT_iff]; decide), if_pos (by decide)]
  · rw [if_neg (by decide), if_neg (by rw [dupT_iff]; decide), if_pos (by decide)]
theorem hearW {i : Int} {w : Work} {d : List Value} (hw : w = aW ∨ w = bW) : hearOut (nd0 i) (prepM 0 xW i w) = [voteW i] ∧ hearRec (nd0 i) (prepM 0 xW i w) = [recV w] ∧ hearS (nd0 i) (prepM 0 xW i w) d = nd1 i w d := by
  have hf : ¬ ¬ forMe (nd0 i) (prepM 0 xW i w) := fun h => h ⟨rfl, rfl⟩
  have h1 : (prepM 0 xW i w).Kind = 1 := rfl
  have hd : ¬ isD (nd0 i) (prepM 0 xW i w).Txn := by unfold isD; simp [nd0, mget]
  have hp : ¬ isP (nd0 i) (prepM 0 xW i w).Txn := by unfold isP; simp [nd0, mget]
  have h0 : prepE (nd0 i).t (prepM 0 xW i w).Txn (prepM 0 xW i w).Work = 0 := prW hw
  refine ⟨?_, ?_, ?_⟩
  · unfold hearOut
    rw [if_neg hf, if_pos h1, if_neg hd, decide_eq_true (p := _ ∨ _) (.inr h0)]; rfl
  · unfold hearRec
    rw [if_neg hf, if_pos h1, if_neg hd, if_neg hp, if_pos h0]; rfl
  · unfold hearS
    rw [if_neg hf, if_pos h1, if_neg hd, if_neg hp, if_pos h0]; rfl
theorem dl0 {n : Nat} {w w' : PW} {m : Message} {l : List Message} {e : Int} {works : List Work} (hn : w.net = m :: l) (h : PPlay n w 2 0 works w' e) : e = 0 ∧ ∃ w1 out, PHear { w with net := l } m w1 out ∧ w' = { w1 with net := sendL w1.net out } := by
  have hin : inN w.net 0 := by unfold inN; rw [hn, List.length_cons]; omega
  cases h with
  | bad h => exact absurd (.inr (.inr (.inr (.inl rfl)))) h
  | begin hk => omega
  | none hk h => exact absurd hin h
  | deliver hk j ha h w1 out hh =>
    obtain rfl : j = 0 := by omega
    have e1 : delM w.net 0 = l := by rw [hn]; rfl
    have e2 : w.net[0] = m := by simp only [hn]; rfl
    rw [e1, e2] at hh
    exact ⟨rfl, w1, out, hh, rfl⟩
  | fail hk => omega
  | drop hk => omega
  | copy hk => omega
  | full hk => omega
  | step hk => omega
  | tick hk => omega
  | crash hk => omega
theorem bg0 {n : Nat} {w' : PW} {e : Int} (h : PPlay n (newW 2) 1 0 [aW, bW] w' e) : e = 0 ∧ ∃ c1 c2, w' = ⟨[⟨nd0 0, cW (tW c1 c2)⟩, ⟨nd0 1, cN 1⟩], [prepM 0 xW 0 aW, prepM 0 xW 1 bW], 0, []⟩ := by
  have hl : (newW 2).ns.length = 2 := rfl
  cases h with
  | bad h => exact absurd (.inl ⟨rfl, ⟨Int.le_refl _, by rw [hl]; decide⟩, by rw [hl]; decide⟩) h
  | begin hk i ha h hn ws hw =>
    obtain rfl : i = 0 := by omega
    have hw2 : pq ws = [((0 : Int), aW), (1, bW)] := hw
    match ws, hw2 with
    | [(a, (c1, w1)), (b, (c2, w2))], h =>
      simp only [pq, List.map_cons, List.map_nil, List.cons.injEq, Prod.mk.injEq, and_true] at h
      obtain ⟨⟨rfl, rfl⟩, rfl, rfl⟩ := h
      exact ⟨rfl, c1, c2, rfl⟩
    | [], h => simp [pq] at h
    | [_], h => simp [pq] at h
    | _ :: _ :: _ :: _, h => simp [pq] at h
  | none hk => omega
  | deliver hk => omega
  | fail hk => omega
  | drop hk => omega
  | copy hk => omega
  | full hk => omega
  | step hk => omega
  | tick hk => omega
  | crash hk => omega
theorem hp0 {w w' : PW} {m : Message} {out : List Message} (k : toPart m) {i : Nat} (hm : m.To = i) (hi : i < w.ns.length) (h : PHear w m w' out) : ∃ cs, w' = { setN w i ⟨hearS w.ns[i].ps m cs, w.ns[i].cs⟩ with log := w.log ++ noteL m.To (hearRec w.ns[i].ps m) } ∧ out = hearOut w.ns[i].ps m := by
  cases h with
  | part k' j hj h cs =>
    obtain rfl : j = i := by omega
    exact ⟨cs, rfl, rfl⟩
  | coord k' => exact absurd k k'
theorem hc0 {w w' : PW} {m : Message} {out : List Message} (k : ¬ toPart m) {i : Nat} (hm : m.To = i) (hi : i < w.ns.length) (h : PHear w m w' out) : w' = { setN w i ⟨w.ns[i].ps, (cHear w.ns[i].cs m).s⟩ with log := w.log ++ noteL m.To (cHear w.ns[i].cs m).rc } ∧ out = (cHear w.ns[i].cs m).out := by
  cases h with
  | part k' => exact absurd k' k
  | coord k' j hj h =>
    obtain rfl : j = i := by omega
    exact ⟨rfl, rfl⟩
def W1 (t : TX) : PW := ⟨[⟨nd0 0, cW t⟩, ⟨nd0 1, cN 1⟩], [prepM 0 xW 0 aW, prepM 0 xW 1 bW], 0, []⟩
def W2 (t : TX) (d : List Value) : PW := ⟨[⟨nd1 0 aW d, cW t⟩, ⟨nd0 1, cN 1⟩], [prepM 0 xW 1 bW, voteW 0], 0, [⟨0, recV aW⟩]⟩
def W3 (t : TX) (d d' : List Value) : PW := ⟨[⟨nd1 0 aW d, cW t⟩, ⟨nd1 1 bW d', cN 1⟩], [voteW 0, voteW 1], 0, [⟨0, recV aW⟩, ⟨1, recV bW⟩]⟩
def W4 (t : TX) (d d' : List Value) : PW := ⟨[⟨nd1 0 aW d, cW (hear1 t 0)⟩, ⟨nd1 1 bW d', cN 1⟩], [voteW 1], 0, [⟨0, recV aW⟩, ⟨1, recV bW⟩]⟩
def W5 (t : TX) (d d' : List Value) : PW := ⟨[⟨nd1 0 aW d, cW (openT t)⟩, ⟨nd1 1 bW d', cN 1⟩], [decM 0 xW 0 true, decM 0 xW 1 true], 0, [⟨0, recV aW⟩, ⟨1, recV bW⟩, ⟨0, recC xW [0, 1]⟩]⟩
theorem dl1 {n : Nat} {t : TX} {w' : PW} {e : Int} {works : List Work} (h : PPlay n (W1 t) 2 0 works w' e) : e = 0 ∧ ∃ d, w' = W2 t d := by
  obtain ⟨he, w1, out, hh, rfl⟩ := dl0 (w := W1 t) rfl h
  obtain ⟨d, rfl, rfl⟩ := hp0 (.inl rfl) (i := 0) rfl (show _ < 2 by decide) hh
  obtain ⟨h1, h2, h3⟩ := hearW (i := 0) (d := d) (.inl rfl)
  refine ⟨he, d, ?_⟩
  show PW.mk [⟨hearS (nd0 0) (prepM 0 xW 0 aW) d, cW t⟩, ⟨nd0 1, cN 1⟩] (sendL [prepM 0 xW 1 bW] (hearOut (nd0 0) (prepM 0 xW 0 aW))) 0 ([] ++ noteL 0 (hearRec (nd0 0) (prepM 0 xW 0 aW))) = _
  rw [h1, h2, h3]
  rfl
theorem dl2 {n : Nat} {t : TX} {d : List Value} {w' : PW} {e : Int} {works : List Work} (h : PPlay n (W2 t d) 2 0 works w' e) : e = 0 ∧ ∃ d', w' = W3 t d d' := by
  obtain ⟨he, w1, out, hh, rfl⟩ := dl0 (w := W2 t d) rfl h
  obtain ⟨d', rfl, rfl⟩ := hp0 (.inl rfl) (i := 1) rfl (show _ < 2 by decide) hh
  obtain ⟨h1, h2, h3⟩ := hearW (i := 1) (d := d') (.inr rfl)
  refine ⟨he, d', ?_⟩
  show PW.mk [⟨nd1 0 aW d, cW t⟩, ⟨hearS (nd0 1) (prepM 0 xW 1 bW) d', cN 1⟩] (sendL [voteW 0] (hearOut (nd0 1) (prepM 0 xW 1 bW))) 0 ([⟨0, recV aW⟩] ++ noteL 1 (hearRec (nd0 1) (prepM 0 xW 1 bW))) = _
  rw [h1, h2, h3]
  rfl
theorem dl3 {n : Nat} {c1 c2 d d' : List Value} {w' : PW} {e : Int} {works : List Work} (h : PPlay n (W3 (tW c1 c2) d d') 2 0 works w' e) : e = 0 ∧ w' = W4 (tW c1 c2) d d' := by
  obtain ⟨he, w1, out, hh, rfl⟩ := dl0 (w := W3 (tW c1 c2) d d') rfl h
  obtain ⟨rfl, rfl⟩ := hc0 (by decide) (i := 0) rfl (show _ < 2 by decide) hh
  exact ⟨he, rfl⟩
theorem dl4 {n : Nat} {c1 c2 d d' : List Value} {w' : PW} {e : Int} {works : List Work} (h : PPlay n (W4 (tW c1 c2) d d') 2 0 works w' e) : e = 0 ∧ w' = W5 (tW c1 c2) d d' := by
  obtain ⟨he, w1, out, hh, rfl⟩ := dl0 (w := W4 (tW c1 c2) d d') rfl h
  obtain ⟨rfl, rfl⟩ := hc0 (by decide) (i := 0) rfl (show _ < 2 by decide) hh
  exact ⟨he, rfl⟩
def mvA : List Move := [⟨1, 0, [aW, bW]⟩, ⟨2, 0, []⟩, ⟨2, 0, []⟩, ⟨2, 0, []⟩, ⟨2, 0, []⟩]
theorem aW_ok : OkW aW ∧ OkW bW := by
  have h1 : fits (1 : Int) := by unfold fits; omega
  exact ⟨⟨by decide, by decide, h1, by decide⟩, ⟨by decide, by decide, h1, by decide⟩⟩
theorem mvA_ok {j : Nat} (hj : j < mvA.length) : ∀ x ∈ mvA[j].Works, OkW x := by
  have h : ∀ m ∈ mvA, ∀ x ∈ m.Works, OkW x := fun m hm x hx => by
    simp only [mvA, List.mem_cons, List.not_mem_nil, or_false] at hm
    rcases hm with rfl | rfl | rfl | rfl | rfl
    · simp only [List.mem_cons, List.not_mem_nil, or_false] at hx
      rcases hx with rfl | rfl
      · exact aW_ok.1
      · exact aW_ok.2
    all_goals cases hx
  exact h _ (List.getElem_mem hj)
end Go.Proofs.YtpphdbnifbjfmaaGreatDoor
set_option linter.unusedVariables false
set_option linter.unusedSimpArgs false
namespace Go.Sx
open Go
theorem setRow (base : Nat) : ∀ (l : List Value) (i : Nat) (arr : List Value), base + i + l.length ≤ arr.length → (l.zipIdx i).foldl (fun (cs : Array Value) (p : Value × Nat) => cs.setIfInBounds (base + p.2) p.1) arr.toArray = (arr.take (base + i) ++ l ++ arr.drop (base + i + l.length)).toArray
  | [], i, arr, _ => by simp
  | c :: l, i, arr, hl => by
    simp only [List.length_cons] at hl
    simp only [List.zipIdx_cons, List.foldl_cons, List.setIfInBounds_toArray]
    rw [setRow base l (i + 1) (arr.set (base + i) c) (by simp; omega)]
    congr 1
    rw [List.drop_set_of_lt (by omega), show base + (i + 1) = base + i + 1 by omega]
    have e1 : (arr.set (base + i) c).take (base + i + 1) = arr.take (base + i) ++ [c] := by
      rw [List.take_add_one, List.getElem?_set_self (by omega), List.take_set_of_le (by omega)]; simp
    rw [e1]
    simp only [List.length_cons, List.append_assoc, List.singleton_append, List.cons_append, List.nil_append]
    rw [show base + i + 1 + l.length = base + i + (l.length + 1) by omega]
def CLs (sz : Nat) : List Value → List (List Value) → Prop
  | [], [] => True
  | v :: vs, cs :: css => (v.cells = cs.toArray ∧ cs.length = sz) ∧ CLs sz vs css
  | _, _ => False
theorem fillM (sz : Nat) : ∀ (vs : List Value) (css : List (List Value)) (i : Nat) (arr : List Value), CLs sz vs css → i * sz + vs.length * sz ≤ arr.length → Instr.fill (fun i => some (i * sz, sz)) arr.toArray ((vs.zipIdx i).map fun p => (p.2, p.1)) = some (arr.take (i * sz) ++ css.flatten ++ arr.drop (i * sz + vs.length * sz)).toArray
  | [], [], i, arr, _, _ => by simp [Instr.fill]
  | [], _ :: _, _, _, h, _ => h.elim
  | _ :: _, [], _, _, h, _ => h.elim
  | v :: vs, cs :: css, i, arr, ⟨⟨hc, hl⟩, h⟩, hle => by
    simp only [List.length_cons, Nat.succ_mul] at hle
    simp only [List.zipIdx_cons, List.map_cons, Instr.fill, hc]
    rw [if_neg (by simp; omega)]
    have hs := setRow (i * sz) cs 0 arr (by omega)
    simp only [Nat.add_zero] at hs
    have e0 : (cs.toArray : Array Value).zipIdx.foldl (fun (a : Array Value) (x : Value × Nat) => match x with | (c, j) => a.setIfInBounds (i * sz + j) c) arr.toArray = (cs.zipIdx 0).foldl (fun (a : Array Value) (p : Value × Nat) => a.setIfInBounds (i * sz + p.2) p.1) arr.toArray := by
      simp
    rw [e0, hs]
    have hlen : (arr.take (i * sz) ++ cs ++ arr.drop (i * sz + cs.length)).length = arr.length := by simp; omega
    rw [fillM sz vs css (i + 1) _ h (by rw [hlen, Nat.succ_mul]; omega)]
    congr 2
    have t1 : (arr.take (i * sz)).length = i * sz := by simp; omega
    rw [Nat.succ_mul]
    have e1 : (arr.take (i * sz) ++ cs ++ arr.drop (i * sz + cs.length)).take (i * sz + sz) = arr.take (i * sz) ++ cs := by
      rw [List.take_append_of_le_length (by simp; omega), List.take_of_length_le (by simp; omega)]
    have e2 : (arr.take (i * sz) ++ cs ++ arr.drop (i * sz + cs.length)).drop (i * sz + sz + vs.length * sz) = arr.drop (i * sz + (vs.length * sz + sz)) := by
      rw [List.drop_append, List.drop_eq_nil_of_le (by simp; omega), List.nil_append, List.drop_drop]
      congr 1
      simp only [List.length_append, t1, hl]
      omega
    rw [e1, e2]
    simp [Nat.succ_mul]
section
variable {P : Program} {n : Nat} {W0 : World} {F : Slots} {H : Heap} {L : List HProp} {K : Value → Heap → List HProp → Prop} {dst : Option Tmp} {ty : TypeId} {pos : String} {aft : Array Edge} {g : Option (Nat × Bool)}
theorem op_bsM {t e : TypeId} {z : Value} {m sz : Nat} {ps : List (Nat × Operand)} {vs : List Value} (css : List (List Value)) [hT : TSl P t e] [hS' : TSz P e sz] [hZ : TZ P e z] (hx : partsC F 0 ps = some vs) (h1 : CLs sz vs css) (hm : vs.length = m) (hz : z.cells.size = sz) (h0 : (Nat.blt 0 (m * sz) && Nat.ble (m * sz) 1000) = true)
    (hk : ∀ b, H b = none → K (.slice (some ⟨b, 0, none⟩) m m) H (row b e css.flatten :: L)) : OpW P n W0 ⟨dst, .buildSlice t m ps.toArray, ty, pos, aft, g⟩ F H L K :=
  .of_run fun a w hF hS => by
    have hs : St W0 H (w.alloc (.cells css.flatten.toArray e)) (row w.heap.size e css.flatten :: L) := hS.alloc (hS.env.of rfl rfl rfl) rfl
    refine ⟨_, H, _, _, ?_, .refl _, hk _ hs.ptRead.2, hs⟩
    have h0 : 0 < m * sz ∧ m * sz ≤ 1000 := by simpa using h0
    have hsz : sz ≠ 0 := fun h => by subst h; simp at h0
    have hmz : m ≠ 0 := fun h => by subst h; simp at h0
    have hms : m * sz ≠ 0 := by omega
    have hm1 : m ≤ m * sz := Nat.le_mul_of_pos_right _ (by omega)
    have hfill := fillM sz vs css 0 ((List.range (m * sz)).map (fun i => z.cells[i % z.cells.size]!)) h1 (by simp [hm])
    have hd : ((List.range (m * sz)).map (fun i => z.cells[i % z.cells.size]!)).drop (0 * sz + vs.length * sz) = [] := List.drop_eq_nil_of_le (by simp [hm])
    rw [hd] at hfill
    simp only [Nat.zero_mul, List.take_zero, List.nil_append, List.append_nil] at hfill
    have e2 : ((Array.range (m * sz)).map (fun i => z.cells[i % z.cells.size]!)) = ((List.range (m * sz)).map (fun i => z.cells[i % z.cells.size]!)).toArray := by
      apply Array.ext'; simp [Array.toList_range]
    rw [← e2] at hfill
    have hp := partsC_eval hF hx
    have hp3 : (ps.map fun x => (x.1, a.eval x.2)) = (vs.zipIdx 0).map fun p => (p.2, p.1) := hp
    simp only [execOp]
    simp [Instr.buildSlice, run_underlying hT.und, hS'.run, hmz, hsz, hZ.run, newRow]
    rw [if_neg (by omega)]
    simp only [hp3, hfill]
    simp [hms]
    try exact fun h => absurd h hms
end
section
variable {P : Program} {n : Nat} {W0 : World} {Q : Exit → Act → World → Prop} {F : Slots} {H : Heap} {L : List HProp} {ops : Array Oper} {rest : List Oper} {k : List Fr} {ty : TypeId} {pos : String} {aft : Array Edge} {d : Tmp} {g : Option (Nat × Bool)} {gv : Option (Value × Bool)} {t e : TypeId} {z : Value} {ml sz : Nat} {ps : List (Nat × Operand)} {vs : List Value}
theorem ops_bsM (css : List (List Value)) [hT : TSl P t e] [hS' : TSz P e sz] [hZ : TZ P e z] (hg : gval ops F g = some gv) [hb : GOk gv true] (hx : partsC F 0 ps = some vs) (h1 : CLs sz vs css) (hk : ∀ b, H b = none → Ops P n W0 Q ((d, .slice (some ⟨b, 0, none⟩) ml ml) :: F) H (row b e css.flatten :: L) false ops rest k)
    (hm : vs.length = ml := by rfl) (hz : z.cells.size = sz := by rfl) (h0 : (Nat.blt 0 (ml * sz) && Nat.ble (ml * sz) 1000) = true := by rfl) (hd : Nat.blt d n = true := by rfl) : Ops P n W0 Q F H L false ops (⟨some d, .buildSlice t ml ps.toArray, ty, pos, aft, g⟩ :: rest) k :=
  ops_w hg hd (op_bsM css hx h1 hm hz h0 hk)
end
end Go.Sx
namespace Go.Proofs.YtpphdbnifbjfmaaGreatDoor
open Go Go.Sx Go.Proofs
theorem world_up {H H' : Heap} {p : Nat} {w : PW} {L : List HProp} (hl : H.le H') : Sub (worldO H p w :: L) (worldO H' p w :: L) := fun h ⟨h1, h2, ⟨nv, nb, lv, es, hb, hn⟩, r⟩ => by
  have := world_shut (L := []) (H' := H') hn hl hl hl hl h1 hb
  obtain ⟨g1, g2, a, _, _, l1, l2⟩ := this
  obtain ⟨nv', nb', lv', es', hb', hn'⟩ := a
  exact ⟨h1, h2, ⟨nv', nb', lv', es', Go.Sx.big_mono l1 hb', hn'⟩, r⟩
theorem Agr.at {l : List PactNote} (h : Agr l) {i : Nat} (hi : i < l.length) (hk : l[i].Rec.Kind = 3) (hf : firstN (l.take i) l[i]) : (l[i].Rec.Yes = true → com (l.take i) l[i].Rec.Txn) ∧ (l[i].Rec.Yes = false → ¬ com l l[i].Rec.Txn) :=
  h (l.take i) l[i] (l.drop (i + 1)) (by rw [← List.drop_eq_getElem_cons hi, List.take_append_drop]) hk hf
end Go.Proofs.YtpphdbnifbjfmaaGreatDoor
namespace Go.Proofs.YtpphdbnifbjfmaaGreatDoor
open Go Go.Sx Go.Proofs
open Go Go.Sx Go.Proofs
open Go Go.Sx Go.Proofs
end Go.Proofs.YtpphdbnifbjfmaaGreatDoor
namespace Go.Proofs.YtpphdbnifbjfmaaGreatDoor
open Go Go.Sx Go.Proofs
inductive Steps (m : Nat) (w : PW) : Nat → PW → Prop
  | nil : Steps m w 0 w
  | more {j : Nat} {w' w'' : PW} {e : Int} (h : Steps m w j w') (hp : PPlay m w' 5 j [] w'' e) : Steps m w (j + 1) w''
theorem Steps.round {m : Nat} {w w1 w4 w' : PW} {e1 : Int} (h1 : PPlay m w 6 8 [] w1 e1) (h : Steps m w1 3 w4) {j : Nat} (hd : Dels m w4 j w') (he : j = 2000 ∨ w'.net = []) : RoundR m w w' := by
  cases h with
  | more h c =>
    cases h with
    | more h b =>
      cases h with
      | more h a =>
        cases h
        exact ⟨_, _, _, _, _, _, _, _, h1, a, b, c, j, hd, he⟩
theorem Dels.inv {n K m : Nat} {B : List BT} {w w' : PW} {j : Nat} (I : WInv n K B w) (h : Dels m w j w') : WInv n K B w' ∧ w'.log.length ≤ w.log.length + j := by
  induction h with
  | nil => exact ⟨I, Nat.le_refl _⟩
  | more _ _ hp ih => exact ⟨ih.1.quiet (by decide) hp, by have := hp.log; have := ih.2; omega⟩
theorem WInv.ts {n K : Nat} {B : List BT} {w : PW} (I : WInv n K B w) : ∀ q ∈ w.ns, TsOk q.ps.t := fun q hq => by
  obtain ⟨i, h, rfl⟩ := List.getElem_of_mem hq
  exact (I.N.P i h).t.ok (by have := I.k3; omega)
theorem settledW {n K : Nat} {B : List BT} {w : PW} (I : WInv n K B w) (Q : Quiet w) (h : sayW w = []) (a : Int) : votingW w a = [] ∧ openW w a = [] ∧ prepW w a = [] := by
  unfold votingW openW prepW
  cases hn : nAt w a with
  | none => exact ⟨rfl, rfl, rfl⟩
  | some q =>
    obtain ⟨i, rfl, hi, rfl⟩ := nAt_some.1 hn
    exact settled I Q h hi
noncomputable def nd2 (i : Int) (w : Work) (d : List Value) : PS := ⟨i, applyT (prepT ⟨[], [], []⟩ xW w d) xW true, mset xW.k (untilS (nd1 i w d) xW) []⟩
def ackW (i : Int) : Message := ackM ⟨i, ⟨[], [], []⟩, []⟩ (decM 0 xW i true)
def recY (i : Int) : Rec := recA (decM 0 xW i true)
theorem hearD {i : Int} {w : Work} {d : List Value} : hearOut (nd1 i w d) (decM 0 xW i true) = [ackW i] ∧ hearRec (nd1 i w d) (decM 0 xW i true) = [recY i] ∧ ∀ cs, hearS (nd1 i w d) (decM 0 xW i true) cs = nd2 i w d := by
  have hf : ¬ ¬ forMe (nd1 i w d) (decM 0 xW i true) := fun h => h ⟨rfl, rfl⟩
  have h1 : ¬ (decM 0 xW i true).Kind = 1 := by show ¬ (3 : Int) = 1; omega
  have h3 : (decM 0 xW i true).Kind = 3 := rfl
  have hp : isP (nd1 i w d) (decM 0 xW i true).Txn := rfl
  refine ⟨?_, ?_, fun cs => ?_⟩
  · unfold hearOut
    rw [if_neg hf, if_neg h1, if_pos h3]; rfl
  · unfold hearRec
    rw [if_neg hf, if_neg h1, if_pos h3, if_pos hp]; rfl
  · unfold hearS
    rw [if_neg hf, if_neg h1, if_pos h3, if_pos hp]; rfl
theorem held2 {i : Int} {d : List Value} : (nd2 i aW d).t.held = [(kaW, 1)] ∧ (nd2 i bW d).t.held = [(kbW, 1)] := ⟨rfl, rfl⟩
abbrev logW : List PactNote := [⟨0, recV aW⟩, ⟨1, recV bW⟩, ⟨0, recC xW [0, 1]⟩]
noncomputable def W6 (t : TX) (d d' : List Value) : PW := ⟨[⟨nd2 0 aW d, cW (openT t)⟩, ⟨nd1 1 bW d', cN 1⟩], [decM 0 xW 1 true, ackW 0], 0, logW ++ [⟨0, recY 0⟩]⟩
noncomputable def W7 (t : TX) (d d' : List Value) : PW := ⟨[⟨nd2 0 aW d, cW (openT t)⟩, ⟨nd2 1 bW d', cN 1⟩], [ackW 0, ackW 1], 0, logW ++ [⟨0, recY 0⟩, ⟨1, recY 1⟩]⟩
noncomputable def W8 (t : TX) (d d' : List Value) : PW := ⟨[⟨nd2 0 aW d, cW (hear1 (openT t) 0)⟩, ⟨nd2 1 bW d', cN 1⟩], [ackW 1], 0, logW ++ [⟨0, recY 0⟩, ⟨1, recY 1⟩]⟩
noncomputable def W9 (d d' : List Value) : PW := ⟨[⟨nd2 0 aW d, ⟨0, 1, 1, []⟩⟩, ⟨nd2 1 bW d', cN 1⟩], [], 0, logW ++ [⟨0, recY 0⟩, ⟨1, recY 1⟩, ⟨0, recE xW⟩]⟩
theorem dl5 {n : Nat} {t : TX} {d d' : List Value} {w' : PW} {e : Int} {works : List Work} (h : PPlay n (W5 t d d') 2 0 works w' e) : e = 0 ∧ w' = W6 t d d' := by
  obtain ⟨he, w1, out, hh, rfl⟩ := dl0 (w := W5 t d d') rfl h
  obtain ⟨cs, rfl, rfl⟩ := hp0 (.inr rfl) (i := 0) rfl (show _ < 2 by decide) hh
  obtain ⟨h1, h2, h3⟩ := hearD (i := 0) (w := aW) (d := d)
  refine ⟨he, ?_⟩
  show PW.mk [⟨hearS (nd1 0 aW d) (decM 0 xW 0 true) cs, cW (openT t)⟩, ⟨nd1 1 bW d', cN 1⟩] (sendL [decM 0 xW 1 true] (hearOut (nd1 0 aW d) (decM 0 xW 0 true))) 0 (logW ++ noteL 0 (hearRec (nd1 0 aW d) (decM 0 xW 0 true))) = _
  rw [h1, h2, h3]
  rfl
theorem dl6 {n : Nat} {t : TX} {d d' : List Value} {w' : PW} {e : Int} {works : List Work} (h : PPlay n (W6 t d d') 2 0 works w' e) : e = 0 ∧ w' = W7 t d d' := by
  obtain ⟨he, w1, out, hh, rfl⟩ := dl0 (w := W6 t d d') rfl h
  obtain ⟨cs, rfl, rfl⟩ := hp0 (.inr rfl) (i := 1) rfl (show _ < 2 by decide) hh
  obtain ⟨h1, h2, h3⟩ := hearD (i := 1) (w := bW) (d := d')
  refine ⟨he, ?_⟩
  show PW.mk [⟨nd2 0 aW d, cW (openT t)⟩, ⟨hearS (nd1 1 bW d') (decM 0 xW 1 true) cs, cN 1⟩] (sendL [ackW 0] (hearOut (nd1 1 bW d') (decM 0 xW 1 true))) 0 ((logW ++ [⟨0, recY 0⟩]) ++ noteL 1 (hearRec (nd1 1 bW d') (decM 0 xW 1 true))) = _
  rw [h1, h2, h3]
  rfl
theorem dl7 {n : Nat} {c1 c2 d d' : List Value} {w' : PW} {e : Int} {works : List Work} (h : PPlay n (W7 (tW c1 c2) d d') 2 0 works w' e) : e = 0 ∧ w' = W8 (tW c1 c2) d d' := by
  obtain ⟨he, w1, out, hh, rfl⟩ := dl0 (w := W7 (tW c1 c2) d d') rfl h
  obtain ⟨rfl, rfl⟩ := hc0 (by decide) (i := 0) rfl (show _ < 2 by decide) hh
  exact ⟨he, rfl⟩
theorem dl8 {n : Nat} {c1 c2 d d' : List Value} {w' : PW} {e : Int} {works : List Work} (h : PPlay n (W8 (tW c1 c2) d d') 2 0 works w' e) : e = 0 ∧ w' = W9 d d' := by
  obtain ⟨he, w1, out, hh, rfl⟩ := dl0 (w := W8 (tW c1 c2) d d') rfl h
  obtain ⟨rfl, rfl⟩ := hc0 (by decide) (i := 0) rfl (show _ < 2 by decide) hh
  exact ⟨he, rfl⟩
def AtL : Nat → PW → Prop
  | 0, w => ∃ c1 c2, w = W1 (tW c1 c2)
  | 1, w => ∃ c1 c2 d, w = W2 (tW c1 c2) d
  | 2, w => ∃ c1 c2 d d', w = W3 (tW c1 c2) d d'
  | 3, w => ∃ c1 c2 d d', w = W4 (tW c1 c2) d d'
  | 4, w => ∃ c1 c2 d d', w = W5 (tW c1 c2) d d'
  | 5, w => ∃ c1 c2 d d', w = W6 (tW c1 c2) d d'
  | 6, w => ∃ c1 c2 d d', w = W7 (tW c1 c2) d d'
  | 7, w => ∃ c1 c2 d d', w = W8 (tW c1 c2) d d'
  | _, w => ∃ d d', w = W9 d d'
theorem AtL.next {n j : Nat} {w w' : PW} {e : Int} (h : AtL j w) (hj : j < 8) (hp : PPlay n w 2 0 [] w' e) : e = 0 ∧ AtL (j + 1) w' := by
  match j, h, hj, hp with
  | 0, h, _, hp =>
    obtain ⟨c1, c2, rfl⟩ := h
    obtain ⟨he, d, rfl⟩ := dl1 hp
    exact ⟨he, c1, c2, d, rfl⟩
  | 1, h, _, hp =>
    obtain ⟨c1, c2, d, rfl⟩ := h
    obtain ⟨he, d', rfl⟩ := dl2 hp
    exact ⟨he, c1, c2, d, d', rfl⟩
  | 2, h, _, hp =>
    obtain ⟨c1, c2, d, d', rfl⟩ := h
    obtain ⟨he, rfl⟩ := dl3 hp
    exact ⟨he, c1, c2, d, d', rfl⟩
  | 3, h, _, hp =>
    obtain ⟨c1, c2, d, d', rfl⟩ := h
    obtain ⟨he, rfl⟩ := dl4 hp
    exact ⟨he, c1, c2, d, d', rfl⟩
  | 4, h, _, hp =>
    obtain ⟨c1, c2, d, d', rfl⟩ := h
    obtain ⟨he, rfl⟩ := dl5 hp
    exact ⟨he, c1, c2, d, d', rfl⟩
  | 5, h, _, hp =>
    obtain ⟨c1, c2, d, d', rfl⟩ := h
    obtain ⟨he, rfl⟩ := dl6 hp
    exact ⟨he, c1, c2, d, d', rfl⟩
  | 6, h, _, hp =>
    obtain ⟨c1, c2, d, d', rfl⟩ := h
    obtain ⟨he, rfl⟩ := dl7 hp
    exact ⟨he, c1, c2, d, d', rfl⟩
  | 7, h, _, hp =>
    obtain ⟨c1, c2, d, d', rfl⟩ := h
    obtain ⟨he, rfl⟩ := dl8 hp
    exact ⟨he, d, d', rfl⟩
  | j + 8, _, hj, _ => omega
theorem AtL.more {j : Nat} {w : PW} (h : AtL j w) (hj : j < 8) : 0 < w.net.length := by
  match j, h, hj with
  | 0, h, _ => obtain ⟨c1, c2, rfl⟩ := h; exact Nat.succ_pos _
  | 1, h, _ => obtain ⟨c1, c2, d, rfl⟩ := h; exact Nat.succ_pos _
  | 2, h, _ => obtain ⟨c1, c2, d, d', rfl⟩ := h; exact Nat.succ_pos _
  | 3, h, _ => obtain ⟨c1, c2, d, d', rfl⟩ := h; exact Nat.succ_pos _
  | 4, h, _ => obtain ⟨c1, c2, d, d', rfl⟩ := h; exact Nat.succ_pos _
  | 5, h, _ => obtain ⟨c1, c2, d, d', rfl⟩ := h; exact Nat.succ_pos _
  | 6, h, _ => obtain ⟨c1, c2, d, d', rfl⟩ := h; exact Nat.succ_pos _
  | 7, h, _ => obtain ⟨c1, c2, d, d', rfl⟩ := h; exact Nat.succ_pos _
  | j + 8, _, hj => omega
theorem hold9 {d d' : List Value} : (holdsW (W9 d d') 0).length = 1 ∧ (holdsW (W9 d d') 1).length = 1 := by
  have hl : ∀ (s : TS) (k : ByteArray), s.held = [(k, 1)] → (holdsL s).length = 1 := fun s k h => by
    unfold holdsL
    rw [List.length_map, h]
    rw [sortT_len]; rfl
  exact ⟨hl _ kaW held2.1, hl _ kbW held2.2⟩
set_option maxHeartbeats 16000000 in
set_option maxRecDepth 20000 in
theorem alive_spec {W0 : World} {H : Heap} (hP : PkH H) :
    Ct Tryz.prog 5 #[] W0 H [] (fun r H' B => r = .bool true ∧ B = []) := by
  refine Ct.go (vs := []) fun R => ?_
  have hf1 : fits (1 : Int) := by unfold fits; omega
  have hf2 : fits (2 : Int) := by unfold fits; omega
  refine walk ?_
  refine ops_call rfl rfl (wnew_spec (W0 := W0) (H := H) (nodes := 2)) fun r1 H1 B hl1 hq => ?_
  obtain ⟨h, _⟩ | ⟨n, p, hn, _, er, eB⟩ := hq
  · exact absurd ⟨by decide, by decide⟩ h
  obtain rfl : n = 2 := by omega
  subst er eB
  refine walk ?_
  refine ops_w rfl rfl (op_bs1 rfl rfl rfl fun b9 => ?_)
  refine walk ?_
  refine ops_w rfl rfl (op_bs1 rfl rfl rfl fun b10 => ?_)
  refine walk ?_
  refine ops_L (L' := row b9 9 [.string kaW] :: row b10 9 [.string kbW] :: worldO H1 p (newW 2) :: R) subA ?_
  refine ops_frzR .here fun H2 hl2 hr2 => ?_
  refine ops_frzR .here fun H3 hl3 hr3 => ?_
  have hsa : SlB rStr 1 16 H3 (.slice (some ⟨b9, 0, none⟩) 1 1) [kaW] := ⟨slr_of_hrow (R := rStr) (xs := [kaW]) (hr2.mono hl3) ⟨[.string kaW], [], rfl, ⟨rfl, by decide⟩, rfl⟩ (by simp) (by omega), by decide⟩
  have hsb : SlB rStr 1 16 H3 (.slice (some ⟨b10, 0, none⟩) 1 1) [kbW] := ⟨slr_of_hrow (R := rStr) (xs := [kbW]) hr3 ⟨[.string kbW], [], rfl, ⟨rfl, by decide⟩, rfl⟩ (by simp) (by omega), by decide⟩
  refine ops_bsM (sz := 3) [[I 1, .slice (some ⟨b9, 0, none⟩) 1 1, nilS], [I 1, .slice (some ⟨b10, 0, none⟩) 1 1, nilS]] rfl rfl ⟨⟨rfl, rfl⟩, ⟨rfl, rfl⟩, trivial⟩ (fun pb _ => ?_)
  refine ops_frzR .here fun H4 hl4 hr4 => ?_
  have hwa : rWork H4 [I 1, .slice (some ⟨b9, 0, none⟩) 1 1, nilS] aW := ⟨_, _, rfl, hf1, hsa.mono hl4, SlB.nil⟩
  have hwb : rWork H4 [I 1, .slice (some ⟨b10, 0, none⟩) 1 1, nilS] bW := ⟨_, _, rfl, hf1, hsb.mono hl4, SlB.nil⟩
  have hsw : SlB rWork 3 56 H4 (.slice (some ⟨pb, 0, none⟩) 2 2) [aW, bW] := ⟨slr_of_hrow (R := rWork) (xs := [aW, bW]) hr4 ⟨_, _, rfl, hwa, ⟨_, [], rfl, hwb, rfl⟩⟩ (by simp) (by omega), by decide⟩
  refine ops_L (L' := worldO H4 p (newW 2) :: R) ?_ ?_
  · refine Sub.trans (B := worldO H1 p (newW 2) :: R) subA ?_
    exact world_up (hl2.trans (hl3.trans hl4))
  have hlH : H.le H4 := hl1.trans (hl2.trans (hl3.trans hl4))
  refine walk ?_
  refine ops_call rfl rfl (wplay_spec (W0 := W0) (H := H4) (p := p) (m := ⟨1, 0, [aW, bW]⟩) (hP.mono hlH) (winv0 (n := 2) (by decide)) (by show (0 : Nat) ≤ _; omega) hsw hf1 fits0) fun r2 H5 B hl5 ⟨w1, e1, p1, er, eB⟩ => ?_
  subst er eB
  obtain ⟨he1, c1, c2, hw1⟩ := bg0 p1
  obtain ⟨B1, I1, _⟩ := (winv0 (n := 2) (by decide)).play (by omega) (mvA_ok (j := 0) (by decide)) p1
  have hg1 : w1.log.length ≤ 0 := by rw [hw1]; exact Nat.le_refl _
  refine walk ?_
  refine ex_loop (σ := Nat × PW × Heap) (fun u => (u.1 ≤ 8 ∧ AtL u.1 u.2.1 ∧ (∃ B, WInv 2 (1 + u.1) B u.2.1) ∧ u.2.1.log.length ≤ u.1) ∧ H5.le u.2.2) (fun u => [(1, ptrC p), (3, I u.1)]) (fun u => u.2.2)
    (fun u => worldO u.2.2 p u.2.1 :: R) (fun u => 8 - u.1) (0, w1, H5) ⟨⟨Nat.zero_le _, ⟨c1, c2, hw1⟩, ⟨B1, I1⟩, hg1⟩, .refl _⟩ fun ⟨j, w, HK⟩ ⟨⟨hj0, hA, ⟨B0, I0⟩, hlg⟩, hlK⟩ K hL => ?_
  simp only at hj0 hA I0 hlg hlK
  dsimp only
  have hj30 : (j : Int) < 30 := by omega
  by_cases hj1 : j < 8
  · have hmore := hA.more hj1
    have hx1 : (0 : Int) < (w.net.length : Int) := by omega
    refine walk ?_
    refine ops_call rfl rfl (wflight_spec (W0 := W0) (H := HK) (p := p) (w := w)) fun r3 H3 B hl3 ⟨er, eB, eH⟩ => ?_
    subst er eB eH
    refine walk ?_
    refine ops_call rfl rfl (wplay_spec (W0 := W0) (H := H3) (p := p) (m := ⟨2, 0, []⟩) (hP.mono (hlH.trans (hl5.trans hlK))) I0 (by omega) SlB.nil hf2 fits0) fun r4 H6 B hl6 ⟨w', e, hp, er, eB⟩ => ?_
    subst er eB
    obtain ⟨_, hA'⟩ := hA.next hj1 hp
    obtain ⟨B', I1', _⟩ := I0.play (by omega) (fun x hx => by cases hx) hp
    refine walk ?_
    exact out_next hL (j + 1, w', H6) ⟨⟨by simp only; omega, hA', ⟨B', I1'⟩, by have := hp.log; simp only; omega⟩, hlK.trans hl6⟩
  · obtain rfl : j = 8 := by omega
    clear hL
    have hts := I0.ts
    obtain ⟨d, d', rfl⟩ : ∃ d d', w = W9 d d' := hA
    refine walk ?_
    refine ops_call rfl rfl (wflight_spec (W0 := W0) (H := HK) (p := p) (w := W9 d d')) fun r2 H6 B hl6 ⟨er, eB, eH⟩ => ?_
    subst er eB eH
    rw [show (W9 d d').net.length = 0 from rfl]
    refine walk ?_
    refine ops_call rfl rfl (wholds_spec (W0 := W0) (H := H6) (p := p) (w := W9 d d') (a := 0) hts) fun r5 H7 B hl7 eB => ?_
    subst eB
    refine ops_shape r5 fun d5 e5 e _ _ _ => ?_
    rw [hold9.1] at e
    subst e
    refine walk ?_
    refine ops_call rfl rfl (wholds_spec (W0 := W0) (H := H7) (p := p) (w := W9 d d') (a := 1) hts) fun r6 H8 B hl8 eB => ?_
    subst eB
    refine ops_shape r6 fun d6 e6 e _ _ _ => ?_
    rw [hold9.2] at e
    subst e
    refine walk ?_
    refine ops_call rfl rfl (wlog_spec (W0 := W0) (H := H8) (p := p) (w := W9 d d') (by show 6 * 128 ≤ cap47; decide)) fun r7 H9 B hl9 eB => ?_
    subst eB
    refine ops_shape r7 fun d7 e7 e _ _ _ => ?_
    rw [show (W9 d d').log.length = 6 from rfl] at e
    subst e
    refine walk ?_
    refine fin0 ?_
    exact ⟨rfl, rfl⟩
end Go.Proofs.YtpphdbnifbjfmaaGreatDoor
