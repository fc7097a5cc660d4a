/- The last tick of a prepared transaction's keys. -/
import Derived.Test.YtpphdbnifbjfmaaGreatDoorJLS
import Derived.Test.YtpphdbnifbjfmaaGreatDoorJMR
import Derived.Test.YtpphdbnifbjfmaaGreatDoorJQS
set_option linter.unusedVariables false
set_option linter.unusedSimpArgs false
namespace Go.Proofs.YtpphdbnifbjfmaaGreatDoor
open Go Go.Sx Go.Proofs
abbrev pRow (p tp : Nat) (sh : Int) (db : Nat) : HProp := row p 100 [.pointer (some ⟨tp, 0, none⟩), I sh, .map (some db)]
abbrev dMap (H : Heap) (db : Nat) (s : PS) : HProp := mapO ek3 rInt false H db s.done
def partO (H : Heap) (p : Nat) (s : PS) : HProp := fun h => ∃ tp db, big [pRow p tp s.sh db, tabO H tp s.t, dMap H db s] h
theorem part_fold {H : Heap} {p tp db : Nat} {s : PS} {L : List HProp} : Sub (pRow p tp s.sh db :: tabO H tp s.t :: dMap H db s :: L) (partO H p s :: L) :=
  sub_fold (B := [pRow p tp s.sh db, tabO H tp s.t, dMap H db s]) (Sub.refl _) fun h hb => ⟨tp, db, hb⟩
theorem d_up {H H' : Heap} {db : Nat} {l : List (K3 × Int)} {L : List HProp} (hl : H.le H') : Sub (mapO ek3 rInt false H db l :: L) (mapO ek3 rInt false H' db l :: L) := mapO_up hl
theorem part_up {H H' : Heap} {p : Nat} {s : PS} {L : List HProp} (hl : H.le H') : Sub (partO H p s :: L) (partO H' p s :: L) := fun h ⟨h1, h2, ⟨tp, db, hbig⟩, r⟩ => by
  refine ⟨h1, h2, ⟨tp, db, ?_⟩, r⟩
  obtain ⟨a1, a2, x1, ⟨b1, b2, x2, y2, z2⟩, z1⟩ := hbig
  have k := tab_up (L := [dMap H db s]) hl _ ⟨b1, b2, x2, y2, z2⟩
  obtain ⟨c1, c2, u1, u2, u3⟩ := k
  exact ⟨a1, a2, x1, ⟨c1, c2, u1, (d_up (L := []) hl _ (by exact u2)), u3⟩, z1⟩
theorem part_shut {H1 H2 H' : Heap} {p tp db : Nat} {sh : Int} {t : TS} {d : List (K3 × Int)} {L : List HProp} (h1 : H1.le H') (h2 : H2.le H') : Sub (pRow p tp sh db :: tabO H1 tp t :: mapO ek3 rInt false H2 db d :: L) (partO H' p ⟨sh, t, d⟩ :: L) :=
  Sub.trans (Sub.cons (Sub.trans (tab_up h1) (Sub.cons (d_up h2)))) (part_fold (s := ⟨sh, t, d⟩))
theorem pnew_spec {W0 : World} {H : Heap} {sh : Int} (hsh : fits sh) :
    Ct Tryz.prog 12 #[I sh] W0 H [] (fun r H' B => ∃ p, r = .pointer (some ⟨p, 0, none⟩) ∧ B = [partO H p ⟨sh, ⟨[], [], []⟩, []⟩] ∧ H' = H) := by
  refine Ct.go (vs := [I sh]) fun R => ?_
  refine walk ?_
  refine ops_call (vs := []) rfl rfl new_spec fun r1 H1 B hl1 ⟨tp, er, eB, eH⟩ => ?_
  subst er eB eH
  refine walk ?_
  refine ops_makeMap ek3 rInt false rfl fun db _ => ?_
  refine walk ?_
  refine ops_box rfl rfl fun p _ => ?_
  refine walk ?_
  refine finB [partO H1 p ⟨sh, ⟨[], [], []⟩, []⟩] ?_ (hs := ?_)
  · exact ⟨p, rfl, rfl, rfl⟩
  · refine Sub.trans ?_ (part_fold (tp := tp) (db := db) (s := ⟨sh, ⟨[], [], []⟩, []⟩))
    exact subA
theorem pown_spec {W0 : World} {H : Heap} {c : List Value} {m : Work} (h0 : rWork H c m) :
    Ct Tryz.prog 52 #[.agg c.toArray] W0 H [] (fun r H' B => ∃ cs, r = .agg cs.toArray ∧ rWork H' cs m ∧ B = []) := by
  refine Ct.go fun R => ?_
  obtain ⟨s1, s2, rfl, f1, h1, h2⟩ := h0
  refine walk ?_
  refine ops_box rfl rfl fun p1 _ => ?_
  refine ops_alloc rfl fun p2 _ => ?_
  refine walk ?_
  refine ex_any 7 [row p1 38 (m.cv s1 s2)] ?_
  refine stepY 0 ?_; refine stepY 1 ?_
  refine stepY 3 ?_; refine stepY 4 ?_
  refine any_call 2 rfl rfl (cloneT_spec h1) fun r1 H1 B hl1 ⟨eB, eH⟩ => ?_
  subst eB eH
  refine ⟨subA, ?_⟩
  refine stepY 6 ?_
  refine any_call 5 rfl rfl (cloneT_spec h2) fun r2 H2 B hl2 ⟨eB, eH⟩ => ?_
  subst eB eH
  refine ⟨subA, ?_⟩
  refine any_rest rfl ?_
  refine ops_shape r1 fun d1 e1 e _ _ _ => ?_
  subst e
  refine ops_shape r2 fun d2 e2 e _ _ _ => ?_
  subst e
  refine walk ?_
  refine out_freeze (.slice d1 m.Take.length e1) fun H3 hl3 k1 => ?_
  refine out_freeze (.slice d2 m.Drop.length e2) fun H4 hl4 k2 => ?_
  refine fin0 ?_
  exact ⟨m.cv (.slice d1 m.Take.length e1) (.slice d2 m.Drop.length e2), rfl, ⟨_, _, rfl, f1, k1.mono hl4, k2⟩, rfl⟩
theorem tx_ext {a b : Txn} : a = b ↔ a.Node = b.Node ∧ a.Life = b.Life ∧ a.Count = b.Count := by cases a; cases b; simp
theorem ask_is {W0 : World} {H : Heap} {p : Nat} {x : Txn} : Asks Tryz.prog W0 H rRec 72 [.pointer (some ⟨p, 0, none⟩)] (fun c => .agg c.toArray) [row p 45 [I x.Node, I x.Life, I x.Count]] (fun q => decide (q.Txn = x)) := by
  intro c q hc
  refine Ct.go (vs := [.agg c.toArray, .pointer (some ⟨p, 0, none⟩)]) fun R => ?_
  obtain ⟨s1, s2, s3, rfl, g1, g2, g3, g4, g5, g6, g7, g8⟩ := hc
  obtain ⟨b1, c1, rfl, _, _⟩ := g6.1.shape
  obtain ⟨b2, c2, rfl, _, _⟩ := g7.1.shape
  obtain ⟨b3, c3, rfl, _, _⟩ := g8.1.shape
  obtain ⟨x1, x2, x3⟩ := x
  refine walk ?_
  refine ops_box rfl rfl fun p2 _ => ?_
  refine walk ?_
  refine finB [row p 45 [I x1, I x2, I x3]] ?_
  exact ⟨bdec tx_ext.symm, rfl, rfl⟩
theorem idxRec_spec {W0 : World} {H HS : Heap} {v : Value} {xs : List Rec} {f : FuncId} {cap : List Value} {a : HProp} {p : Rec → Bool} [hf : TFn Tryz.prog f] (hl : HS.le H) (hask : Asks Tryz.prog W0 H rRec f cap (fun c => .agg c.toArray) [a] p) :
    Ct Tryz.prog 91 #[v, .func (.func f) #[] cap.toArray] W0 H [ownS rRec 9 120 48 HS v xs, a]
      (fun r H' B => B = [ownS rRec 9 120 48 HS v xs, a] ∧ H' = H ∧ ∃ j, j ≤ xs.length ∧ (∀ i (h : i < xs.length), i < j → p xs[i] = false) ∧ ((j = xs.length ∧ r = I (-1)) ∨ (∃ h : j < xs.length, p xs[j] = true ∧ r = I j))) := by
  refine Ct.go fun R => ?_
  refine ex_shape v fun base cp e q1 q2 q3 => ?_
  subst e
  refine walk ?_
  refine ex_loop (fun k => k ≤ xs.length ∧ ∀ i (h : i < xs.length), i < k → p xs[i] = false) (fun k => [(0, .slice base xs.length cp), (1, .func (.func f) #[] cap.toArray), (7, I xs.length), (8, I k)]) (fun _ => H) (fun _ => ownS rRec 9 120 48 HS (.slice base xs.length cp) xs :: a :: R) (fun k => xs.length - k) 0 ⟨Nat.zero_le _, fun i _ h => by omega⟩ fun k ⟨hk0, hno⟩ K hL => ?_
  refine walk ?_
  refine ex_if rfl (fun hk => ?_) (fun hk => ?_)
  · have hk1 : k < xs.length := by omega
    refine walk ?_
    refine ops_ixo rfl rfl rfl hk1 fun c hc => ?_
    refine ops_callv rfl rfl rfl (hask c _ (RdOk.mono hl hc)) fun r H' B hl' ⟨er, eB, eH⟩ => ?_
    subst er eB eH
    refine walk ?_
    refine ex_ifb rfl Iff.rfl (fun hp => ?_) (fun hp => ?_)
    · refine walk ?_
      refine finB [ownS rRec 9 120 48 HS (.slice base xs.length cp) xs, a] ?_
      exact ⟨rfl, rfl, k, hk0, hno, .inr ⟨hk1, hp, rfl⟩⟩
    · refine walk ?_
      refine out_next hL (k + 1) ⟨by omega, fun i h hi => ?_⟩
      rcases Nat.lt_or_ge i k with h' | h'
      · exact hno i h h'
      · obtain rfl : i = k := by omega
        simpa using hp
  · refine walk ?_
    refine finB [ownS rRec 9 120 48 HS (.slice base xs.length cp) xs, a] ?_
    exact ⟨rfl, rfl, xs.length, Nat.le_refl _, fun i h hi => hno i h (by omega), .inl ⟨rfl, rfl⟩⟩
theorem isP_mem {s : PS} {x : Txn} (hn : (s.t.works.map (·.1)).Nodup) : isP s x ↔ ∃ q ∈ prepL s.t, q.Txn = x := by
  have hp := prepL_spec hn
  constructor
  · intro h
    obtain ⟨w, hw⟩ := isP_iff.1 h
    exact ⟨recW x w, (hp.mem _).2 ⟨w, hw, rfl⟩, rfl⟩
  · rintro ⟨q, hq, rfl⟩
    obtain ⟨w, hw, _⟩ := (hp.mem q).1 hq
    exact isP_iff.2 ⟨w, hw⟩
theorem contains_spec {W0 : World} {H HS : Heap} {v : Value} {xs : List Rec} {p : Nat} {x : Txn} (hl : HS.le H) :
    Ct Tryz.prog 71 #[v, .func (.func 72) #[] #[.pointer (some ⟨p, 0, none⟩)]] W0 H [ownS rRec 9 120 48 HS v xs, row p 45 [I x.Node, I x.Life, I x.Count]]
      (fun r H' B => r = .bool (decide (∃ q ∈ xs, q.Txn = x)) ∧ B = [ownS rRec 9 120 48 HS v xs, row p 45 [I x.Node, I x.Life, I x.Count]] ∧ H' = H) := by
  refine Ct.go (vs := [v, .func (.func 72) #[] #[.pointer (some ⟨p, 0, none⟩)]]) fun R => ?_
  refine walk ?_
  refine ops_call rfl rfl (idxRec_spec (W0 := W0) (H := H) (HS := HS) (v := v) (xs := xs) hl (ask_is (p := p) (x := x))) fun r1 H1 B hl1 ⟨eB, eH, j, hj, hno, hcase⟩ => ?_
  subst eB eH
  rcases hcase with ⟨rfl, rfl⟩ | ⟨hj1, hpj, rfl⟩
  · refine walk ?_
    refine finB [ownS rRec 9 120 48 HS v xs, row p 45 [I x.Node, I x.Life, I x.Count]] ?_
    refine ⟨?_, rfl, rfl⟩
    rw [decide_eq_false]
    rintro ⟨q, hq, hx⟩
    obtain ⟨i, hi, rfl⟩ := List.getElem_of_mem hq
    have := hno i hi hi
    rw [decide_eq_false_iff_not] at this
    exact this hx
  · have hge : (0 : Int) ≤ (j : Int) := by omega
    refine walk ?_
    refine finB [ownS rRec 9 120 48 HS v xs, row p 45 [I x.Node, I x.Life, I x.Count]] ?_
    refine ⟨?_, rfl, rfl⟩
    rw [decide_eq_true]
    exact ⟨_, List.getElem_mem hj1, of_decide_eq_true hpj⟩
theorem is_spec {W0 : World} {H : Heap} {p : Nat} {s : PS} {x : Txn} (hs : TsOk s.t) (hn : (s.t.works.map (·.1)).Nodup) :
    Ct Tryz.prog 50 #[.pointer (some ⟨p, 0, none⟩), .agg x.cv.toArray] W0 H [partO H p s] (fun r H' B => r = .bool (decide (isP s x)) ∧ B = [partO H' p s]) := by
  refine Ct.go (vs := [.pointer (some ⟨p, 0, none⟩), .agg x.cv.toArray]) fun R => ?_
  rw [decide_eq_decide.2 (isP_mem hn)]
  refine ex_open (A := partO H p s) (σ := Nat × Nat) (B := fun a => [pRow p a.1 (PS.sh s) a.2, tabO H a.1 (PS.t s), dMap H a.2 s]) (p := fun _ => True) (by repeat (first | exact Has.here | apply Has.there)) (fun h ⟨tp, db, hbig⟩ => ⟨(tp, db), trivial, hbig⟩) fun ⟨tp, db⟩ _ => ?_
  dsimp only
  refine walk ?_
  refine ops_box rfl rfl fun p3 _ => ?_
  refine walk ?_
  refine ops_call rfl rfl (prepared_spec (W0 := W0) (H := H) (p := tp) hs) fun r1 H1 B hl1 eB => ?_
  subst eB
  refine walk ?_
  refine ops_call rfl rfl (contains_spec (W0 := W0) (H := H1) (HS := H1) (v := r1) (xs := prepL s.t) (p := p3) (x := x) (.refl _)) fun r2 H2 B hl2 ⟨er, eB, eH⟩ => ?_
  subst er eB eH
  refine walk ?_
  refine finB [partO H2 p s] ?_ (hs := ?_)
  · exact ⟨rfl, rfl⟩
  · refine Sub.trans ?_ (part_shut (H1 := H2) (H2 := H) (tp := tp) (db := db) (.refl _) hl1)
    exact subA
theorem askM_reads {H : Heap} {s : PS} {x : Txn} (hs : fits s.sh) (hx : okX x.k) : rMessage H [I s.sh, I x.Node, I 5, I x.Node, I x.Life, I x.Count, I 0, nilS, nilS, .bool false, I 0, I 0, I 0, I 0, nilS, I 0, I 0, I 0, nilS] (askM s x) :=
  ⟨nilS, nilS, nilS, nilS, rfl, hs, hx.1, by unfold fits; simp [askM], hx.1, hx.2.1, hx.2.2, fits0, SlB.nil, SlB.nil, fits0, fits0, fits0, fits0, SlB.nil, fits0, fits0, fits0, SlB.nil⟩
set_option maxHeartbeats 4000000 in
theorem ask_spec {W0 : World} {H : Heap} {p : Nat} {s : PS} (hs : TsOk s.t) (hsh : fits s.sh) (hx : ∀ q ∈ prepL s.t, okX q.Txn.k) :
    Ct Tryz.prog 23 #[.pointer (some ⟨p, 0, none⟩)] W0 H [partO H p s] (fun r H' B => B = [ownS rMessage 19 216 81 H' r ((prepL s.t).map fun q => askM s q.Txn), partO H' p s]) := by
  refine Ct.go (vs := [.pointer (some ⟨p, 0, none⟩)]) fun R => ?_
  refine ex_open (A := partO H p s) (σ := Nat × Nat) (B := fun a => [pRow p a.1 (PS.sh s) a.2, tabO H a.1 (PS.t s), dMap H a.2 s]) (p := fun _ => True) (by repeat (first | exact Has.here | apply Has.there)) (fun h ⟨tp, db, hbig⟩ => ⟨(tp, db), trivial, hbig⟩) fun ⟨tp, db⟩ _ => ?_
  dsimp only
  refine walk ?_
  refine ops_call rfl rfl (prepared_spec (W0 := W0) (H := H) (p := tp) hs) fun r1 H1 B hl1 eB => ?_
  subst eB
  refine ops_freeze r1 fun H2 hl2 hsl => ?_
  have hln : (prepL s.t).length ≤ 1000000 := by have := hs.wn; simpa [prepL, sort3_len] using this
  generalize hl : prepL s.t = l at *
  obtain ⟨b0, c0, rfl, hc0, hd0⟩ := hsl.1.shape
  refine walk ?_
  refine ex_loop (σ := Nat × Option Addr × Nat) (fun u => u.1 ≤ l.length) (fun u => [(0, .pointer (some ⟨p, 0, none⟩)), (3, .slice u.2.1 ((l.take u.1).map fun q => askM s q.Txn).length u.2.2), (10, .slice b0 l.length c0), (11, I l.length), (12, I u.1)]) (fun _ => H2) (fun u => ownS rMessage 19 216 81 H2 (.slice u.2.1 ((l.take u.1).map fun q => askM s q.Txn).length u.2.2) ((l.take u.1).map fun q => askM s q.Txn) :: pRow p tp s.sh db :: tabO H1 tp s.t :: dMap H db s :: R) (fun u => l.length - u.1) (0, none, 0) (Nat.zero_le _) (hs0 := ?_) fun ⟨k, d, e⟩ hk0 K hL => ?_
  rotate_left
  · simp only [List.take_zero, List.map_nil, List.length_nil]
    refine Sub.trans ?_ ownS_nil
    exact subA
  simp only at hk0
  dsimp only
  have hll : ((l.take k).map fun q => askM s q.Txn).length = k := by simp; omega
  have hcap : (1000000 : Nat) * 216 ≤ cap47 := by decide
  refine walk ?_
  refine ex_if rfl (fun hk => ?_) (fun hk => ?_)
  · have hk1 : k < l.length := by omega
    have ht := List.take_succ_eq_append_getElem hk1
    have hxk := hx l[k] (List.getElem_mem hk1)
    have hse : ((l.take k).map fun q => askM s q.Txn) ++ [askM s l[k].Txn] = (l.take (k + 1)).map fun q => askM s q.Txn := by rw [ht, List.map_append]; rfl
    have hsl2 : ((l.take k).map fun q => askM s q.Txn).length + 1 = ((l.take (k + 1)).map fun q => askM s q.Txn).length := by rw [← hse]; simp
    refine walk ?_
    refine ops_ixp rfl rfl hsl.1 hk1 fun b o c hr hc => ?_
    obtain ⟨s1, s2, s3, rfl, g1, g2, g3, g4, g5, g6, g7, g8⟩ := hc
    generalize l[k] = q at hr g1 g2 g3 g4 g5 g6 g7 g8 hse hxk
    obtain ⟨qk, ⟨xa, xb, xc⟩, ⟨wr, wt, wd⟩, qy, qp⟩ := q
    dsimp only at hr g1 g2 g3 g4 g5 g6 g7 g8 hse hxk
    obtain ⟨sb1, sc1, rfl, _, _⟩ := g6.1.shape
    obtain ⟨sb2, sc2, rfl, _, _⟩ := g7.1.shape
    obtain ⟨sb3, sc3, rfl, _, _⟩ := g8.1.shape
    change HRow H2 b o [I qk, I xa, I xb, I xc, I wr, .slice sb1 wt.length sc1, .slice sb2 wd.length sc2, .bool qy, .slice sb3 qp.length sc3] at hr
    refine ops_ldNH rfl rfl hr rfl ?_
    refine ops_alloc rfl fun p5 _ => ?_
    refine walk ?_
    refine ex_any 13 [pRow p tp s.sh db, row p5 48 [I qk, I xa, I xb, I xc, I wr, .slice sb1 wt.length sc1, .slice sb2 wd.length sc2, .bool qy, .slice sb3 qp.length sc3]] ?_
    refine stepY 0 ?_; refine stepY 1 ?_; refine stepY 2 ?_; refine stepY 3 ?_; refine stepY 4 ?_; refine stepY 5 ?_; refine stepY 6 ?_; refine stepY 7 ?_; refine stepY 8 ?_; refine stepY 9 ?_; refine stepY 10 ?_
    refine any_app1 (y := askM s ⟨xa, xb, xc⟩) 11 12 rfl rfl rfl (askM_reads hsh hxk) (by rw [hll]; simp only [cap47]; omega) fun d3 e3 => ⟨subA, ?_⟩
    rw [hsl2, hse]
    refine any_rest rfl ?_
    refine walk ?_
    exact out_next hL (k + 1, d3, e3) (by simp only; omega)
  · clear hL
    obtain rfl : k = l.length := by omega
    refine walk ?_
    rw [List.take_length] at *
    refine finB [ownS rMessage 19 216 81 H2 (.slice d (l.map fun q => askM s q.Txn).length e) (l.map fun q => askM s q.Txn), partO H2 p s] ?_ (hs := ?_)
    · exact rfl
    · refine Sub.trans ?_ (Sub.cons (part_shut (H1 := H1) (H2 := H) (tp := tp) (db := db) hl2 (hl1.trans hl2)))
      exact subA
noncomputable def untilK (c : Int → Int) : Int → List ByteArray → Int
  | a, [] => c a
  | a, k :: ks => if (tickK k).isSome = true then untilK c (max a ((tickK k).getD 0)) ks else maxTick
noncomputable def untilR (x : Txn) : Int → List Rec → Int
  | a, [] => a
  | a, q :: l => if q.Txn = x then untilK (fun a => untilR x a l) a q.Work.ks else untilR x a l
theorem untilK_id : ∀ {ks : List ByteArray} {a : Int}, untilK (fun a => a) a ks = untilL a ks
  | [], a => rfl
  | k :: ks, a => by unfold untilK untilL; rw [untilK_id]
theorem untilR_none {x : Txn} : ∀ {l : List Rec} {a : Int}, (∀ q ∈ l, q.Txn ≠ x) → untilR x a l = a
  | [], a, _ => rfl
  | q :: l, a, h => by
    unfold untilR
    rw [if_neg (h q (List.mem_cons_self ..)), untilR_none fun q hq => h q (List.mem_cons_of_mem _ hq)]
theorem untilR_one {x : Txn} : ∀ {l : List Rec} {a : Int} {q : Rec}, l.Pairwise (fun a b => ltK a.Txn.k b.Txn.k) → q ∈ l → q.Txn = x → untilR x a l = untilL a q.Work.ks
  | q :: l, a, q', hr, hq, hx => by
    rw [List.pairwise_cons] at hr
    unfold untilR
    rcases List.mem_cons.1 hq with rfl | hq
    · rw [if_pos hx]
      have hno : ∀ q ∈ l, q.Txn ≠ x := fun q hq e => by
        have := hr.1 q hq
        rw [hx, e] at this
        exact ltK_irr this
      have : (fun a => untilR x a l) = fun a => a := funext fun a => untilR_none hno
      rw [this, untilK_id]
    · rw [if_neg, untilR_one hr.2 hq hx]
      intro e
      have := hr.1 q' hq
      rw [hx, e] at this
      exact ltK_irr this
theorem untilR_eq {s : PS} {x : Txn} (hn : (s.t.works.map (·.1)).Nodup) : untilR x 0 (prepL s.t) = untilS s x := by
  have hp := prepL_spec hn
  unfold untilS
  by_cases h : isP s x
  · rw [if_pos h]
    obtain ⟨w, hw⟩ := isP_iff.1 h
    have hm := (hp.mem (recW x w)).2 ⟨w, hw, rfl⟩
    rw [untilR_one (x := x) hp.rise hm (rfl : (recW x w).Txn = x)]
    unfold gW at hw
    cases hq : mget x.k s.t.works with
    | none => rw [hq] at hw; cases hw
    | some v => rw [hq] at hw; cases hw; rfl
  · rw [if_neg h, untilR_none]
    rintro q hq rfl
    obtain ⟨w, hw, _⟩ := (hp.mem q).1 hq
    exact h (isP_iff.2 ⟨w, hw⟩)
set_option maxHeartbeats 8000000 in
theorem until_spec {W0 : World} {H : Heap} {p : Nat} {s : PS} {x : Txn} (hP : PkH H) (hs : TsOk s.t) (hn : (s.t.works.map (·.1)).Nodup) (hks : ∀ q ∈ prepL s.t, q.Work.ks.length * 16 ≤ cap47) :
    Ct Tryz.prog 53 #[.pointer (some ⟨p, 0, none⟩), .agg x.cv.toArray] W0 H [partO H p s] (fun r H' B => r = I (untilS s x) ∧ B = [partO H' p s]) := by
  refine Ct.go (vs := [.pointer (some ⟨p, 0, none⟩), .agg x.cv.toArray]) fun R => ?_
  rw [← untilR_eq hn]
  obtain ⟨x1, x2, x3⟩ := x
  refine ex_open (A := partO H p s) (σ := Nat × Nat) (B := fun a => [pRow p a.1 (PS.sh s) a.2, tabO H a.1 (PS.t s), dMap H a.2 s]) (p := fun _ => True) (by repeat (first | exact Has.here | apply Has.there)) (fun h ⟨tp, db, hbig⟩ => ⟨(tp, db), trivial, hbig⟩) fun ⟨tp, db⟩ _ => ?_
  dsimp only
  refine walk ?_
  refine ops_box rfl rfl fun p3 _ => ?_
  refine walk ?_
  refine ops_call rfl rfl (prepared_spec (W0 := W0) (H := H) (p := tp) hs) fun r1 H1 B hl1 eB => ?_
  subst eB
  refine ops_freeze r1 fun H2 hl2 hsl => ?_
  generalize hl : prepL s.t = l at *
  generalize hT : untilR ⟨x1, x2, x3⟩ 0 l = T
  obtain ⟨b0, c0, rfl, hc0, hd0⟩ := hsl.1.shape
  refine walk ?_
  refine ex_loop (σ := Nat × Int × Heap) (fun u => u.1 ≤ l.length ∧ untilR ⟨x1, x2, x3⟩ u.2.1 (l.drop u.1) = T ∧ fits u.2.1 ∧ H2.le u.2.2) (fun u => [(0, .pointer (some ⟨p, 0, none⟩)), (3, .pointer (some ⟨p3, 0, none⟩)), (5, I u.2.1), (16, .slice b0 l.length c0), (17, I l.length), (18, I u.1)]) (fun u => u.2.2) (fun u => pRow p tp s.sh db :: tabO H1 tp s.t :: dMap H db s :: row p3 45 [I x1, I x2, I x3] :: R) (fun u => l.length - u.1) (0, 0, H2) ⟨Nat.zero_le _, hT, fits0, .refl _⟩ fun ⟨j, a, HK⟩ ⟨hj0, hF, hfa, hlK⟩ K hL => ?_
  simp only at hj0 hF hfa hlK
  dsimp only
  have hPK := hP.mono (hl1.trans (hl2.trans hlK))
  refine walk ?_
  refine ex_if rfl (fun hj => ?_) (fun hj => ?_)
  · have hj1 : j < l.length := by omega
    have hkq := hks l[j] (List.getElem_mem hj1)
    rw [List.drop_eq_getElem_cons hj1] at hF
    unfold untilR at hF
    refine walk ?_
    refine ops_ixp rfl rfl (hsl.mono hlK).1 hj1 fun b o c hr hc => ?_
    obtain ⟨s1, s2, s3, rfl, g1, g2, g3, g4, g5, g6, g7, g8⟩ := hc
    generalize l[j] = q at hr g1 g2 g3 g4 g5 g6 g7 g8 hF hkq
    obtain ⟨qk, ⟨xa, xb, xc⟩, ⟨wr, wt, wd⟩, qy, qp⟩ := q
    dsimp only at hr g1 g2 g3 g4 g5 g6 g7 g8 hF hkq
    obtain ⟨sb1, sc1, rfl, _, _⟩ := g6.1.shape
    obtain ⟨sb2, sc2, rfl, _, _⟩ := g7.1.shape
    obtain ⟨sb3, sc3, rfl, _, _⟩ := g8.1.shape
    change HRow HK b o [I qk, I xa, I xb, I xc, I wr, .slice sb1 wt.length sc1, .slice sb2 wd.length sc2, .bool qy, .slice sb3 qp.length sc3] at hr
    refine ops_ldNH rfl rfl hr rfl ?_
    refine ops_alloc rfl fun p7 _ => ?_
    refine walk ?_
    refine ex_if rfl (fun hq => ?_) (fun hq => ?_)
    · rw [if_neg (fun e => hq (by simpa using tx_ext.1 e))] at hF
      refine walk ?_
      exact out_next hL (j + 1, a, HK) ⟨by simp only; omega, hF, hfa, hlK⟩
    · have hq' : (⟨xa, xb, xc⟩ : Txn) = ⟨x1, x2, x3⟩ := Classical.byContradiction fun h => hq fun e => h (tx_ext.2 e)
      rw [if_pos hq'] at hF
      generalize hcn : (fun a => untilR ⟨x1, x2, x3⟩ a (l.drop (j + 1))) = cn at hF
      refine walk ?_
      refine ops_bsN rfl rfl fun pb _ => ?_
      refine ops_frzR .here fun H3 hl3 hr3 => ?_
      have hwn' : (wt.length + wd.length) * 16 ≤ cap47 := by simpa [Work.ks] using hkq
      have hsr : SlR (rSl rStr 1 16) 1 H3 (.slice (some ⟨pb, 0, none⟩) 2 2) [wt, wd] := slr_of_hrow (R := rSl rStr 1 16) (xs := [wt, wd]) hr3 (show RL (rSl rStr 1 16) H3 [.slice sb1 wt.length sc1, .slice sb2 wd.length sc2] [wt, wd] from ⟨[_], [_], rfl, ⟨_, rfl, g6.mono hl3⟩, ⟨[_], [], rfl, ⟨_, rfl, g7.mono hl3⟩, rfl⟩⟩) (by simp) (by omega)
      have hcat := concat_spec (W0 := W0) hsr (by simpa [sumLen] using hwn')
      rw [show [wt, wd].flatten = (⟨wr, wt, wd⟩ : Work).ks by simp [Work.ks]] at hcat
      generalize hks2 : (⟨wr, wt, wd⟩ : Work).ks = ks at hcat hF hkq
      refine ops_call rfl rfl hcat fun r4 H4 B hl4 ⟨eB, eH⟩ => ?_
      subst eB eH
      refine ops_freeze r4 fun H5 hl5 hsk => ?_
      obtain ⟨bk, ck, rfl, hck, hdk⟩ := hsk.1.shape
      have hl25 : H2.le H5 := hlK.trans (hl3.trans (hl4.trans hl5))
      have hP5 := hPK.mono (hl3.trans (hl4.trans hl5))
      refine walk ?_
      refine ex_loop (σ := Nat × Int) (fun u => u.1 ≤ ks.length ∧ untilK cn u.2 (ks.drop u.1) = T ∧ fits u.2) (fun u => [(0, .pointer (some ⟨p, 0, none⟩)), (3, .pointer (some ⟨p3, 0, none⟩)), (5, I u.2), (16, .slice b0 l.length c0), (17, I l.length), (18, I j), (33, .slice bk ks.length ck), (34, I ks.length), (35, I u.1)]) (fun _ => H5) (fun _ => pRow p tp s.sh db :: tabO H1 tp s.t :: dMap H db s :: row p3 45 [I x1, I x2, I x3] :: R) (fun u => ks.length - u.1) (0, a) ⟨Nat.zero_le _, hF, hfa⟩ fun ⟨i, a2⟩ ⟨hi0, hF2, hfa2⟩ K2 hL2 => ?_
      simp only at hi0 hF2 hfa2
      dsimp only
      refine walk ?_
      refine ex_if rfl (fun hi => ?_) (fun hi => ?_)
      · have hi1 : i < ks.length := by omega
        rw [List.drop_eq_getElem_cons hi1] at hF2
        unfold untilK at hF2
        have hrd := fun (hz : ks[i].data.toList.length ≤ cap47) => read_spec (W0 := W0) (l := ks[i].data.toList) hP5 hz
        rw [sb_self] at hrd
        refine walk ?_
        refine ops_ixp rfl rfl hsk.1 hi1 fun b o c hr hc => ?_
        obtain ⟨rfl, hsz⟩ := hc
        refine walk ?_
        refine ops_call rfl rfl (hrd (by rw [← Lib.size_eq]; exact hsz)) fun r6 H6 B hl6 ⟨hrr, eB, eH⟩ => ?_
        subst eB eH
        obtain ⟨ka, kb, kt, ok, rfl, hkk⟩ := hrr.form
        refine walk ?_
        refine ops_alloc rfl fun p10 _ => ?_
        refine walk ?_
        rcases hkk with ⟨rfl, hkk⟩ | ⟨rfl, hno, rfl, rfl, rfl⟩
        · have ht := tickK_yes hkk
          rw [ht, if_pos (show (some kt).isSome = true from rfl), show (some kt).getD 0 = kt from rfl] at hF2
          have hft : fits kt := by have := tickK_fits (k := ks[i]); rw [ht] at this; exact this
          rw [show (!true) = false from rfl]
          refine walk ?_
          exact out_next hL2 (i + 1, max a2 kt) ⟨by simp only; omega, hF2, by simp only; unfold fits at *; omega⟩
        · have ht := tickK_no hno
          rw [ht, if_neg (by simp)] at hF2
          rw [show (!false) = true from rfl]
          refine walk ?_
          rw [← hF2]
          refine finB [partO H6 p s] ?_ (hs := ?_)
          · exact ⟨rfl, rfl⟩
          · refine Sub.trans ?_ (part_shut (H1 := H1) (H2 := H) (tp := tp) (db := db) (hl2.trans hl25) (hl1.trans (hl2.trans hl25)))
            exact subA
      clear hL2
      obtain rfl : i = ks.length := by omega
      rw [List.drop_length] at hF2
      unfold untilK at hF2
      rw [← hcn] at hF2
      refine walk ?_
      exact out_next hL (j + 1, a2, H5) ⟨by simp only; omega, hF2, hfa2, hl25⟩
  clear hL
  obtain rfl : j = l.length := by omega
  rw [List.drop_length] at hF
  unfold untilR at hF
  refine walk ?_
  rw [← hF]
  refine finB [partO HK p s] ?_ (hs := ?_)
  · exact ⟨rfl, rfl⟩
  · refine Sub.trans ?_ (part_shut (H1 := H1) (H2 := H) (tp := tp) (db := db) (hl2.trans hlK) (hl1.trans (hl2.trans hlK)))
    exact subA
end Go.Proofs.YtpphdbnifbjfmaaGreatDoor
