/- A move is played: those of the net, of time, of power; those that fit not. -/
import Derived.Test.YtpphdbnifbjfmaaGreatDoorJE48
import Derived.Test.YtpphdbnifbjfmaaGreatDoorJTL
import Derived.Test.YtpphdbnifbjfmaaGreatDoorJTO
import Derived.Test.YtpphdbnifbjfmaaGreatDoorJXD
import Derived.Test.YtpphdbnifbjfmaaGreatDoorJXE
set_option linter.unusedVariables false
set_option linter.unusedSimpArgs false
namespace Go.Proofs.YtpphdbnifbjfmaaGreatDoor
open Go Go.Sx Go.Proofs
def neC (es : List NE) : List Value := (es.map NE.cv).flatten
theorem rl_ne : ∀ {es : List NE} {cs : List Value}, RL rNE Heap.empty cs es ↔ cs = neC es
  | [], cs => Iff.rfl
  | e :: es, cs => by
    constructor
    · rintro ⟨c, r, rfl, h1, h2⟩
      rw [rl_ne.1 h2, show c = e.cv from h1]; rfl
    · rintro rfl
      exact ⟨e.cv, neC es, rfl, rfl, rl_ne.2 rfl⟩
theorem neC_len : ∀ {es : List NE}, (neC es).length = es.length * 3
  | [] => rfl
  | e :: es => by
    show (e.cv ++ neC es).length = (es.length + 1) * 3
    rw [List.length_append, neC_len]
    show 3 + es.length * 3 = (es.length + 1) * 3
    omega
theorem neC_get {sp : List Value} : ∀ {es : List NE} {i k : Nat} {v : Value} (hi : i < es.length), es[i].cv[k]? = some v → (neC es ++ sp)[i * 3 + k]? = some v
  | [], i, k, v, hi, h => by cases hi
  | e :: es, 0, k, v, hi, h => by
    have hk : k < 3 := (List.getElem?_eq_some_iff.1 h).1
    show (e.cv ++ neC es ++ sp)[0 * 3 + k]? = _
    rw [List.append_assoc, List.getElem?_append_left (by show _ < 3; omega), show 0 * 3 + k = k by omega]
    exact h
  | e :: es, i + 1, k, v, hi, h => by
    show (e.cv ++ neC es ++ sp)[(i + 1) * 3 + k]? = _
    rw [List.append_assoc, List.getElem?_append_right (by show 3 ≤ _; omega), show (i + 1) * 3 + k - e.cv.length = i * 3 + k by show (i + 1) * 3 + k - 3 = _; omega]
    exact neC_get (by simpa using hi) h
theorem neC_set {sp : List Value} {e' : NE} {v : Value} {k : Nat} (hk : k < 3) : ∀ {es : List NE} {i : Nat} (hi : i < es.length), es[i].cv.set k v = e'.cv → (neC es ++ sp).set (i * 3 + k) v = neC (es.set i e') ++ sp
  | [], i, hi, h => by cases hi
  | e :: es, 0, hi, h => by
    show (e.cv ++ neC es ++ sp).set (0 * 3 + k) v = (e'.cv ++ neC es) ++ sp
    rw [List.append_assoc, List.append_assoc, show 0 * 3 + k = k by omega, List.set_append_left _ _ (by show _ < 3; omega)]
    congr 1
  | e :: es, i + 1, hi, h => by
    show (e.cv ++ neC es ++ sp).set ((i + 1) * 3 + k) v = (e.cv ++ neC (es.set i e')) ++ sp
    rw [List.append_assoc, List.append_assoc, List.set_append_right _ _ (by show 3 ≤ _; omega), show (i + 1) * 3 + k - e.cv.length = i * 3 + k by show (i + 1) * 3 + k - 3 = _; omega]
    congr 1
    exact neC_set hk (by simpa using hi) h
theorem set_cut {l : List Value} {j : Nat} {v : Value} (h : j < l.length) : l.take j ++ [v] ++ l.drop (j + [v].length) = l.set j v := by
  rw [List.set_eq_take_append_cons_drop, if_pos h]; simp
theorem row_ns {es : List NE} {b cap : Nat} {sp : List Value} {L : List HProp} (h1 : es.length ≤ cap) (h2 : cap ≤ 9223372036854775807) (h4 : (neC es ++ sp).length = cap * 3) (h6 : es.length * 24 ≤ cap47) :
    Sub (row b 66 (neC es ++ sp) :: L) (wNs (.slice (some ⟨b, 0, none⟩) es.length cap) es :: L) :=
  (own_shut neC_len h1 h2 h4).trans (ownS_mk (rl_ne.2 rfl) h6)
def absP (s : PS) : Part := ⟨s.sh, ⟨holdsL s.t, prepL s.t⟩, (doneL s).map toR⟩
theorem absP_rel {n : Nat} {s : PS} (I : PInv n s) : PRel s (absP s) := ⟨rfl, rel_self I.t, doneL_spec I.dd⟩
theorem HSpec.ext {l : List Hold} {f g : ByteArray → Option Int} (h : HSpec l f) (h' : HSpec l g) (k : ByteArray) : f k = g k := by
  have key : ∀ {f g : ByteArray → Option Int}, HSpec l f → HSpec l g → ∀ {v}, f k = some v → g k = some v := fun {f g} h h' {v} hf => (h'.mem ⟨k, v⟩).1 ((h.mem ⟨k, v⟩).2 hf)
  cases hf : f k with
  | some v => exact (key h h' hf).symm
  | none =>
    cases hg : g k with
    | none => rfl
    | some v => rw [key h' h hg] at hf; cases hf
theorem loaded_same {n : Nat} {s : PS} {s' : TS} {d' : List (K3 × Int)} (I : PInv n s) (g3 : Rel s' (absP s).T) (k3 : ∀ k, mget k d' = mget k s.done) : PSame s ⟨s.sh, s', d'⟩ :=
  ⟨rfl, fun k => g3.p.ext (absP_rel I).r.p k, fun k => g3.h.ext (absP_rel I).r.h k, k3⟩
def CrashQ (n : Nat) (H' : Heap) (p nb : Nat) (nv lv : Value) (w : PW) (i : Nat) (B : List HProp) : Prop :=
  ∃ w' es', PCrash n w i w' ∧ w'.ns = es'.map NE.q ∧ B = [wRow p nv nb w'.now lv, wNs nv es', bigL (ndP H') es', bigL (ndC H') es', Net.netO H' (ptrC nb) w'.net]
theorem ct_old {P : Program} {f : FuncId} {vs : Array Value} {W0 : World} {H : Heap} {A A' : HProp} {A2 : List HProp} {Post : Value → Heap → List HProp → Prop} (h : Ct P f vs W0 H (A' :: A2) Post) (hu : ∀ h, A h → A' h) : Ct P f vs W0 H (A :: A2) Post :=
  Ct.open (σ := Unit) (B := fun _ => [A']) (fun h ha => ⟨(), big_one (hu h ha)⟩) fun _ => h
set_option maxHeartbeats 16000000 in
set_option maxRecDepth 20000 in
theorem crash_spec {W0 : World} {H : Heap} {p nb n i : Nat} {nv lv : Value} {w : PW} {es : List NE} (hns : w.ns = es.map NE.q) (KW : WOk n w) (hil : i < es.length) :
    Ct Tryz.prog 19 #[ptrC p, I i] W0 H [wRow p nv nb w.now lv, wNs nv es, bigL (ndP H) es, bigL (ndC H) es, Net.netO H (ptrC nb) w.net] (fun r H' B => CrashQ n H' p nb nv lv w i B) := by
  refine Ct.go (vs := [ptrC p, I i]) fun R => ?_
  have hwl : i < w.ns.length := by rw [hns, List.length_map]; exact hil
  have hwi : w.ns[i] = es[i].q := by simp only [hns, List.getElem_map]
  have hmem := es_mem hns hil
  have IP := KW.p _ hmem
  have IC := KW.c _ hmem
  have hpl := KW.pl _ hmem
  have hfl := KW.fn _ hmem
  have hn := KW.n
  refine ex_shape nv fun base cap e _ _ _ => ?_
  subst e
  refine walk ?_
  refine ops_rowS (.slice base es.length cap) (by omega) fun b2 cap2 cs sp e q1 q2 q3 q4 q5 q6 => ?_
  cases e
  obtain rfl := rl_ne.1 q5
  refine walk ?_
  have hlc : i * 3 + 3 ≤ (neC es ++ sp).length := by rw [List.length_append, neC_len]; omega
  refine ops_ldc (v := I es[i].q.cs.life) rfl rfl (by rw [Nat.zero_add]; exact neC_get hil rfl) ?_
  obtain ⟨e1, he1⟩ : ∃ e1 : NE, e1 = ⟨es[i].pp, es[i].cp, ⟨es[i].q.ps, ⟨es[i].q.cs.node, es[i].q.cs.life + 1, es[i].q.cs.count, es[i].q.cs.ts⟩⟩⟩ := ⟨_, rfl⟩
  have hc1 : (neC es ++ sp).set (i * 3 + 2) (I (es[i].q.cs.life + 1)) = neC (es.set i e1) ++ sp := neC_set (by omega) hil (by rw [he1]; rfl)
  refine walk ?_
  refine ops_sta (cs' := neC (es.set i e1) ++ sp) rfl rfl rfl (by simp only [Nat.zero_add]; show _ + 1 ≤ _; omega) (by rw [← hc1, Nat.zero_add]; exact set_cut (by omega)) ?_
  refine walk ?_
  have hl1i : i < (es.set i e1).length := by rw [List.length_set]; exact hil
  have hg1 : (es.set i e1)[i] = e1 := by rw [List.getElem_set_self]
  have hp1 : (neC (es.set i e1) ++ sp)[0 + i * 3]? = some (ptrC es[i].pp) := by rw [Nat.zero_add]; exact neC_get (k := 0) hl1i (by rw [hg1, he1]; rfl)
  have hok1 : TsOk es[i].q.ps.t := IP.t.ok (by omega)
  refine ex_L (L' := ndP H es[i] :: bigL (ndP H) (es.take i ++ es.drop (i + 1)) :: row b2 66 (neC (es.set i e1) ++ sp) :: wRow p (.slice (some ⟨b2, 0, none⟩) es.length cap) nb w.now lv :: bigL (ndC H) es :: Net.netO H (ptrC nb) w.net :: R) ?_ ?_
  · refine Sub.trans (B := bigL (ndP H) es :: row b2 66 (neC (es.set i e1) ++ sp) :: wRow p (.slice (some ⟨b2, 0, none⟩) es.length cap) nb w.now lv :: bigL (ndC H) es :: Net.netO H (ptrC nb) w.net :: R) subA (bigL_get hil)
  refine ex_open (A := partO H es[i].pp (NE.q es[i]).ps) (σ := Nat × Nat) (B := fun a => [pRow es[i].pp a.1 (PS.sh (NE.q es[i]).ps) a.2, tabO H a.1 (PS.t (NE.q es[i]).ps), dMap H a.2 (NE.q es[i]).ps]) (p := fun _ => True) (by repeat (first | exact Has.here | apply Has.there)) (fun h ⟨tp, db, hbig⟩ => ⟨(tp, db), trivial, hbig⟩) fun ⟨tp, db⟩ _ => ?_
  dsimp only
  refine ex_z 30 ?_
  refine z_take 0 rfl rfl ?_
  refine z_any 25 [row b2 66 (neC (es.set i e1) ++ sp), pRow es[i].pp tp es[i].q.ps.sh db] ?_
  refine stepY 1 ?_; refine stepY 2 ?_; refine stepY 3 ?_; refine stepY 4 ?_
  refine gny_ld 5 rfl rfl rfl hp1 ?_
  refine stepY 6 ?_; refine stepY 7 ?_; refine stepY 8 ?_; refine stepY 10 ?_; refine stepY 11 ?_; refine stepY 12 ?_
  refine gny_ld 13 rfl rfl rfl hp1 ?_
  refine stepY 14 ?_; refine stepY 15 ?_; refine stepY 16 ?_; refine stepY 18 ?_; refine stepY 19 ?_; refine stepY 20 ?_
  refine gny_ld 21 rfl rfl rfl hp1 ?_
  have hks : ∀ q ∈ prepL es[i].q.ps.t, q.Work.ks.length * 16 ≤ cap47 := fun q hq => by
    have := (IP.t.ww _ _ (IP.t.recs hq)).1.1.ks_len
    simp only [cap47]; omega
  have hplen : (prepL es[i].q.ps.t).length ≤ 1000000 := by have := IP.t.wn; unfold prepL; rw [List.length_map, sort3_len, List.length_map]; omega
  refine gny_call 9 rfl rfl rfl (holds_spec (W0 := W0) (H := H) (p := tp) hok1) fun r1 H1 B hl1 eB => ?_
  subst eB
  refine ⟨subA, ?_⟩
  refine any_freeze r1 fun H2 hl2 hsh => ?_
  refine any_L (L' := tabO H2 tp es[i].q.ps.t :: pRow es[i].pp tp es[i].q.ps.sh db :: dMap H db es[i].q.ps :: bigL (ndP H) (es.take i ++ es.drop (i + 1)) :: row b2 66 (neC (es.set i e1) ++ sp) :: wRow p (.slice (some ⟨b2, 0, none⟩) es.length cap) nb w.now lv :: bigL (ndC H) es :: Net.netO H (ptrC nb) w.net :: R) ?_ ?_
  · refine Sub.trans ?_ (tab_up hl2)
    exact subA
  refine gny_call 17 rfl rfl rfl (prepared_spec (W0 := W0) (H := H2) (p := tp) hok1) fun r3 H3 B hl3 eB => ?_
  subst eB
  refine ⟨subA, ?_⟩
  refine any_freeze r3 fun H4 hl4 hsp => ?_
  refine gny_call 22 rfl rfl rfl (doneP_spec (W0 := W0) (H := H4) (p := es[i].pp) (tp := tp) (db := db) (Ht := H3) (Hd := H) IP (by omega) hl4 (hl1.trans (hl2.trans (hl3.trans hl4)))) fun r5 H5 B hl5 eB => ?_
  subst eB
  refine ⟨subA, ?_⟩
  refine any_freeze r5 fun H6 hl6 hsd => ?_
  have hrel := (absP_rel IP).r
  refine gny_call 23 rfl rfl rfl (pload_spec (W0 := W0) (H := H6) (sh := (i : Int)) (hsh.mono (hl3.trans (hl4.trans (hl5.trans hl6)))) (hsp.mono (hl5.trans hl6)) hsd hplen hks (fun s' a' hLP => by
    obtain ⟨g1, g2, g3⟩ := load_own IP.t hrel hLP
    exact ⟨g1, g2.ok (by omega), g2.wd⟩)) fun r7 H7 B hl7 ⟨s', a', p', hLP, hQ⟩ => ?_
  obtain ⟨g1, g2, g3⟩ := load_own IP.t hrel hLP
  obtain ⟨d', k1, k2, k3, k4⟩ := loadD_own (n' := n) (t := s') IP (fun k => g3.p.ext hrel.p k)
  rcases hQ with ⟨hQ, _⟩ | ⟨d2, hd2, er, eB⟩
  · rw [k1] at hQ; cases hQ
  rw [k1] at hd2
  cases hd2
  subst er eB
  obtain ⟨hI', hR'⟩ := IP.loaded (absP_rel IP) g2 g3 k2 k3 k4
  have hsame := loaded_same IP g3 k3
  refine ⟨subA, ?_⟩
  refine stepY 24 ?_
  refine any_stage 30 [] ?_
  refine gny_ext 25 rfl rfl rfl rfl ?_
  refine gny_ext 26 rfl rfl rfl rfl ?_
  refine stepY 27 ?_; refine stepY 28 ?_
  have hl2c : i * 3 + 3 ≤ (neC (es.set i e1) ++ sp).length := by rw [List.length_append, neC_len, List.length_set]; omega
  obtain ⟨e2, he2⟩ : ∃ e2 : NE, e2 = ⟨p', es[i].cp, ⟨es[i].q.ps, ⟨es[i].q.cs.node, es[i].q.cs.life + 1, es[i].q.cs.count, es[i].q.cs.ts⟩⟩⟩ := ⟨_, rfl⟩
  have hc2 : (neC (es.set i e1) ++ sp).set (i * 3 + 0) (ptrC p') = neC (es.set i e2) ++ sp := by
    rw [neC_set (e' := e2) (by omega) hl1i (by rw [hg1, he1, he2]; rfl), List.set_set]
  refine any_sta 29 (cs' := neC (es.set i e2) ++ sp) rfl rfl rfl rfl (by simp only [Nat.zero_add]; show _ + 1 ≤ _; omega) (by rw [← hc2, Nat.zero_add]; exact set_cut (by omega)) ⟨subA, ?_⟩
  refine any_rest rfl ?_
  refine walk ?_
  have hl2i : i < (es.set i e2).length := by rw [List.length_set]; exact hil
  have hg2 : (es.set i e2)[i] = e2 := by rw [List.getElem_set_self]
  have hlf : (neC (es.set i e2) ++ sp)[0 + i * 3 + 2]? = some (I (es[i].q.cs.life + 1)) := by rw [Nat.zero_add]; exact neC_get (k := 2) hl2i (by rw [hg2, he2]; rfl)
  have hcp : (neC (es.set i e2) ++ sp)[0 + i * 3 + 1]? = some (ptrC es[i].cp) := by rw [Nat.zero_add]; exact neC_get (k := 1) hl2i (by rw [hg2, he2]; rfl)
  have hl17 := hl1.trans (hl2.trans (hl3.trans (hl4.trans (hl5.trans (hl6.trans hl7)))))
  refine ex_L (L' := ndC H es[i] :: bigL (ndC H) (es.take i ++ es.drop (i + 1)) :: row b2 66 (neC (es.set i e2) ++ sp) :: partO H7 p' ⟨(i : Int), s', d'⟩ :: bigL (ndP H) (es.take i ++ es.drop (i + 1)) :: wRow p (.slice (some ⟨b2, 0, none⟩) es.length cap) nb w.now lv :: Net.netO H (ptrC nb) w.net :: R) ?_ ?_
  · refine Sub.trans (B := bigL (ndC H) es :: row b2 66 (neC (es.set i e2) ++ sp) :: partO H7 p' ⟨(i : Int), s', d'⟩ :: bigL (ndP H) (es.take i ++ es.drop (i + 1)) :: wRow p (.slice (some ⟨b2, 0, none⟩) es.length cap) nb w.now lv :: Net.netO H (ptrC nb) w.net :: R) subA (bigL_get hil)
  refine ex_z 18 ?_
  refine z_take 0 rfl rfl ?_
  refine z_any 13 [row b2 66 (neC (es.set i e2) ++ sp)] ?_
  refine stepY 1 ?_; refine stepY 2 ?_; refine stepY 3 ?_; refine stepY 4 ?_
  refine gny_ld 5 rfl rfl rfl hlf ?_
  refine stepY 6 ?_; refine stepY 7 ?_; refine stepY 8 ?_
  refine gny_ld 9 rfl rfl rfl hcp ?_
  refine gny_call (A := [ndC H es[i]]) 10 rfl rfl rfl (ct_old (open_spec (W0 := W0) (H := H7) (p := es[i].cp) (n := n) (s := es[i].q.cs) IC (by omega) (fun k t h => by have := hpl k t h; simp only [cap47]; omega)) fun _ hc => coord_mono hl17 hc) fun r8 H8 B hl8 eB => ?_
  subst eB
  refine ⟨subA, ?_⟩
  refine any_freeze r8 fun H9 hl9 hso => ?_
  have hsh := KW.sh i hwl
  rw [hwi] at hsh
  have hfi : fits (i : Int) := by rw [← hsh.2]; exact IC.fn
  refine gny_call 11 rfl rfl rfl (cload_spec (W0 := W0) (H := H9) (node := (i : Int)) (life := es[i].q.cs.life + 1) hfi hfl hso (Nat.le_trans openL_len (Nat.le_trans IC.ln (by omega)))) fun r10 H10 B hl10 hQ => ?_
  have hall : ∀ r ∈ openL es[i].q.cs, OkR (i : Int) (es[i].q.cs.life + 1) r := fun r hr => by rw [← hsh.2]; exact (openL_ok IC hr).1
  rcases hQ with ⟨⟨q, hq, hq2⟩, _⟩ | ⟨_, hq, _⟩ | ⟨_, _, c', er, eB⟩
  · exact absurd (hall q hq) hq2
  · exact absurd (openL_nodup IC) hq
  subst er eB
  refine ⟨subA, ?_⟩
  refine stepY 12 ?_
  refine any_stage 18 [] ?_
  refine gny_ext 13 rfl rfl rfl rfl ?_
  refine gny_ext 14 rfl rfl rfl rfl ?_
  refine stepY 15 ?_; refine stepY 16 ?_
  have hl3c : i * 3 + 3 ≤ (neC (es.set i e2) ++ sp).length := by rw [List.length_append, neC_len, List.length_set]; omega
  obtain ⟨e3, he3⟩ : ∃ e3 : NE, e3 = ⟨p', c', ⟨⟨(i : Int), s', d'⟩, crashC es[i].q.cs⟩⟩ := ⟨_, rfl⟩
  have hc3 : (neC (es.set i e2) ++ sp).set (i * 3 + 1) (ptrC c') = neC (es.set i e3) ++ sp := by
    rw [neC_set (e' := e3) (by omega) hl2i (by rw [hg2, he2, he3]; rfl), List.set_set]
  refine any_sta 17 (cs' := neC (es.set i e3) ++ sp) rfl rfl rfl rfl (by simp only [Nat.zero_add]; show _ + 1 ≤ _; omega) (by rw [← hc3, Nat.zero_add]; exact set_cut (by omega)) ⟨subA, ?_⟩
  refine any_rest rfl ?_
  have hlz := hl17.trans (hl8.trans (hl9.trans hl10))
  refine walk ?_
  refine ops_call rfl rfl (Net.clear_spec (W0 := W0) (H := H10) (H0 := H) (p := ptrC nb) (ms := w.net) (to := (i : Int)) hlz) fun r11 H11 B hl11 ⟨er, eB, eH⟩ => ?_
  subst er eB eH
  refine walk ?_
  rw [hsh.1] at hsame hI'
  have hns3 : (setN w i ⟨⟨(i : Int), s', d'⟩, crashC es[i].q.cs⟩).ns = (es.set i e3).map NE.q := by
    show w.ns.set i _ = _
    rw [hns, List.map_set, he3]
  have hpc : PCrash n w i { setN w i ⟨⟨(i : Int), s', d'⟩, crashC es[i].q.cs⟩ with net := Net.clr i w.net } := by
    have := PCrash.mk (n := n) (w := w) (i := i) hwl ⟨(i : Int), s', d'⟩ (by rw [hwi]; exact hsame) hI'
    rw [hwi] at this
    exact this
  refine endnB [wRow p (.slice (some ⟨b2, 0, none⟩) es.length cap) nb w.now lv, wNs (.slice (some ⟨b2, 0, none⟩) es.length cap) (es.set i e3), bigL (ndP H11) (es.set i e3), bigL (ndC H11) (es.set i e3), Net.netO H11 (ptrC nb) (Net.clr i w.net)] ?_ (hs := ?_)
  · exact ⟨_, _, hpc, hns3, rfl⟩
  · refine Sub.trans (B := row b2 66 (neC (es.set i e3) ++ sp) :: partO H7 p' ⟨(i : Int), s', d'⟩ :: bigL (ndP H) (es.take i ++ es.drop (i + 1)) :: ndC H11 e3 :: bigL (ndC H) (es.take i ++ es.drop (i + 1)) :: wRow p (.slice (some ⟨b2, 0, none⟩) es.length cap) nb w.now lv :: Net.netO H11 (ptrC nb) (Net.clr i w.net) :: R) (by rw [show ndC H11 e3 = coordO H11 c' (crashC es[i].q.cs) by rw [he3]; rfl, show crashC es[i].q.cs = ⟨(i : Int), es[i].q.cs.life + 1, 0, loadTs (openL es[i].q.cs) []⟩ by unfold crashC; rw [hsh.2]]; exact subA) ?_
    have hlx := hl8.trans (hl9.trans hl10)
    refine Sub.trans (B := row b2 66 (neC (es.set i e3) ++ sp) :: ndP H11 e3 :: bigL (ndP H11) (es.take i ++ es.drop (i + 1)) :: ndC H11 e3 :: bigL (ndC H11) (es.take i ++ es.drop (i + 1)) :: wRow p (.slice (some ⟨b2, 0, none⟩) es.length cap) nb w.now lv :: Net.netO H11 (ptrC nb) (Net.clr i w.net) :: R) ?_ ?_
    · refine Sub.cons (Sub.trans (part_up hlx) ?_)
      rw [show partO H11 p' ⟨(i : Int), s', d'⟩ = ndP H11 e3 by rw [he3]; rfl]
      exact Sub.cons (Sub.trans (ndP_up hlz) (Sub.cons (Sub.cons (ndC_up hlz))))
    · refine Sub.trans (Sub.cons (es_take (A := ndP H11) hil)) ?_
      refine Sub.trans (Sub.cons (Sub.cons (es_take (A := ndC H11) hil))) ?_
      refine Sub.trans (row_ns (by rw [List.length_set]; exact q1) q2 (by rw [List.length_append, neC_len, List.length_set]; rw [List.length_append, neC_len] at q4; exact q4) (by rw [List.length_set]; exact q6)) ?_
      rw [List.length_set]
      exact subA
def PlayQ (n : Nat) (H' : Heap) (p : Nat) (w : PW) (m : Move) (r : Value) (B : List HProp) : Prop := ∃ w' e, PPlay n w m.Kind m.A m.Works w' e ∧ r = I e ∧ B = [worldO H' p w']
set_option maxHeartbeats 8000000 in
set_option maxRecDepth 20000 in
theorem play_bad {W0 : World} {H : Heap} {p n : Nat} {s : Value} {w : PW} {m : Move} (hs : SlB rWork 3 56 H s m.Works) (hnow : 0 ≤ w.now ∧ w.now ≤ 1073741824) (hk : fits m.Kind) (ha : fits m.A) (hb : ¬ okMv w m.Kind m.A m.Works.length) :
    Ct Tryz.prog 6 #[ptrC p, .agg (m.cv s).toArray] W0 H [worldO H p w] (fun r H' B => PlayQ n H' p w m r B) := by
  obtain ⟨b0, c0, rfl, _, _⟩ := hs.1.shape
  refine Ct.go (vs := [ptrC p, .agg (m.cv (.slice b0 m.Works.length c0)).toArray]) fun R => ?_
  refine ex_open (A := worldO H p w) (σ := Value × Nat × Value × List NE) (B := fun a => [wRow p a.1 a.2.1 (PW.now w) a.2.2.1, wNs a.1 a.2.2.2, bigL (ndP H) a.2.2.2, bigL (ndC H) a.2.2.2, Net.netO H (ptrC a.2.1) (PW.net w), wLog H a.2.2.1 (PW.log w)]) (p := fun a => PW.ns w = a.2.2.2.map NE.q) (by repeat (first | exact Has.here | apply Has.there)) (fun h ⟨nv, nb, lv, es, hb, hk⟩ => ⟨(nv, nb, lv, es), hk, hb⟩) fun ⟨nv, nb, lv, es⟩ hns => ?_
  dsimp only at hns ⊢
  refine ex_shape nv fun base cap e q1 q2 q3 => ?_
  subst e
  have hln : es.length = w.ns.length := by rw [hns, List.length_map]
  refine walk ?_
  refine ops_box rfl rfl fun p3 _ => ?_
  refine walk ?_
  refine ops_pcall rfl rfl (fits_spec (W0 := W0) (H := H) (p := p) (nb := nb) (cap := cap) (base := base) (lv := lv) (w := w) (m := m) hln hs hnow hk ha) ?_
  rw [decide_eq_false hb]
  refine walk ?_
  refine finB [worldO H p w] ?_ (hs := ?_)
  · exact ⟨w, 1, .bad hb, rfl, rfl⟩
  · refine Sub.trans ?_ (world_fold (nv := .slice base es.length cap) (nb := nb) (lv := lv) hns)
    exact subA
set_option maxHeartbeats 8000000 in
set_option maxRecDepth 20000 in
theorem play_drop {W0 : World} {H : Heap} {p n : Nat} {s : Value} {w : PW} {m : Move} (hs : SlB rWork 3 56 H s m.Works) (hnow : 0 ≤ w.now ∧ w.now ≤ 1073741824) (hk : fits m.Kind) (ha : fits m.A) (k3 : m.Kind = 3) :
    Ct Tryz.prog 6 #[ptrC p, .agg (m.cv s).toArray] W0 H [worldO H p w] (fun r H' B => PlayQ n H' p w m r B) := by
  have hb : okMv w m.Kind m.A m.Works.length := by unfold okMv; omega
  obtain ⟨b0, c0, rfl, _, _⟩ := hs.1.shape
  refine Ct.go (vs := [ptrC p, .agg (m.cv (.slice b0 m.Works.length c0)).toArray]) fun R => ?_
  refine ex_open (A := worldO H p w) (σ := Value × Nat × Value × List NE) (B := fun a => [wRow p a.1 a.2.1 (PW.now w) a.2.2.1, wNs a.1 a.2.2.2, bigL (ndP H) a.2.2.2, bigL (ndC H) a.2.2.2, Net.netO H (ptrC a.2.1) (PW.net w), wLog H a.2.2.1 (PW.log w)]) (p := fun a => PW.ns w = a.2.2.2.map NE.q) (by repeat (first | exact Has.here | apply Has.there)) (fun h ⟨nv, nb, lv, es, hb, hk⟩ => ⟨(nv, nb, lv, es), hk, hb⟩) fun ⟨nv, nb, lv, es⟩ hns => ?_
  dsimp only at hns ⊢
  refine ex_shape nv fun base cap e q1 q2 q3 => ?_
  subst e
  have hln : es.length = w.ns.length := by rw [hns, List.length_map]
  refine walk ?_
  refine ops_box rfl rfl fun p3 _ => ?_
  refine walk ?_
  refine ops_pcall rfl rfl (fits_spec (W0 := W0) (H := H) (p := p) (nb := nb) (cap := cap) (base := base) (lv := lv) (w := w) (m := m) hln hs hnow hk ha) ?_
  rw [decide_eq_true hb]
  refine walk ?_
  refine ex_any 7 [wRow p (.slice base es.length cap) nb w.now lv, row p3 33 (m.cv (.slice b0 m.Works.length c0))] ?_
  refine stepY 0 ?_; refine stepY 1 ?_; refine stepY 2 ?_; refine stepY 3 ?_; refine stepY 4 ?_; refine stepY 5 ?_
  by_cases hin : inN w.net m.A
  · obtain ⟨j, hj⟩ : ∃ j : Nat, m.A = j := ⟨m.A.toNat, by unfold inN at hin; omega⟩
    have hjl : j < w.net.length := by unfold inN at hin; omega
    have hcall := Net.drop_yes (W0 := W0) (H := H) (H0 := H) (p := ptrC nb) (ms := w.net) (.refl _) hjl
    rw [← hj] at hcall
    refine gny_call 6 rfl rfl rfl hcall fun r1 H1 B hl1 ⟨er, eB, eH⟩ => ?_
    subst er eB eH
    refine ⟨subA, ?_⟩
    refine any_rest rfl ?_
    refine walk ?_
    refine finB [worldO H1 p { w with net := delM w.net j }] ?_ (hs := ?_)
    · exact ⟨_, 0, .drop k3 j hj hjl, rfl, rfl⟩
    · refine Sub.trans ?_ (world_fold (w := { w with net := delM w.net j }) (nv := .slice base es.length cap) (nb := nb) (lv := lv) hns)
      show Sub _ (_ :: _ :: _ :: _ :: Net.netO H1 (ptrC nb) (Net.del w.net j) :: _ :: _)
      exact subA
  · refine gny_call 6 rfl rfl rfl (Net.drop_no (W0 := W0) (H := H) (H0 := H) (p := ptrC nb) (ms := w.net) (i := m.A) (.refl _) hin) fun r1 H1 B hl1 ⟨er, eB, eH⟩ => ?_
    subst er eB eH
    refine ⟨subA, ?_⟩
    refine any_rest rfl ?_
    refine walk ?_
    refine finB [worldO H1 p w] ?_ (hs := ?_)
    · exact ⟨w, 4, .none (.inr (.inl k3)) hin, rfl, rfl⟩
    · refine Sub.trans ?_ (world_fold (nv := .slice base es.length cap) (nb := nb) (lv := lv) hns)
      exact subA
set_option maxHeartbeats 8000000 in
set_option maxRecDepth 20000 in
theorem play_copy {W0 : World} {H : Heap} {p n : Nat} {s : Value} {w : PW} {m : Move} (hs : SlB rWork 3 56 H s m.Works) (hnow : 0 ≤ w.now ∧ w.now ≤ 1073741824) (hk : fits m.Kind) (ha : fits m.A) (k4 : m.Kind = 4) :
    Ct Tryz.prog 6 #[ptrC p, .agg (m.cv s).toArray] W0 H [worldO H p w] (fun r H' B => PlayQ n H' p w m r B) := by
  have hb : okMv w m.Kind m.A m.Works.length := by unfold okMv; omega
  obtain ⟨b0, c0, rfl, _, _⟩ := hs.1.shape
  refine Ct.go (vs := [ptrC p, .agg (m.cv (.slice b0 m.Works.length c0)).toArray]) fun R => ?_
  refine ex_open (A := worldO H p w) (σ := Value × Nat × Value × List NE) (B := fun a => [wRow p a.1 a.2.1 (PW.now w) a.2.2.1, wNs a.1 a.2.2.2, bigL (ndP H) a.2.2.2, bigL (ndC H) a.2.2.2, Net.netO H (ptrC a.2.1) (PW.net w), wLog H a.2.2.1 (PW.log w)]) (p := fun a => PW.ns w = a.2.2.2.map NE.q) (by repeat (first | exact Has.here | apply Has.there)) (fun h ⟨nv, nb, lv, es, hb, hk⟩ => ⟨(nv, nb, lv, es), hk, hb⟩) fun ⟨nv, nb, lv, es⟩ hns => ?_
  dsimp only at hns ⊢
  refine ex_shape nv fun base cap e q1 q2 q3 => ?_
  subst e
  have hln : es.length = w.ns.length := by rw [hns, List.length_map]
  refine walk ?_
  refine ops_box rfl rfl fun p3 _ => ?_
  refine walk ?_
  refine ops_pcall rfl rfl (fits_spec (W0 := W0) (H := H) (p := p) (nb := nb) (cap := cap) (base := base) (lv := lv) (w := w) (m := m) hln hs hnow hk ha) ?_
  rw [decide_eq_true hb]
  refine walk ?_
  refine ex_any 7 [wRow p (.slice base es.length cap) nb w.now lv, row p3 33 (m.cv (.slice b0 m.Works.length c0))] ?_
  refine stepY 0 ?_; refine stepY 1 ?_; refine stepY 2 ?_; refine stepY 3 ?_; refine stepY 4 ?_; refine stepY 5 ?_
  by_cases hin : inN w.net m.A
  · obtain ⟨j, hj⟩ : ∃ j : Nat, m.A = j := ⟨m.A.toNat, by unfold inN at hin; omega⟩
    have hjl : j < w.net.length := by unfold inN at hin; omega
    by_cases hf : w.net.length < 64
    · have hcall := Net.copy_yes (W0 := W0) (H := H) (H0 := H) (p := ptrC nb) (ms := w.net) (.refl _) hjl hf
      rw [← hj] at hcall
      refine gny_call 6 rfl rfl rfl hcall fun r1 H1 B hl1 ⟨er, eB⟩ => ?_
      subst er eB
      refine ⟨subA, ?_⟩
      refine any_rest rfl ?_
      refine walk ?_
      refine finB [worldO H1 p { w with net := w.net ++ [w.net[j]] }] ?_ (hs := ?_)
      · exact ⟨_, 0, .copy k4 j hj hjl hf, rfl, rfl⟩
      · refine Sub.trans ?_ (world_shut (H1 := H) (H2 := H) (H3 := H1) (H4 := H) (w := { w with net := w.net ++ [w.net[j]] }) (nv := .slice base es.length cap) (nb := nb) (lv := lv) hns hl1 hl1 (.refl _) hl1)
        exact subA
    · have hcall := Net.copy_full (W0 := W0) (H := H) (H0 := H) (p := ptrC nb) (ms := w.net) (.refl _) hjl hf
      rw [← hj] at hcall
      refine gny_call 6 rfl rfl rfl hcall fun r1 H1 B hl1 ⟨er, eB⟩ => ?_
      subst er eB
      refine ⟨subA, ?_⟩
      refine any_rest rfl ?_
      refine walk ?_
      refine finB [worldO H1 p w] ?_ (hs := ?_)
      · exact ⟨_, 5, .full k4 j hj hjl hf, rfl, rfl⟩
      · refine Sub.trans ?_ (world_shut (H1 := H) (H2 := H) (H3 := H1) (H4 := H) (nv := .slice base es.length cap) (nb := nb) (lv := lv) hns hl1 hl1 (.refl _) hl1)
        exact subA
  · refine gny_call 6 rfl rfl rfl (Net.copy_no (W0 := W0) (H := H) (H0 := H) (p := ptrC nb) (ms := w.net) (i := m.A) (.refl _) hin) fun r1 H1 B hl1 ⟨er, eB, eH⟩ => ?_
    subst er eB eH
    refine ⟨subA, ?_⟩
    refine any_rest rfl ?_
    refine walk ?_
    refine finB [worldO H1 p w] ?_ (hs := ?_)
    · exact ⟨w, 4, .none (.inr (.inr (.inl k4))) hin, rfl, rfl⟩
    · refine Sub.trans ?_ (world_fold (nv := .slice base es.length cap) (nb := nb) (lv := lv) hns)
      exact subA
set_option maxHeartbeats 8000000 in
set_option maxRecDepth 20000 in
theorem play_tick {W0 : World} {H : Heap} {p n : Nat} {s : Value} {w : PW} {m : Move} (hs : SlB rWork 3 56 H s m.Works) (hnow : 0 ≤ w.now ∧ w.now ≤ 1073741824) (hk : fits m.Kind) (ha : fits m.A) (k6 : m.Kind = 6) (h0 : 0 ≤ m.A) (h1 : m.A ≤ 1073741824 - w.now) :
    Ct Tryz.prog 6 #[ptrC p, .agg (m.cv s).toArray] W0 H [worldO H p w] (fun r H' B => PlayQ n H' p w m r B) := by
  have hb : okMv w m.Kind m.A m.Works.length := by unfold okMv; omega
  obtain ⟨b0, c0, rfl, _, _⟩ := hs.1.shape
  refine Ct.go (vs := [ptrC p, .agg (m.cv (.slice b0 m.Works.length c0)).toArray]) fun R => ?_
  refine ex_open (A := worldO H p w) (σ := Value × Nat × Value × List NE) (B := fun a => [wRow p a.1 a.2.1 (PW.now w) a.2.2.1, wNs a.1 a.2.2.2, bigL (ndP H) a.2.2.2, bigL (ndC H) a.2.2.2, Net.netO H (ptrC a.2.1) (PW.net w), wLog H a.2.2.1 (PW.log w)]) (p := fun a => PW.ns w = a.2.2.2.map NE.q) (by repeat (first | exact Has.here | apply Has.there)) (fun h ⟨nv, nb, lv, es, hb, hk⟩ => ⟨(nv, nb, lv, es), hk, hb⟩) fun ⟨nv, nb, lv, es⟩ hns => ?_
  dsimp only at hns ⊢
  refine ex_shape nv fun base cap e q1 q2 q3 => ?_
  subst e
  have hln : es.length = w.ns.length := by rw [hns, List.length_map]
  refine walk ?_
  refine ops_box rfl rfl fun p3 _ => ?_
  refine walk ?_
  refine ops_pcall rfl rfl (fits_spec (W0 := W0) (H := H) (p := p) (nb := nb) (cap := cap) (base := base) (lv := lv) (w := w) (m := m) hln hs hnow hk ha) ?_
  rw [decide_eq_true hb]
  have hsum : fits (w.now + m.A) := by unfold fits; omega
  refine walk ?_
  refine ex_any 7 [wRow p (.slice base es.length cap) nb w.now lv, row p3 33 (m.cv (.slice b0 m.Works.length c0))] ?_
  refine stepY 0 ?_; refine stepY 1 ?_; refine stepY 2 ?_; refine stepY 3 ?_; refine stepY 4 ?_; refine stepY 5 ?_; refine stepY 6 ?_
  refine any_rest rfl ?_
  refine walk ?_
  refine finB [worldO H p { w with now := w.now + m.A }] ?_ (hs := ?_)
  · exact ⟨_, 0, .tick k6 h0 h1, rfl, rfl⟩
  · refine Sub.trans ?_ (world_fold (w := { w with now := w.now + m.A }) (nv := .slice base es.length cap) (nb := nb) (lv := lv) hns)
    exact subA
set_option maxHeartbeats 8000000 in
set_option maxRecDepth 20000 in
theorem play_crash {W0 : World} {H : Heap} {p n i : Nat} {s : Value} {w : PW} {m : Move} (KW : WOk n w) (hs : SlB rWork 3 56 H s m.Works) (hnow : 0 ≤ w.now ∧ w.now ≤ 1073741824) (hk : fits m.Kind) (ha : fits m.A) (k7 : m.Kind = 7) (hai : m.A = i) (hi : i < w.ns.length) :
    Ct Tryz.prog 6 #[ptrC p, .agg (m.cv s).toArray] W0 H [worldO H p w] (fun r H' B => PlayQ n H' p w m r B) := by
  have hb : okMv w m.Kind m.A m.Works.length := by unfold okMv isNode; omega
  obtain ⟨b0, c0, rfl, _, _⟩ := hs.1.shape
  refine Ct.go (vs := [ptrC p, .agg (m.cv (.slice b0 m.Works.length c0)).toArray]) fun R => ?_
  refine ex_open (A := worldO H p w) (σ := Value × Nat × Value × List NE) (B := fun a => [wRow p a.1 a.2.1 (PW.now w) a.2.2.1, wNs a.1 a.2.2.2, bigL (ndP H) a.2.2.2, bigL (ndC H) a.2.2.2, Net.netO H (ptrC a.2.1) (PW.net w), wLog H a.2.2.1 (PW.log w)]) (p := fun a => PW.ns w = a.2.2.2.map NE.q) (by repeat (first | exact Has.here | apply Has.there)) (fun h ⟨nv, nb, lv, es, hb, hk⟩ => ⟨(nv, nb, lv, es), hk, hb⟩) fun ⟨nv, nb, lv, es⟩ hns => ?_
  dsimp only at hns ⊢
  refine ex_shape nv fun base cap e q1 q2 q3 => ?_
  subst e
  have hln : es.length = w.ns.length := by rw [hns, List.length_map]
  refine walk ?_
  refine ops_box rfl rfl fun p3 _ => ?_
  refine walk ?_
  refine ops_pcall rfl rfl (fits_spec (W0 := W0) (H := H) (p := p) (nb := nb) (cap := cap) (base := base) (lv := lv) (w := w) (m := m) hln hs hnow hk ha) ?_
  rw [decide_eq_true hb]
  have hcall := crash_spec (W0 := W0) (H := H) (p := p) (nb := nb) (n := n) (i := i) (nv := .slice base es.length cap) (lv := lv) (w := w) (es := es) hns KW (by omega)
  rw [← hai] at hcall
  refine walk ?_
  refine ops_call rfl rfl hcall fun r1 H1 B hl1 ⟨w', es', hpc, hns', eB⟩ => ?_
  subst eB
  have hlog : w'.log = w.log := by cases hpc; rfl
  refine walk ?_
  refine finB [worldO H1 p w'] ?_ (hs := ?_)
  · exact ⟨w', 0, .crash k7 i hai hi w' hpc, rfl, rfl⟩
  · refine Sub.trans ?_ (world_shut (H1 := H1) (H2 := H1) (H3 := H1) (H4 := H) (w := w') (nv := .slice base es.length cap) (nb := nb) (lv := lv) hns' (.refl _) (.refl _) (.refl _) hl1)
    rw [hlog]
    exact subA
end Go.Proofs.YtpphdbnifbjfmaaGreatDoor
