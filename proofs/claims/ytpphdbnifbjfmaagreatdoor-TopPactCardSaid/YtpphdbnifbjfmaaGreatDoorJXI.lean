/- A move is played: a message comes, and the node may lose its power. -/
import Derived.Test.YtpphdbnifbjfmaaGreatDoorJXH
set_option linter.unusedVariables false
set_option linter.unusedSimpArgs false
namespace Go.Proofs.YtpphdbnifbjfmaaGreatDoor
open Go Go.Sx Go.Proofs
theorem cHear_ts {n : Nat} {s : CS} (I : CInv n s) {m : Message} {k : K3} {t' : TX} (h : mget k (cHear s m).s.ts = some t') : ∃ t, mget k s.ts = some t ∧ t'.parts = t.parts := by
  have hcut : ∀ {x : K3}, mget k (s.cut x).ts = some t' → ∃ t, mget k s.ts = some t ∧ t'.parts = t.parts := fun {x} h => ⟨t', mget_mdel_some I.nd h, rfl⟩
  have hput : ∀ {x : Txn} {t : TX}, s.isT x → t.parts = (s.tx x).parts → mget k (s.put x.k t).ts = some t' → ∃ t, mget k s.ts = some t ∧ t'.parts = t.parts := fun {x t} hx hp h => by
    have h' : mget k (mset x.k t s.ts) = some t' := h
    rw [mget_mset] at h'
    split at h'
    · next e => cases h'; exact ⟨s.tx x, e ▸ CS.get_tx hx, hp⟩
    · exact ⟨t', h', rfl⟩
  unfold cHear at h
  split at h
  · exact ⟨t', h, rfl⟩
  split at h
  · exact ⟨t', h, rfl⟩
  split at h
  · exact hcut h
  split at h
  · next hh =>
    split at h
    · exact hput (t := hear1 (s.tx m.Txn) m.From) hh.2.1.1 rfl h
    · exact hput (t := openT (s.tx m.Txn)) hh.2.1.1 rfl h
  split at h
  · next hh =>
    split at h
    · exact hput (t := hear1 (s.tx m.Txn) m.From) hh.2.1.1 rfl h
    · exact hcut h
  · exact ⟨t', h, rfl⟩
theorem cHear_node {s : CS} {m : Message} : (cHear s m).s.node = s.node := by
  unfold cHear
  repeat' split
  all_goals rfl
theorem hearS_sh {s : PS} {m : Message} {cs : List Value} : (hearS s m cs).sh = s.sh := by
  unfold hearS
  repeat' split
  all_goals rfl
theorem WOk.set {n n' i : Nat} {w w' : PW} {q : PN} (K : WOk n w) (hn : n ≤ n') (hn5 : n' ≤ 500) (hi : i < w.ns.length) (hw : w'.ns = w.ns.set i q) (hll : w'.log.length ≤ 900000000) (hp : PInv n' q.ps) (hc : CInv n' q.cs) (hpl : ∀ k t, mget k q.cs.ts = some t → t.parts.length ≤ 1000) (hf : fits (q.cs.life + 1)) (h1 : q.ps.sh = i) (h2 : q.cs.node = i) : WOk n' w' := by
  have hm : ∀ x ∈ w'.ns, x ∈ w.ns ∨ x = q := fun x hx => by rw [hw] at hx; exact List.mem_or_eq_of_mem_set hx
  refine ⟨fun x hx => ?_, fun x hx => ?_, fun x hx => ?_, hn5, hll, fun x hx => ?_, fun j hj => ?_⟩
  · rcases hm x hx with hx | rfl
    · exact (K.p x hx).more hn
    · exact hp
  · rcases hm x hx with hx | rfl
    · exact (K.c x hx).more hn
    · exact hc
  · rcases hm x hx with hx | rfl
    · exact K.pl x hx
    · exact hpl
  · rcases hm x hx with hx | rfl
    · exact K.fn x hx
    · exact hf
  · have hj' : j < w.ns.length := by rw [hw, List.length_set] at hj; exact hj
    simp only [hw, List.getElem_set]
    split
    · next e => subst e; exact ⟨h1, h2⟩
    · exact K.sh j hj'
theorem noteL_len {p : Int} {l : List Rec} : (noteL p l).length = l.length := List.length_map ..
theorem PHear.len {w w' : PW} {m : Message} {out : List Message} (h : PHear w m w' out) : w'.log.length ≤ w.log.length + 1 := by
  cases h with
  | part k i hm h cs =>
    show (w.log ++ noteL m.To _).length ≤ _
    rw [List.length_append, noteL_len]
    have := HMid.rcl (q := w.ns[i]) (m := m) (.inl ⟨k, cs, rfl, rfl, rfl⟩)
    omega
  | coord k i hm h =>
    show (w.log ++ noteL m.To _).length ≤ _
    rw [List.length_append, noteL_len]
    have := HMid.rcl (q := w.ns[i]) (m := m) (.inr ⟨k, rfl, rfl, rfl⟩)
    omega
theorem WOk.hear {n : Nat} {w w' : PW} {m : Message} {out : List Message} (K : WOk n w) (hn : n + 1 ≤ 500) (hl : w.log.length + 1 ≤ 900000000) (hm : OkM m) (h : PHear w m w' out) : WOk (n + 1) w' := by
  have hlen := h.len
  cases h with
  | part k i hmi h cs =>
    have hq : w.ns[i] ∈ w.ns := List.getElem_mem h
    exact K.set (q := ⟨hearS w.ns[i].ps m cs, w.ns[i].cs⟩) (Nat.le_succ n) hn h rfl (by omega) ((K.p _ hq).hear hm) ((K.c _ hq).more (Nat.le_succ n)) (by exact K.pl w.ns[i] hq) (by exact K.fn w.ns[i] hq) (hearS_sh.trans (K.sh i h).1) (K.sh i h).2
  | coord k i hmi h =>
    have hq : w.ns[i] ∈ w.ns := List.getElem_mem h
    refine K.set (q := ⟨w.ns[i].ps, (cHear w.ns[i].cs m).s⟩) (Nat.le_succ n) hn h rfl (by omega) ((K.p _ hq).more (Nat.le_succ n)) ((K.c _ hq).hear.more (Nat.le_succ n)) (fun kk t ht => ?_) ?_ (K.sh i h).1 (cHear_node.trans (K.sh i h).2)
    · obtain ⟨t0, h0, h1⟩ := cHear_ts (K.c _ hq) ht
      rw [h1]; exact K.pl _ hq kk t0 h0
    · show fits ((cHear w.ns[i].cs m).s.life + 1)
      rw [cHear_life]; exact K.fn _ hq
theorem okz : Net.okM zMessage := by unfold Net.okM zMessage; simp [fits0]
def DelQ (w : PW) (a : Int) (g : Message) (e : Int) (l : List Message) : Prop := (e = 0 ∧ ∃ (j : Nat) (h : j < w.net.length), a = j ∧ g = w.net[j] ∧ l = delM w.net j) ∨ (e = 4 ∧ ¬ inN w.net a ∧ g = zMessage ∧ l = w.net)
set_option maxHeartbeats 16000000 in
set_option maxRecDepth 20000 in
theorem play_deliver {W0 : World} {H : Heap} {p n : Nat} {s : Value} {w : PW} {m : Move} (hP : PkH H) (KW : WOk n w) (hn : n + 1 ≤ 500) (hll : w.log.length + 1 ≤ 900000000) (hmok : ∀ g ∈ w.net, OkM g ∧ isNode w g.To) (hs : SlB rWork 3 56 H s m.Works) (hnow : 0 ≤ w.now ∧ w.now ≤ 1073741824) (hk : fits m.Kind) (ha : fits m.A) (k2 : m.Kind = 2) :
    Ct Tryz.prog 6 #[ptrC p, .agg (m.cv s).toArray] W0 H [worldO H p w] (fun r H' B => PlayQ (n + 1) H' p w m r B) := by
  have hb : okMv w m.Kind m.A m.Works.length := by unfold okMv; omega
  obtain ⟨b0, c0, rfl, _, _⟩ := hs.1.shape
  refine Ct.go (vs := [ptrC p, .agg (m.cv (.slice b0 m.Works.length c0)).toArray]) fun R => ?_
  refine ex_open (A := worldO H p w) (σ := Value × Nat × Value × List NE) (B := fun a => [wRow p a.1 a.2.1 (PW.now w) a.2.2.1, wNs a.1 a.2.2.2, bigL (ndP H) a.2.2.2, bigL (ndC H) a.2.2.2, Net.netO H (ptrC a.2.1) (PW.net w), wLog H a.2.2.1 (PW.log w)]) (p := fun a => PW.ns w = a.2.2.2.map NE.q) (by repeat (first | exact Has.here | apply Has.there)) (fun h ⟨nv, nb, lv, es, hb, hk⟩ => ⟨(nv, nb, lv, es), hk, hb⟩) fun ⟨nv, nb, lv, es⟩ hns => ?_
  dsimp only at hns ⊢
  refine ex_shape nv fun base cap e q1 q2 q3 => ?_
  subst e
  have hln : es.length = w.ns.length := by rw [hns, List.length_map]
  refine walk ?_
  refine ops_box rfl rfl fun p3 _ => ?_
  refine walk ?_
  refine ops_pcall rfl rfl (fits_spec (W0 := W0) (H := H) (p := p) (nb := nb) (cap := cap) (base := base) (lv := lv) (w := w) (m := m) hln hs hnow hk ha) ?_
  rw [decide_eq_true hb]
  have hqn := KW.n
  refine ops_know (by repeat (first | exact Has.here | apply Has.there)) (p := ∀ g ∈ w.net, Net.okM g) (A := Net.netO H (ptrC nb) w.net) (fun h => Net.netO_ok) fun hokn => ?_
  refine walk ?_
  refine ex_cutk (σ := Message × ((Option Addr × Nat) × (Option Addr × Nat) × (Option Addr × Nat) × (Option Addr × Nat)) × Int × List Message × Nat × Heap) (fun u => DelQ w m.A u.1 u.2.2.1 u.2.2.2.1 ∧ rMessage u.2.2.2.2.2 (Net.cvM u.2.1.1 u.2.1.2.1 u.2.1.2.2.1 u.2.1.2.2.2 u.1) u.1 ∧ H.le u.2.2.2.2.2) (fun u => [(0, ptrC p), (3, .pointer (some ⟨p3, 0, none⟩)), (8, ptrC u.2.2.2.2.1), (9, I u.2.2.1)]) (fun u => u.2.2.2.2.2)
    (fun u => row u.2.2.2.2.1 81 (Net.cvM u.2.1.1 u.2.1.2.1 u.2.1.2.2.1 u.2.1.2.2.2 u.1) :: row p3 33 (m.cv (.slice b0 m.Works.length c0)) :: wRow p (.slice base es.length cap) nb w.now lv :: wNs (.slice base es.length cap) es :: bigL (ndP H) es :: bigL (ndC H) es :: Net.netO H (ptrC nb) u.2.2.2.1 :: wLog H lv w.log :: R) (fun K hK => ?_) fun ⟨g, ⟨t1, t2, t3, t4⟩, ee, l, p8, H1⟩ ⟨hD, hcm, hl1⟩ => ?_
  · refine ex_any 13 [wRow p (.slice base es.length cap) nb w.now lv, row p3 33 (m.cv (.slice b0 m.Works.length c0))] ?_
    refine stepY 0 ?_; refine stepY 1 ?_; refine stepY 2 ?_; refine stepY 3 ?_; refine stepY 4 ?_; refine stepY 5 ?_
    by_cases hin : inN w.net m.A
    · obtain ⟨j, hj⟩ : ∃ j : Nat, m.A = j := ⟨m.A.toNat, by unfold inN at hin; omega⟩
      have hjl : j < w.net.length := by unfold inN at hin; omega
      have hok := hokn _ (List.getElem_mem hjl)
      have hcall := Net.deliver_yes (W0 := W0) (H := H) (H0 := H) (p := ptrC nb) (ms := w.net) (.refl _) hjl
      rw [← hj] at hcall
      refine any_ca 6 10 rfl rfl rfl hcall (fun r1 H1 B hl1 ⟨⟨t1, t2, t3, t4, er, eB⟩, eH⟩ => ?_) (fun p8 _ => ?_)
      · subst er eB eH
        refine ⟨subA, ?_⟩
        refine stepY 7 ?_
        refine gny_ext 8 rfl rfl rfl rfl ?_
        refine gny_ext 9 rfl rfl rfl rfl ?_
        refine gny_alloc 10 rfl rfl fun p8 _ => ?_
        refine any_sta 11 rfl rfl rfl rfl (by simp) rfl ⟨subA, ?_⟩
        refine stepY 12 ?_
        refine any_rest rfl ?_
        refine Net.ops_frzM t1 t2 t3 t4 (w.net[j]) hok fun H2 hl2 hcm => ?_
        refine walk ?_
        refine out_to hK (w.net[j], (t1, t2, t3, t4), 0, delM w.net j, p8, H2) ⟨.inl ⟨rfl, j, hjl, hj, rfl, rfl⟩, hcm, hl1.trans hl2⟩
      · refine gny_call 6 rfl rfl rfl hcall fun r1 H1 B hl1 ⟨⟨t1, t2, t3, t4, er, eB⟩, eH⟩ => ?_
        subst er eB eH
        refine ⟨subA, ?_⟩
        refine stepY 7 ?_
        refine gny_ext 8 rfl rfl rfl rfl ?_
        refine gny_ext 9 rfl rfl rfl rfl ?_
        refine any_sta 11 rfl rfl rfl rfl (by simp) rfl ⟨subA, ?_⟩
        refine stepY 12 ?_
        refine any_rest rfl ?_
        refine Net.ops_frzM t1 t2 t3 t4 (w.net[j]) hok fun H2 hl2 hcm => ?_
        refine walk ?_
        refine out_to hK (w.net[j], (t1, t2, t3, t4), 0, delM w.net j, p8, H2) ⟨.inl ⟨rfl, j, hjl, hj, rfl, rfl⟩, hcm, hl1.trans hl2⟩
    · have hok := okz
      have hcall := Net.deliver_no (W0 := W0) (H := H) (H0 := H) (p := ptrC nb) (ms := w.net) (i := m.A) (.refl _) hin
      refine any_ca 6 10 rfl rfl rfl hcall (fun r1 H1 B hl1 ⟨⟨t1, t2, t3, t4, er, eB⟩, eH⟩ => ?_) (fun p8 _ => ?_)
      · subst er eB eH
        refine ⟨subA, ?_⟩
        refine stepY 7 ?_
        refine gny_ext 8 rfl rfl rfl rfl ?_
        refine gny_ext 9 rfl rfl rfl rfl ?_
        refine gny_alloc 10 rfl rfl fun p8 _ => ?_
        refine any_sta 11 rfl rfl rfl rfl (by simp) rfl ⟨subA, ?_⟩
        refine stepY 12 ?_
        refine any_rest rfl ?_
        refine Net.ops_frzM t1 t2 t3 t4 (zMessage) hok fun H2 hl2 hcm => ?_
        refine walk ?_
        refine out_to hK (zMessage, (t1, t2, t3, t4), 4, w.net, p8, H2) ⟨.inr ⟨rfl, hin, rfl, rfl⟩, hcm, hl1.trans hl2⟩
      · refine gny_call 6 rfl rfl rfl hcall fun r1 H1 B hl1 ⟨⟨t1, t2, t3, t4, er, eB⟩, eH⟩ => ?_
        subst er eB eH
        refine ⟨subA, ?_⟩
        refine stepY 7 ?_
        refine gny_ext 8 rfl rfl rfl rfl ?_
        refine gny_ext 9 rfl rfl rfl rfl ?_
        refine any_sta 11 rfl rfl rfl rfl (by simp) rfl ⟨subA, ?_⟩
        refine stepY 12 ?_
        refine any_rest rfl ?_
        refine Net.ops_frzM t1 t2 t3 t4 (zMessage) hok fun H2 hl2 hcm => ?_
        refine walk ?_
        refine out_to hK (zMessage, (t1, t2, t3, t4), 4, w.net, p8, H2) ⟨.inr ⟨rfl, hin, rfl, rfl⟩, hcm, hl1.trans hl2⟩
  simp only at hD hcm hl1
  dsimp only
  rcases hD with ⟨he, j, hj, haj, hg, hl⟩ | ⟨he, hin, hg, hl⟩
  rotate_left
  · subst he hl
    refine walk ?_
    refine finB [worldO H1 p w] ?_ (hs := ?_)
    · exact ⟨w, 4, .none (by omega) hin, rfl, rfl⟩
    · refine Sub.trans ?_ (world_shut (H1 := H) (H2 := H) (H3 := H) (H4 := H) (nv := .slice base es.length cap) (nb := nb) (lv := lv) hns hl1 hl1 hl1 hl1)
      exact subA
  subst he
  have hgm : g ∈ w.net := by rw [hg]; exact List.getElem_mem hj
  obtain ⟨hgo, hgn⟩ := hmok g hgm
  refine walk ?_
  refine ops_L (L' := row p8 81 (Net.cvM t1 t2 t3 t4 g) :: row p3 33 (m.cv (.slice b0 m.Works.length c0)) :: Net.netO H (ptrC nb) l :: wRow p (.slice base es.length cap) nb w.now lv :: wNs (.slice base es.length cap) es :: bigL (ndP H1) es :: bigL (ndC H1) es :: wLog H1 lv w.log :: R) ?_ ?_
  · refine Sub.trans (B := bigL (ndP H) es :: bigL (ndC H) es :: wLog H lv w.log :: row p8 81 (Net.cvM t1 t2 t3 t4 g) :: row p3 33 (m.cv (.slice b0 m.Works.length c0)) :: Net.netO H (ptrC nb) l :: wRow p (.slice base es.length cap) nb w.now lv :: wNs (.slice base es.length cap) es :: R) subA ?_
    refine Sub.trans (Sub.trans (ndP_up hl1) (Sub.cons (Sub.trans (ndC_up hl1) (Sub.cons (log_up hl1))))) ?_
    exact subA
  have KW1 : WOk n { w with net := l } := ⟨KW.p, KW.c, KW.pl, KW.n, KW.ll, KW.fn, KW.sh⟩
  refine ops_call rfl rfl (hearW_spec (W0 := W0) (H := H1) (p := p) (nb := nb) (n := n) (nv := .slice base es.length cap) (lv := lv) (w := { w with net := l }) (m := g) (es := es) (hP.mono hl1) hns KW1 hgo hcm hgn) fun r3 H3 B hl3 ⟨w', out, es', lv', hh, hns', eB⟩ => ?_
  subst eB
  have hnet : w'.net = l := by cases hh <;> rfl
  have hnow' : w'.now = w.now := by cases hh <;> rfl
  have KW2 : WOk (n + 1) w' := KW1.hear hn hll hgo hh
  rw [hl, hg] at hh
  refine ops_freeze r3 fun H4 hl4 hso => ?_
  refine walk ?_
  refine ops_call rfl rfl (send_spec (W0 := W0) (H := H4) (H0 := H) (p := p) (nb := nb) (nv := .slice base es.length cap) (lv := lv') (v := r3) (now := w'.now) (l := l) (ms := out) (hl1.trans (hl3.trans hl4)) hso.1) fun r5 H5 B hl5 eB => ?_
  subst eB
  refine walk ?_
  have hl35 := hl4.trans hl5
  refine finB [worldO H5 p { w' with net := sendL w'.net out }] ?_ (hs := ?_)
  · exact ⟨_, 0, .deliver k2 j haj hj w' out hh, rfl, rfl⟩
  · refine Sub.trans ?_ (world_shut (H1 := H3) (H2 := H3) (H3 := H5) (H4 := H3) (w := { w' with net := sendL w'.net out }) (nv := .slice base es.length cap) (nb := nb) (lv := lv') hns' hl35 hl35 (.refl _) hl35)
    rw [hnet]
    exact subA
set_option maxHeartbeats 16000000 in
set_option maxRecDepth 20000 in
theorem play_fail {W0 : World} {H : Heap} {p n : Nat} {s : Value} {w : PW} {m : Move} (hP : PkH H) (KW : WOk n w) (hn : n + 1 ≤ 500) (hll : w.log.length + 1 ≤ 900000000) (hmok : ∀ g ∈ w.net, OkM g ∧ isNode w g.To) (hs : SlB rWork 3 56 H s m.Works) (hnow : 0 ≤ w.now ∧ w.now ≤ 1073741824) (hk : fits m.Kind) (ha : fits m.A) (k8 : m.Kind = 8) :
    Ct Tryz.prog 6 #[ptrC p, .agg (m.cv s).toArray] W0 H [worldO H p w] (fun r H' B => PlayQ (n + 1) H' p w m r B) := by
  have hb : okMv w m.Kind m.A m.Works.length := by unfold okMv; omega
  obtain ⟨b0, c0, rfl, _, _⟩ := hs.1.shape
  refine Ct.go (vs := [ptrC p, .agg (m.cv (.slice b0 m.Works.length c0)).toArray]) fun R => ?_
  refine ex_open (A := worldO H p w) (σ := Value × Nat × Value × List NE) (B := fun a => [wRow p a.1 a.2.1 (PW.now w) a.2.2.1, wNs a.1 a.2.2.2, bigL (ndP H) a.2.2.2, bigL (ndC H) a.2.2.2, Net.netO H (ptrC a.2.1) (PW.net w), wLog H a.2.2.1 (PW.log w)]) (p := fun a => PW.ns w = a.2.2.2.map NE.q) (by repeat (first | exact Has.here | apply Has.there)) (fun h ⟨nv, nb, lv, es, hb, hk⟩ => ⟨(nv, nb, lv, es), hk, hb⟩) fun ⟨nv, nb, lv, es⟩ hns => ?_
  dsimp only at hns ⊢
  refine ex_shape nv fun base cap e q1 q2 q3 => ?_
  subst e
  have hln : es.length = w.ns.length := by rw [hns, List.length_map]
  refine walk ?_
  refine ops_box rfl rfl fun p3 _ => ?_
  refine walk ?_
  refine ops_pcall rfl rfl (fits_spec (W0 := W0) (H := H) (p := p) (nb := nb) (cap := cap) (base := base) (lv := lv) (w := w) (m := m) hln hs hnow hk ha) ?_
  rw [decide_eq_true hb]
  have hqn := KW.n
  refine ops_know (by repeat (first | exact Has.here | apply Has.there)) (p := ∀ g ∈ w.net, Net.okM g) (A := Net.netO H (ptrC nb) w.net) (fun h => Net.netO_ok) fun hokn => ?_
  refine walk ?_
  refine ex_cutk (σ := Message × ((Option Addr × Nat) × (Option Addr × Nat) × (Option Addr × Nat) × (Option Addr × Nat)) × Int × List Message × Nat × Heap) (fun u => DelQ w m.A u.1 u.2.2.1 u.2.2.2.1 ∧ rMessage u.2.2.2.2.2 (Net.cvM u.2.1.1 u.2.1.2.1 u.2.1.2.2.1 u.2.1.2.2.2 u.1) u.1 ∧ H.le u.2.2.2.2.2) (fun u => [(0, ptrC p), (3, .pointer (some ⟨p3, 0, none⟩)), (8, ptrC u.2.2.2.2.1), (9, I u.2.2.1)]) (fun u => u.2.2.2.2.2)
    (fun u => row u.2.2.2.2.1 81 (Net.cvM u.2.1.1 u.2.1.2.1 u.2.1.2.2.1 u.2.1.2.2.2 u.1) :: row p3 33 (m.cv (.slice b0 m.Works.length c0)) :: wRow p (.slice base es.length cap) nb w.now lv :: wNs (.slice base es.length cap) es :: bigL (ndP H) es :: bigL (ndC H) es :: Net.netO H (ptrC nb) u.2.2.2.1 :: wLog H lv w.log :: R) (fun K hK => ?_) fun ⟨g, ⟨t1, t2, t3, t4⟩, ee, l, p8, H1⟩ ⟨hD, hcm, hl1⟩ => ?_
  · refine ex_any 13 [wRow p (.slice base es.length cap) nb w.now lv, row p3 33 (m.cv (.slice b0 m.Works.length c0))] ?_
    refine stepY 0 ?_; refine stepY 1 ?_; refine stepY 2 ?_; refine stepY 3 ?_; refine stepY 4 ?_; refine stepY 5 ?_
    by_cases hin : inN w.net m.A
    · obtain ⟨j, hj⟩ : ∃ j : Nat, m.A = j := ⟨m.A.toNat, by unfold inN at hin; omega⟩
      have hjl : j < w.net.length := by unfold inN at hin; omega
      have hok := hokn _ (List.getElem_mem hjl)
      have hcall := Net.deliver_yes (W0 := W0) (H := H) (H0 := H) (p := ptrC nb) (ms := w.net) (.refl _) hjl
      rw [← hj] at hcall
      refine any_ca 6 10 rfl rfl rfl hcall (fun r1 H1 B hl1 ⟨⟨t1, t2, t3, t4, er, eB⟩, eH⟩ => ?_) (fun p8 _ => ?_)
      · subst er eB eH
        refine ⟨subA, ?_⟩
        refine stepY 7 ?_
        refine gny_ext 8 rfl rfl rfl rfl ?_
        refine gny_ext 9 rfl rfl rfl rfl ?_
        refine gny_alloc 10 rfl rfl fun p8 _ => ?_
        refine any_sta 11 rfl rfl rfl rfl (by simp) rfl ⟨subA, ?_⟩
        refine stepY 12 ?_
        refine any_rest rfl ?_
        refine Net.ops_frzM t1 t2 t3 t4 (w.net[j]) hok fun H2 hl2 hcm => ?_
        refine walk ?_
        refine out_to hK (w.net[j], (t1, t2, t3, t4), 0, delM w.net j, p8, H2) ⟨.inl ⟨rfl, j, hjl, hj, rfl, rfl⟩, hcm, hl1.trans hl2⟩
      · refine gny_call 6 rfl rfl rfl hcall fun r1 H1 B hl1 ⟨⟨t1, t2, t3, t4, er, eB⟩, eH⟩ => ?_
        subst er eB eH
        refine ⟨subA, ?_⟩
        refine stepY 7 ?_
        refine gny_ext 8 rfl rfl rfl rfl ?_
        refine gny_ext 9 rfl rfl rfl rfl ?_
        refine any_sta 11 rfl rfl rfl rfl (by simp) rfl ⟨subA, ?_⟩
        refine stepY 12 ?_
        refine any_rest rfl ?_
        refine Net.ops_frzM t1 t2 t3 t4 (w.net[j]) hok fun H2 hl2 hcm => ?_
        refine walk ?_
        refine out_to hK (w.net[j], (t1, t2, t3, t4), 0, delM w.net j, p8, H2) ⟨.inl ⟨rfl, j, hjl, hj, rfl, rfl⟩, hcm, hl1.trans hl2⟩
    · have hok := okz
      have hcall := Net.deliver_no (W0 := W0) (H := H) (H0 := H) (p := ptrC nb) (ms := w.net) (i := m.A) (.refl _) hin
      refine any_ca 6 10 rfl rfl rfl hcall (fun r1 H1 B hl1 ⟨⟨t1, t2, t3, t4, er, eB⟩, eH⟩ => ?_) (fun p8 _ => ?_)
      · subst er eB eH
        refine ⟨subA, ?_⟩
        refine stepY 7 ?_
        refine gny_ext 8 rfl rfl rfl rfl ?_
        refine gny_ext 9 rfl rfl rfl rfl ?_
        refine gny_alloc 10 rfl rfl fun p8 _ => ?_
        refine any_sta 11 rfl rfl rfl rfl (by simp) rfl ⟨subA, ?_⟩
        refine stepY 12 ?_
        refine any_rest rfl ?_
        refine Net.ops_frzM t1 t2 t3 t4 (zMessage) hok fun H2 hl2 hcm => ?_
        refine walk ?_
        refine out_to hK (zMessage, (t1, t2, t3, t4), 4, w.net, p8, H2) ⟨.inr ⟨rfl, hin, rfl, rfl⟩, hcm, hl1.trans hl2⟩
      · refine gny_call 6 rfl rfl rfl hcall fun r1 H1 B hl1 ⟨⟨t1, t2, t3, t4, er, eB⟩, eH⟩ => ?_
        subst er eB eH
        refine ⟨subA, ?_⟩
        refine stepY 7 ?_
        refine gny_ext 8 rfl rfl rfl rfl ?_
        refine gny_ext 9 rfl rfl rfl rfl ?_
        refine any_sta 11 rfl rfl rfl rfl (by simp) rfl ⟨subA, ?_⟩
        refine stepY 12 ?_
        refine any_rest rfl ?_
        refine Net.ops_frzM t1 t2 t3 t4 (zMessage) hok fun H2 hl2 hcm => ?_
        refine walk ?_
        refine out_to hK (zMessage, (t1, t2, t3, t4), 4, w.net, p8, H2) ⟨.inr ⟨rfl, hin, rfl, rfl⟩, hcm, hl1.trans hl2⟩
  simp only at hD hcm hl1
  dsimp only
  rcases hD with ⟨he, j, hj, haj, hg, hl⟩ | ⟨he, hin, hg, hl⟩
  rotate_left
  · subst he hl
    refine walk ?_
    refine finB [worldO H1 p w] ?_ (hs := ?_)
    · exact ⟨w, 4, .none (by omega) hin, rfl, rfl⟩
    · refine Sub.trans ?_ (world_shut (H1 := H) (H2 := H) (H3 := H) (H4 := H) (nv := .slice base es.length cap) (nb := nb) (lv := lv) hns hl1 hl1 hl1 hl1)
      exact subA
  subst he
  have hgm : g ∈ w.net := by rw [hg]; exact List.getElem_mem hj
  obtain ⟨hgo, hgn⟩ := hmok g hgm
  refine walk ?_
  refine ops_L (L' := row p8 81 (Net.cvM t1 t2 t3 t4 g) :: row p3 33 (m.cv (.slice b0 m.Works.length c0)) :: Net.netO H (ptrC nb) l :: wRow p (.slice base es.length cap) nb w.now lv :: wNs (.slice base es.length cap) es :: bigL (ndP H1) es :: bigL (ndC H1) es :: wLog H1 lv w.log :: R) ?_ ?_
  · refine Sub.trans (B := bigL (ndP H) es :: bigL (ndC H) es :: wLog H lv w.log :: row p8 81 (Net.cvM t1 t2 t3 t4 g) :: row p3 33 (m.cv (.slice b0 m.Works.length c0)) :: Net.netO H (ptrC nb) l :: wRow p (.slice base es.length cap) nb w.now lv :: wNs (.slice base es.length cap) es :: R) subA ?_
    refine Sub.trans (Sub.trans (ndP_up hl1) (Sub.cons (Sub.trans (ndC_up hl1) (Sub.cons (log_up hl1))))) ?_
    exact subA
  have KW1 : WOk n { w with net := l } := ⟨KW.p, KW.c, KW.pl, KW.n, KW.ll, KW.fn, KW.sh⟩
  refine ops_call rfl rfl (hearW_spec (W0 := W0) (H := H1) (p := p) (nb := nb) (n := n) (nv := .slice base es.length cap) (lv := lv) (w := { w with net := l }) (m := g) (es := es) (hP.mono hl1) hns KW1 hgo hcm hgn) fun r3 H3 B hl3 ⟨w', out, es', lv', hh, hns', eB⟩ => ?_
  subst eB
  have hnet : w'.net = l := by cases hh <;> rfl
  have hnow' : w'.now = w.now := by cases hh <;> rfl
  have KW2 : WOk (n + 1) w' := KW1.hear hn hll hgo hh
  rw [hl, hg] at hh
  have hgt : ∃ i : Nat, g.To = i ∧ i < es'.length := by
    refine ⟨g.To.toNat, by unfold isNode at hgn; omega, ?_⟩
    have h1 : w'.ns.length = w.ns.length := by cases hh <;> exact List.length_set ..
    have h2 : w'.ns.length = es'.length := by rw [hns', List.length_map]
    unfold isNode at hgn
    omega
  obtain ⟨i, hgi, hil⟩ := hgt
  have hcall := crash_spec (W0 := W0) (H := H3) (p := p) (nb := nb) (n := n + 1) (i := i) (nv := .slice base es.length cap) (lv := lv') (w := w') (es := es') hns' KW2 hil
  rw [← hgi, hnet] at hcall
  refine ops_L (L' := wRow p (.slice base es.length cap) nb w'.now lv' :: wNs (.slice base es.length cap) es' :: bigL (ndP H3) es' :: bigL (ndC H3) es' :: Net.netO H3 (ptrC nb) l :: wLog H3 lv' w'.log :: row p8 81 (Net.cvM t1 t2 t3 t4 g) :: row p3 33 (m.cv (.slice b0 m.Works.length c0)) :: R) ?_ ?_
  · refine Sub.trans (B := Net.netO H (ptrC nb) l :: wRow p (.slice base es.length cap) nb w'.now lv' :: wNs (.slice base es.length cap) es' :: bigL (ndP H3) es' :: bigL (ndC H3) es' :: wLog H3 lv' w'.log :: row p8 81 (Net.cvM t1 t2 t3 t4 g) :: row p3 33 (m.cv (.slice b0 m.Works.length c0)) :: R) subA ?_
    refine Sub.trans (Net.netO_up (hl1.trans hl3)) ?_
    exact subA
  refine walk ?_
  refine ops_call rfl rfl hcall fun r5 H5 B hl5 ⟨w'', es'', hpc, hns'', eB⟩ => ?_
  subst eB
  have hlog : w''.log = w'.log := by cases hpc; rfl
  refine walk ?_
  refine finB [worldO H5 p w''] ?_ (hs := ?_)
  · exact ⟨w'', 0, .fail k8 j haj hj w' w'' out hh i (by rw [← hg]; exact hgi) hpc, rfl, rfl⟩
  · refine Sub.trans ?_ (world_shut (H1 := H5) (H2 := H5) (H3 := H5) (H4 := H3) (w := w'') (nv := .slice base es.length cap) (nb := nb) (lv := lv') hns'' (.refl _) (.refl _) (.refl _) hl5)
    rw [hlog]
    exact subA
end Go.Proofs.YtpphdbnifbjfmaaGreatDoor
