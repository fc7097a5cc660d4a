/- Expire, walked. -/
import Derived.Test.YtkhbfjkioehgfaaGreatDoorLO
import Derived.Test.YtkhbfjkioehgfaaGreatDoorLR
set_option linter.unusedVariables false
set_option linter.unusedSimpArgs false
namespace Go.Proofs.YtkhbfjkioehgfaaGreatDoor
open Go Go.Sx Go.Proofs
open Classical in
/-- a key whose tick has gone by -/
noncomputable def goneK (now : Int) (k : ByteArray) : Bool := decide (∃ q, isKey k.data.toList q ∧ q.2.2 < now)
open Classical in
theorem goneK_yes {now : Int} {k : ByteArray} {a b t : Int} (h : isKey k.data.toList (a, b, t)) : goneK now k = true ↔ t < now := by
  unfold goneK
  rw [decide_eq_true_eq]
  constructor
  · rintro ⟨q, hq, hl⟩
    have e := h.uniq hq
    subst e
    exact hl
  · intro hl
    exact ⟨_, h, hl⟩
open Classical in
theorem goneK_no {now : Int} {k : ByteArray} (h : ∀ q, ¬ isKey k.data.toList q) : goneK now k = false := by
  unfold goneK
  rw [decide_eq_false_iff_not]
  rintro ⟨q, hq, _⟩
  exact h q hq
/-- the held keys without those -/
noncomputable def letGo (now : Int) (ks : List ByteArray) (l : List (ByteArray × Int)) : List (ByteArray × Int) := ks.foldl (fun l k => if goneK now k = true then mdel k l else l) l
theorem letGo_snoc {now : Int} {ks : List ByteArray} {k : ByteArray} {l : List (ByteArray × Int)} : letGo now (ks ++ [k]) l = if goneK now k = true then mdel k (letGo now ks l) else letGo now ks l := by unfold letGo; rw [List.foldl_append]; rfl
noncomputable def expireT (s : TS) (now : Int) : TS := ⟨letGo now (sortT (s.held.map (·.1))) s.held, s.locked, s.works⟩
noncomputable def expireL (s : TS) (now : Int) : List ByteArray := (sortT (s.held.map (·.1))).filter (goneK now)
theorem sb_self (k : ByteArray) : sb k.data.toList = k := (sb_of k).symm
set_option maxHeartbeats 4000000 in
theorem expire_spec {W0 : World} {H : Heap} {p : Nat} {s : TS} {now : Int} (hP : PkH H) (hs : TsOk s) :
    Ct Tryz.prog 13 #[.pointer (some ⟨p, 0, none⟩), I now] W0 H [tabO H p s] (fun r H' B => B = [ownS rStr 1 16 9 H' r (expireL s now), tabO H' p (expireT s now)]) := by
  refine Ct.go (vs := [.pointer (some ⟨p, 0, none⟩), I now]) fun R => ?_
  have hn := hs.hn
  have hcap : (1000000 : Nat) * 16 ≤ cap47 := by decide
  refine ex_open (A := tabO H p s) (σ := Nat × Nat × Nat) (B := fun a => [tRow p a.1 a.2.1 a.2.2, hMap H a.1 s, lMap H a.2.1 s, wMap H a.2.2 s]) (p := fun _ => True) (by repeat (first | exact Has.here | apply Has.there)) (fun h ⟨hb, lb, wb, hbig⟩ => ⟨(hb, lb, wb), trivial, hbig⟩) fun ⟨hb, lb, wb⟩ _ => ?_
  dsimp only
  refine walk ?_
  refine ops_call rfl rfl keys_ct fun r1 H1 B hl1 ⟨pk, er, eB, eH⟩ => ?_
  subst er eB eH
  have hc := sorted_ct (W0 := W0) (H := H1) (H0 := H1) (RV := rInt) (p := pk) (b := hb) (ms := s.held) hs.hk (by simp only [cap47]; omega)
  refine ops_call rfl rfl hc fun r2 H2 B hl2 ⟨eB, eH⟩ => ?_
  subst eB eH
  have hlen : (sortT (s.held.map (·.1))).length = s.held.length := by rw [sortT_len, List.length_map]
  have hmem : ∀ k ∈ sortT (s.held.map (·.1)), k.size ≤ cap47 := fun k hk => by
    obtain ⟨q, hq, rfl⟩ := List.mem_map.1 (mem_sortT.1 hk)
    exact hs.hk q hq
  unfold expireL expireT
  generalize sortT (s.held.map (·.1)) = ks at *
  refine ops_freeze r2 fun H3 hl3 hsl => ?_
  obtain ⟨b0, c0, rfl, hc0, hd0⟩ := hsl.1.shape
  have hP3 := hP.mono hl3
  refine walk ?_
  refine ex_loop (σ := Nat × Option Addr × Nat) (fun u => u.1 ≤ ks.length) (fun u => [(0, .pointer (some ⟨p, 0, none⟩)), (1, I now), (15, .slice b0 ks.length c0), (16, I ks.length), (17, I u.1), (5, .slice u.2.1 ((ks.take u.1).filter (goneK now)).length u.2.2)]) (fun _ => H3)
    (fun u => ownS rStr 1 16 9 H3 (.slice u.2.1 ((ks.take u.1).filter (goneK now)).length u.2.2) ((ks.take u.1).filter (goneK now)) :: mapO Value.string rInt false H2 hb (letGo now (ks.take u.1) s.held) :: tRow p hb lb wb :: lMap H2 lb s :: wMap H2 wb s :: R) (fun u => ks.length - u.1) (0, none, 0) (Nat.zero_le _) (hs0 := ?_) fun ⟨k, d, e⟩ hk0 K hL => ?_
  rotate_left
  · simp only [List.take_zero, List.filter_nil, List.length_nil]
    refine Sub.trans ?_ ownS_nil
    (repeat (first | exact Sub.refl _ | exact Sub.nil _ | (apply sub_pick; (repeat (first | exact Has.here | apply Has.there)); skip) | apply Sub.drop))
  simp only at hk0
  dsimp only
  have hll : ((ks.take k).filter (goneK now)).length ≤ k := by
    have := List.length_filter_le (goneK now) (ks.take k)
    rw [List.length_take] at this; omega
  refine walk ?_
  refine ex_if rfl (fun hk => ?_) (fun hk => ?_)
  · have hk1 : k < ks.length := by omega
    have ht := List.take_succ_eq_append_getElem hk1
    have hg := letGo_snoc (now := now) (ks := ks.take k) (k := ks[k]) (l := s.held)
    rw [← ht] at hg
    have hf : (ks.take (k + 1)).filter (goneK now) = (ks.take k).filter (goneK now) ++ if goneK now ks[k] = true then [ks[k]] else [] := by
      rw [ht, List.filter_append]
      by_cases h : goneK now ks[k] = true <;> simp [h]
    have hrd := read_spec (W0 := W0) (l := ks[k].data.toList) hP3 (by rw [← Lib.size_eq]; exact hmem _ (List.getElem_mem hk1))
    rw [sb_self] at hrd
    refine walk ?_
    refine ops_ixp rfl rfl hsl.1 hk1 fun b o c hr hc => ?_
    obtain ⟨rfl, hsz⟩ := hc
    refine walk ?_
    refine ops_call rfl rfl hrd fun r4 H4 B hl4 ⟨hrr, eB, eH⟩ => ?_
    subst eB eH
    obtain ⟨ka, kb, kt, ok, rfl, hkk⟩ := hrr.form
    refine walk ?_
    refine ops_alloc rfl fun p8 _ => ?_
    refine walk ?_
    rcases hkk with ⟨rfl, hkk⟩ | ⟨rfl, hno, rfl, rfl, rfl⟩
    · have hy := goneK_yes (now := now) hkk
      refine walkG ?_
      refine ex_if rfl (fun hq => ?_) (fun hq => ?_)
      · rw [if_pos (hy.2 hq)] at hg hf
        refine walk ?_
        refine ops_delete (ek := Value.string) rfl (by repeat (first | exact Has.here | apply Has.there)) ?_
        refine walk ?_
        refine ops_app1 (y := ks[k]) rfl rfl rfl ⟨rfl, hsz⟩ (by simp only [cap47]; omega) fun d3 e3 => ?_
        have hsl2 : ((ks.take k).filter (goneK now)).length + 1 = ((ks.take (k + 1)).filter (goneK now)).length := by rw [hf]; simp
        rw [hsl2, ← hf, ← hg]
        refine walk ?_
        exact out_next hL (k + 1, d3, e3) (by simp only; omega)
      · rw [if_neg (fun h => hq (hy.1 h))] at hg hf
        rw [List.append_nil] at hf
        rw [← hf, ← hg]
        refine walk ?_
        exact out_next hL (k + 1, d, e) (by simp only; omega)
    · have hno' := goneK_no (now := now) hno
      rw [if_neg (by rw [hno']; decide)] at hg hf
      rw [List.append_nil] at hf
      rw [← hf, ← hg]
      refine walk ?_
      exact out_next hL (k + 1, d, e) (by simp only; omega)
  · clear hL
    obtain rfl : k = ks.length := by omega
    refine walk ?_
    rw [List.take_length] at *
    refine finB [ownS rStr 1 16 9 H3 (.slice d (ks.filter (goneK now)).length e) (ks.filter (goneK now)), tabO H3 p ⟨letGo now ks s.held, s.locked, s.works⟩] ?_ (hs := ?_)
    · exact rfl
    · refine Sub.trans ?_ (Sub.cons (Sub.trans (tab_fold (H := H2) (s := ⟨letGo now ks s.held, s.locked, s.works⟩) (hb := hb) (lb := lb) (wb := wb)) (tab_up hl3)))
      (repeat (first | exact Sub.refl _ | exact Sub.nil _ | (apply sub_pick; (repeat (first | exact Has.here | apply Has.there)); skip) | apply Sub.drop))
end Go.Proofs.YtkhbfjkioehgfaaGreatDoor
