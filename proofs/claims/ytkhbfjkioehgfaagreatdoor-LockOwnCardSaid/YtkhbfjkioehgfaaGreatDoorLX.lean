/- LockSafe, walked. -/
import Derived.Test.YtkhbfjkioehgfaaGreatDoorLW
import Derived.Test.YtkhbfjkioehgfaaGreatDoorKD
set_option linter.unusedVariables false
set_option linter.unusedSimpArgs false
namespace Go.Proofs.YtkhbfjkioehgfaaGreatDoor
open Go Go.Sx Go.Proofs
/-- all that is locked -/
def allL (l : List Rec) : List ByteArray := l.flatMap fun q => q.Work.ks
theorem Inv.recs {n : Nat} {s : TS} (h : Inv n s) {q : Rec} (hq : q ∈ prepL s) : gW s q.Txn.k = some q.Work := by
  obtain ⟨w, h1, h2⟩ := ((prepL_spec h.wd).mem q).1 hq
  have : w = q.Work := by rw [h2]; rfl
  rw [← this]; exact h1
theorem Inv.allLocked {n : Nat} {s : TS} (h : Inv n s) {k : ByteArray} (hk : k ∈ allL (prepL s)) : (mget k s.locked).isSome = true := by
  obtain ⟨q, hq, hk⟩ := List.mem_flatMap.1 hk
  rw [(h.lk k q.Txn).2 ⟨_, h.recs hq, hk⟩]; rfl
theorem Inv.allNodup {n : Nat} {s : TS} (h : Inv n s) : (allL (prepL s)).Nodup := by
  unfold allL
  rw [List.nodup_iff_pairwise_ne, List.pairwise_flatMap]
  refine ⟨fun q hq => List.nodup_iff_pairwise_ne.1 (h.ww _ _ (h.recs hq)).1.2, ?_⟩
  refine List.Pairwise.imp_of_mem (fun {a b} ha hb hab => ?_) (prepL_spec h.wd).rise
  rintro x hx y hy rfl
  have e1 := (h.lk x a.Txn).2 ⟨_, h.recs ha, hx⟩
  have e2 := (h.lk x b.Txn).2 ⟨_, h.recs hb, hy⟩
  have e3 : a.Txn = b.Txn := Option.some.inj (e1.symm.trans e2)
  rw [e3] at hab
  exact ltK_irr hab
theorem flat_le {l : List Rec} (h : ∀ q ∈ l, q.Work.ks.length ≤ 80) : (allL l).length ≤ 80 * l.length := by
  induction l with
  | nil => simp [allL]
  | cons a l ih =>
    have h1 := h a (by simp)
    have h2 := ih fun q hq => h q (by simp [hq])
    unfold allL at *
    rw [List.flatMap_cons, List.length_append, List.length_cons]
    omega
theorem OkW.ks_len {w : Work} (h : OkW w) : w.ks.length ≤ 80 := by
  have := h.take; have := h.drop
  simp only [Work.ks, List.length_append]; omega
theorem clip_ok {H : Heap} {cs : List Value} {w : Work} (h : rWork H cs w) : OkW (clipW w) := by
  obtain ⟨s1, s2, rfl, hr, h1, h2⟩ := h
  obtain ⟨c1, hc1, e1⟩ := h1.1
  obtain ⟨c2, hc2, e2⟩ := h2.1
  have k1 := (RL.map1 e1).2
  have k2 := (RL.map1 e2).2
  refine ⟨by simp [clipW]; omega, by simp [clipW]; omega, hr, fun k hk => ?_⟩
  simp only [Work.ks, clipW, List.mem_append] at hk
  rcases hk with hk | hk
  · exact k1 k (List.mem_of_mem_take hk)
  · exact k2 k (List.mem_of_mem_take hk)
theorem prepL_len {s : TS} : (prepL s).length = s.works.length := by simp [prepL, sort3_len]
/-- a table behind one call more -/
theorem Inv.prepS {n : Nat} {s : TS} {x : Txn} {w : Work} {cs : List Value} (h : Inv n s) (hw : OkW w) (hx : okX x.k) : Inv (n + 1) (if prepE s x w = 0 then prepT s x w cs else s) := by
  by_cases he : prepE s x w = 0
  · rw [if_pos he]; exact h.prep hw hx he
  · rw [if_neg he]; exact h.more (Nat.le_succ n)
theorem applyT_eq {s : TS} {x : Txn} {yes : Bool} : applyT s x yes = match gW s x.k with | some w => applyW s x yes w | none => s := by
  unfold applyT gW
  cases mget x.k s.works with
  | none => rfl
  | some v => rfl
theorem Inv.applyS {n : Nat} {s : TS} {x : Txn} {yes : Bool} (h : Inv n s) : Inv (n + 1) (applyT s x yes) := by
  rw [applyT_eq]
  cases hg : gW s x.k with
  | none => exact h.more (Nat.le_succ n)
  | some w => exact h.apply hg
theorem Inv.ks_ok {n : Nat} {s : TS} (h : Inv n s) (x : K3) : ((mget x s.works).getD zCW).2.ks.length * 16 ≤ cap47 := by
  cases hm : mget x s.works with
  | none => decide
  | some v =>
    have hg : gW s x = some v.2 := by unfold gW; rw [hm]; rfl
    have := (h.ww x v.2 hg).1.1.ks_len
    simp only [Option.getD_some, cap47]; omega
set_option maxHeartbeats 16000000 in
set_option maxRecDepth 20000 in
theorem lockSafe_spec {W0 : World} {H : Heap} {v : Value} {script : List Op} (hP : PkH H) (h0 : SlR rOp 10 H v script) :
    Ct Tryz.prog 3 #[v] W0 H [] (fun r H' B => r = .bool true ∧ B = []) := by
  refine Ct.go (vs := [v]) fun R => ?_
  obtain ⟨b0, c0, rfl, hc0, hd0⟩ := h0.shape
  refine walk ?_
  refine ops_call (vs := []) rfl rfl new_spec fun r1 H1 B hl1 ⟨p, er, eB, eH⟩ => ?_
  subst er eB eH
  refine walk ?_
  refine ops_call (vs := []) rfl rfl awake14_spec fun r2 H2 B hl2 ⟨er, eB⟩ => ?_
  subst er eB
  refine ops_L (L' := tabO H2 p ⟨[], [], []⟩ :: R) ?_ ?_
  · refine Sub.trans ?_ (tab_up hl2)
    (repeat (first | exact Sub.refl _ | exact Sub.nil _ | (apply sub_pick; (repeat (first | exact Has.here | apply Has.there)); skip) | apply Sub.drop))
  refine walk ?_
  refine ex_loop (σ := Nat × TS × Heap) (fun u => (u.1 ≤ script.length ∧ u.1 ≤ 60) ∧ H2.le u.2.2 ∧ Inv u.1 u.2.1) (fun u => [(0, .slice b0 script.length c0), (3, .pointer (some ⟨p, 0, none⟩)), (4, I u.1)]) (fun u => u.2.2) (fun u => tabO u.2.2 p u.2.1 :: R) (fun u => script.length - u.1) (0, ⟨[], [], []⟩, H2) ⟨⟨Nat.zero_le _, by omega⟩, .refl _, inv0⟩ fun ⟨k, s, HK⟩ ⟨⟨hk0, hk60⟩, hlK, hI⟩ K hL => ?_
  simp only at hk0 hk60 hlK hI
  dsimp only
  have hlH : H1.le HK := hl2.trans hlK
  have hPK := hP.mono hlH
  refine walkG ?_
  refine ex_if rfl (fun hk => ?_) (fun hk => ?_)
  · have hk1 : k < script.length := by omega
    refine walk ?_
    refine ops_ixp rfl rfl (h0.mono hlH) hk1 fun b o c hr hc => ?_
    obtain ⟨s1, s2, rfl, f1, f2, f3, f4, f5, f6, f7, f8, f9⟩ := hc
    generalize script[k] = q at hr f1 f2 f3 f4 f5 f6 f7 f8 f9
    obtain ⟨qk, ⟨x1, x2, x3⟩, ⟨wr, wt, wd⟩, qy, qn, qq⟩ := q
    dsimp only at hr f1 f2 f3 f4 f5 f6 f7 f8 f9
    obtain ⟨sb1, sc1, rfl, _, _⟩ := f6.1.shape
    obtain ⟨sb2, sc2, rfl, _, _⟩ := f7.1.shape
    change HRow HK b o [I qk, I x1, I x2, I x3, I wr, .slice sb1 wt.length sc1, .slice sb2 wd.length sc2, .bool qy, I qn, .string qq] at hr
    refine ops_ldNH rfl rfl hr rfl ?_
    refine ops_alloc rfl fun p5 _ => ?_
    refine walk ?_
    have hw0 : rWork HK [I wr, .slice sb1 wt.length sc1, .slice sb2 wd.length sc2] ⟨wr, wt, wd⟩ := ⟨_, _, rfl, f5, f6, f7⟩
    have hcw := clip_ok hw0
    refine ex_cutb (σ := TS × Heap) (fun u => Inv (k + 1) u.1 ∧ HK.le u.2) (fun u => [(0, .slice b0 script.length c0), (3, .pointer (some ⟨p, 0, none⟩)), (4, I k)]) (fun u => u.2) (fun u => tabO u.2 p u.1 :: R) (fun K2 hK2 => ?_) fun ⟨s', H'⟩ ⟨hI', hl'⟩ => ?_
    · refine walk ?_
      refine ex_if rfl (fun hq1 => ?_) (fun hq1 => ?_)
      · refine walk ?_
        refine ex_any 6 [row p5 32 [I qk, I x1, I x2, I x3, I wr, .slice sb1 wt.length sc1, .slice sb2 wd.length sc2, .bool qy, I qn, .string qq]] ?_
        (first | refine gny_p 0 rfl rfl rfl ?_ | refine gny_ld 0 rfl rfl rfl rfl ?_ | refine gny_ldH 0 rfl rfl rfl ‹HRow _ _ 0 _› rfl ?_ | refine gny_T 0 rfl rfl rfl ?_ | refine gny_F 0 rfl rfl rfl ?_ | refine gny_B 0 rfl rfl rfl ?_ | refine gny_skip 0 rfl rfl ?_ | refine gny_sp 0 rfl rfl rfl ?_ | refine gny_sB 0 rfl rfl rfl ?_ | refine gny_sld 0 rfl rfl rfl rfl ?_ | refine gny_sldH 0 rfl rfl rfl ‹HRow _ _ 0 _› rfl ?_ | refine gny_ldN 0 rfl rfl rfl rfl ?_ | refine gny_bld 0 rfl rfl rfl ?_); (first | refine gny_p 1 rfl rfl rfl ?_ | refine gny_ld 1 rfl rfl rfl rfl ?_ | refine gny_ldH 1 rfl rfl rfl ‹HRow _ _ 0 _› rfl ?_ | refine gny_T 1 rfl rfl rfl ?_ | refine gny_F 1 rfl rfl rfl ?_ | refine gny_B 1 rfl rfl rfl ?_ | refine gny_skip 1 rfl rfl ?_ | refine gny_sp 1 rfl rfl rfl ?_ | refine gny_sB 1 rfl rfl rfl ?_ | refine gny_sld 1 rfl rfl rfl rfl ?_ | refine gny_sldH 1 rfl rfl rfl ‹HRow _ _ 0 _› rfl ?_ | refine gny_ldN 1 rfl rfl rfl rfl ?_ | refine gny_bld 1 rfl rfl rfl ?_); (first | refine gny_p 2 rfl rfl rfl ?_ | refine gny_ld 2 rfl rfl rfl rfl ?_ | refine gny_ldH 2 rfl rfl rfl ‹HRow _ _ 0 _› rfl ?_ | refine gny_T 2 rfl rfl rfl ?_ | refine gny_F 2 rfl rfl rfl ?_ | refine gny_B 2 rfl rfl rfl ?_ | refine gny_skip 2 rfl rfl ?_ | refine gny_sp 2 rfl rfl rfl ?_ | refine gny_sB 2 rfl rfl rfl ?_ | refine gny_sld 2 rfl rfl rfl rfl ?_ | refine gny_sldH 2 rfl rfl rfl ‹HRow _ _ 0 _› rfl ?_ | refine gny_ldN 2 rfl rfl rfl rfl ?_ | refine gny_bld 2 rfl rfl rfl ?_); (first | refine gny_p 3 rfl rfl rfl ?_ | refine gny_ld 3 rfl rfl rfl rfl ?_ | refine gny_ldH 3 rfl rfl rfl ‹HRow _ _ 0 _› rfl ?_ | refine gny_T 3 rfl rfl rfl ?_ | refine gny_F 3 rfl rfl rfl ?_ | refine gny_B 3 rfl rfl rfl ?_ | refine gny_skip 3 rfl rfl ?_ | refine gny_sp 3 rfl rfl rfl ?_ | refine gny_sB 3 rfl rfl rfl ?_ | refine gny_sld 3 rfl rfl rfl rfl ?_ | refine gny_sldH 3 rfl rfl rfl ‹HRow _ _ 0 _› rfl ?_ | refine gny_ldN 3 rfl rfl rfl rfl ?_ | refine gny_bld 3 rfl rfl rfl ?_); (first | refine gny_p 4 rfl rfl rfl ?_ | refine gny_ld 4 rfl rfl rfl rfl ?_ | refine gny_ldH 4 rfl rfl rfl ‹HRow _ _ 0 _› rfl ?_ | refine gny_T 4 rfl rfl rfl ?_ | refine gny_F 4 rfl rfl rfl ?_ | refine gny_B 4 rfl rfl rfl ?_ | refine gny_skip 4 rfl rfl ?_ | refine gny_sp 4 rfl rfl rfl ?_ | refine gny_sB 4 rfl rfl rfl ?_ | refine gny_sld 4 rfl rfl rfl rfl ?_ | refine gny_sldH 4 rfl rfl rfl ‹HRow _ _ 0 _› rfl ?_ | refine gny_ldN 4 rfl rfl rfl rfl ?_ | refine gny_bld 4 rfl rfl rfl ?_)
        refine gny_call 5 rfl rfl rfl (lawOwn_spec hw0) fun r3 H3 B hl3 ⟨cs, er, hcs, eB⟩ => ?_
        subst er eB
        refine ⟨(by (repeat (first | exact Sub.refl _ | exact Sub.nil _ | (apply sub_pick; (repeat (first | exact Has.here | apply Has.there)); skip) | apply Sub.drop))), ?_⟩
        refine any_rest rfl ?_
        refine ops_L (L' := tabO H3 p s :: R) ?_ ?_
        · refine Sub.trans ?_ (tab_up hl3)
          (repeat (first | exact Sub.refl _ | exact Sub.nil _ | (apply sub_pick; (repeat (first | exact Has.here | apply Has.there)); skip) | apply Sub.drop))
        have hpr := prepare_spec (W0 := W0) (H := H3) (p := p) (s := s) (x := ⟨x1, x2, x3⟩) (w := clipW ⟨wr, wt, wd⟩) (cw := cs) ⟨f2, f3, f4⟩ hcs (by have := hcw.ks_len; simp only [cap47]; omega)
        refine ops_call rfl rfl hpr fun r4 H4 B hl4 ⟨er, cs2, hcs2, eB⟩ => ?_
        subst er eB
        refine walk ?_
        exact out_to hK2 (_, H4) ⟨hI.prepS (x := ⟨x1, x2, x3⟩) hcw ⟨f2, f3, f4⟩, hl3.trans hl4⟩
      refine walk ?_
      refine ex_if rfl (fun hq2 => ?_) (fun hq2 => ?_)
      · refine walk ?_
        refine ops_call rfl rfl (apply_spec (W0 := W0) (H := HK) (p := p) (s := s) (x := ⟨x1, x2, x3⟩) (yes := qy) (hI.ks_ok _)) fun r4 H4 B hl4 ⟨er, eB⟩ => ?_
        subst er eB
        refine walk ?_
        exact out_to hK2 (_, H4) ⟨hI.applyS, hl4⟩
      refine walk ?_
      refine ex_if rfl (fun hq3 => ?_) (fun hq3 => ?_)
      · refine walk ?_
        refine ops_call rfl rfl (expire_spec (W0 := W0) (H := HK) (p := p) (s := s) (now := qn) hPK (hI.ok (by omega))) fun r4 H4 B hl4 eB => ?_
        subst eB
        refine walk ?_
        exact out_to hK2 (_, H4) ⟨hI.expire.1.more (Nat.le_succ k), hl4⟩
      refine walk ?_
      exact out_to hK2 (s, HK) ⟨hI.more (Nat.le_succ k), .refl _⟩
    dsimp only at hI' hl'
    dsimp only
    have hok := hI'.ok (by omega)
    refine walk ?_
    refine ops_call rfl rfl (holds_spec (W0 := W0) (H := H') (p := p) hok) fun r5 H5 B hl5 eB => ?_
    subst eB
    refine ops_freeze r5 fun H6 hl6 hsl => ?_
    refine ops_L (L' := tabO H6 p s' :: R) ?_ ?_
    · refine Sub.trans ?_ (tab_up hl6)
      (repeat (first | exact Sub.refl _ | exact Sub.nil _ | (apply sub_pick; (repeat (first | exact Has.here | apply Has.there)); skip) | apply Sub.drop))
    refine walk ?_
    refine ops_call rfl rfl (prepared_spec (W0 := W0) (H := H6) (p := p) hok) fun r7 H7 B hl7 eB => ?_
    subst eB
    refine ops_freeze r7 fun H8 hl8 hsp => ?_
    refine ops_L (L' := tabO H8 p s' :: R) ?_ ?_
    · refine Sub.trans ?_ (tab_up hl8)
      (repeat (first | exact Sub.refl _ | exact Sub.nil _ | (apply sub_pick; (repeat (first | exact Has.here | apply Has.there)); skip) | apply Sub.drop))
    obtain ⟨b1, c1, rfl, hc1, hd1⟩ := hsl.1.shape
    obtain ⟨b2, c2, rfl, hc2, hd2⟩ := hsp.1.shape
    have hrise := (holdsL_spec hI'.hd).rise
    have hl68 : H6.le H8 := hl7.trans hl8
    generalize hhl : holdsL s' = hl at hsl hrise hc1 ⊢
    refine walk ?_
    refine ex_loop (σ := Nat) (fun j => j ≤ hl.length) (fun j => [(0, .slice b0 script.length c0), (3, .pointer (some ⟨p, 0, none⟩)), (4, I k), (6, .slice b1 hl.length c1), (7, .slice b2 (prepL s').length c2), (70, .slice b1 hl.length c1), (71, I hl.length), (72, I j)]) (fun _ => H8) (fun _ => tabO H8 p s' :: R) (fun j => hl.length - j) 0 (Nat.zero_le _) fun j hj0 K3 hL3 => ?_
    refine walk ?_
    refine ex_if rfl (fun hj => ?_) (fun hj => ?_)
    · have hj1 : j < hl.length := by omega
      cases j with
      | zero =>
        have hz : ¬ (0 : Int) < ((0 : Nat) : Int) := by omega
        refine walk ?_
        exact out_next hL3 1 (by omega)
      | succ i =>
        have hz : (0 : Int) < ((i + 1 : Nat) : Int) := by omega
        have hlt := List.pairwise_iff_getElem.1 hrise i (i + 1) (by omega) hj1 (by omega)
        refine walk ?_
        rw [show ((i + 1 : Nat) : Int) - 1 = (i : Nat) by omega]
        refine ops_ixp rfl rfl (hsl.mono hl68).1 (show i < hl.length by omega) fun b3 o3 c3' hr3 hc3 => ?_
        obtain ⟨rfl, _, _⟩ := hc3
        refine walk ?_
        refine ops_ixp rfl rfl (hsl.mono hl68).1 hj1 fun b4 o4 c4 hr4 hc4 => ?_
        obtain ⟨rfl, _, _⟩ := hc4
        refine walk ?_
        rw [decide_eq_false (p := ¬ SLt hl[i].Key hl[i + 1].Key) (fun h => h hlt)]
        refine walk ?_
        exact out_next hL3 (i + 1 + 1) (by omega)
    clear hL3
    obtain rfl : j = hl.length := by omega
    clear hsl hrise
    have hnd := hI'.allNodup
    have hal := fun x hx => hI'.allLocked (k := x) hx
    have hrec := fun q hq => hI'.recs (q := q) hq
    have hplen := prepL_len (s := s')
    have hwn := hI'.wn
    have h80 : ∀ q ∈ prepL s', q.Work.ks.length ≤ 80 := fun q hq => (hI'.ww _ _ (hrec q hq)).1.1.ks_len
    have hflat := flat_le h80
    refine walk ?_
    refine ex_loop (σ := Nat × Option Addr × Nat) (fun u => u.1 ≤ (prepL s').length) (fun u => [(0, .slice b0 script.length c0), (3, .pointer (some ⟨p, 0, none⟩)), (4, I k), (9, .slice u.2.1 (allL ((prepL s').take u.1)).length u.2.2), (92, .slice b2 (prepL s').length c2), (93, I (prepL s').length), (94, I u.1)]) (fun _ => H8) (fun u => ownS rStr 1 16 9 H8 (.slice u.2.1 (allL ((prepL s').take u.1)).length u.2.2) (allL ((prepL s').take u.1)) :: tabO H8 p s' :: R) (fun u => (prepL s').length - u.1) (0, none, 0) (Nat.zero_le _) (hs0 := ?_) fun ⟨j, d, e⟩ hj0 K4 hL4 => ?_
    rotate_left
    · show Sub _ (ownS rStr 1 16 9 H8 nilS [] :: tabO H8 p s' :: R)
      refine Sub.trans ?_ ownS_nil
      (repeat (first | exact Sub.refl _ | exact Sub.nil _ | (apply sub_pick; (repeat (first | exact Has.here | apply Has.there)); skip) | apply Sub.drop))
    simp only at hj0
    dsimp only
    refine walk ?_
    refine ex_if rfl (fun hj => ?_) (fun hj => ?_)
    · have hj1 : j < (prepL s').length := by omega
      have ht := List.take_succ_eq_append_getElem hj1
      have hga : allL ((prepL s').take (j + 1)) = allL ((prepL s').take j) ++ ((prepL s')[j]).Work.ks := by rw [ht]; unfold allL; rw [List.flatMap_append]; simp [List.flatMap_cons]
      have hgl : (allL ((prepL s').take (j + 1))).length ≤ 80 * 61 := by
        have := flat_le (l := (prepL s').take (j + 1)) fun q hq => h80 q (List.mem_of_mem_take hq)
        rw [List.length_take] at this
        omega
      rw [hga, List.length_append] at hgl
      have hgw := hrec _ (List.getElem_mem hj1)
      refine walk ?_
      refine ops_ixp rfl rfl (hsp.1) hj1 fun b o c hr hc => ?_
      obtain ⟨s1, s2, s3, rfl, g1, g2, g3, g4, g5, g6, g7, g8⟩ := hc
      generalize (prepL s')[j] = q at hr g1 g2 g3 g4 g5 g6 g7 g8 hga hgl hgw
      obtain ⟨qk, ⟨xa, xb, xc⟩, ⟨wr, wt, wd⟩, qy, qp⟩ := q
      dsimp only at hr g1 g2 g3 g4 g5 g6 g7 g8 hga hgl hgw
      obtain ⟨sb1, sc1, rfl, hsc1, hsd1⟩ := g6.1.shape
      obtain ⟨sb2, sc2, rfl, hsc2, hsd2⟩ := g7.1.shape
      obtain ⟨sb3, sc3, rfl, _, _⟩ := g8.1.shape
      change HRow H8 b o [I qk, I xa, I xb, I xc, I wr, .slice sb1 wt.length sc1, .slice sb2 wd.length sc2, .bool qy, .slice sb3 qp.length sc3] at hr
      refine ops_ldNH rfl rfl hr rfl ?_
      refine ops_alloc rfl fun p11 _ => ?_
      refine walk ?_
      refine ex_loop (σ := Nat) (fun i => i ≤ wt.length) (fun i => [(0, .slice b0 script.length c0), (3, .pointer (some ⟨p, 0, none⟩)), (4, I k), (9, .slice d (allL ((prepL s').take j)).length e), (92, .slice b2 (prepL s').length c2), (93, I (prepL s').length), (94, I j), (11, .pointer (some ⟨p11, 0, none⟩)), (100, .slice sb1 wt.length sc1), (101, I wt.length), (102, I i)]) (fun _ => H8) (fun _ => ownS rStr 1 16 9 H8 (.slice d (allL ((prepL s').take j)).length e) (allL ((prepL s').take j)) :: tabO H8 p s' :: row p11 47 [I qk, I xa, I xb, I xc, I wr, .slice sb1 wt.length sc1, .slice sb2 wd.length sc2, .bool qy, .slice sb3 qp.length sc3] :: R) (fun i => wt.length - i) 0 (Nat.zero_le _) fun i hi0 K5 hL5 => ?_
      refine walk ?_
      refine ex_if rfl (fun hi => ?_) (fun hi => ?_)
      · have hi1 : i < wt.length := by omega
        have hnone : mget wt[i] s'.held = none := hI'.tk _ _ hgw _ (List.getElem_mem hi1)
        refine walk ?_
        refine ops_ixp rfl rfl g6.1 hi1 fun b o c hr hc => ?_
        obtain ⟨rfl, hsz⟩ := hc
        refine walk ?_
        refine ops_call rfl rfl (holder_spec (W0 := W0) (H := H8) (p := p) (s := s') (k := wt[i])) fun r9 H9 B hl9 ⟨er, eB, eH⟩ => ?_
        subst er eB eH
        rw [show holderV s' wt[i] = .tuple #[I 0, .bool false] by unfold holderV; rw [hnone]; rfl]
        refine walk ?_
        exact out_next hL5 (i + 1) (by omega)
      clear hL5
      obtain rfl : i = wt.length := by omega
      refine walk ?_
      refine ops_call rfl rfl (keys_spec (W0 := W0) (H := H8) (cw := [I wr, .slice sb1 wt.length sc1, .slice sb2 wd.length sc2]) (w := ⟨wr, wt, wd⟩) ⟨_, _, rfl, g5, g6, g7⟩ (by simp only [cap47]; omega)) fun r9 H9 B hl9 ⟨eB, eH⟩ => ?_
      subst eB eH
      refine ops_appSO rfl rfl (by simp only [cap47]; omega) fun d3 e3 => ?_
      rw [← List.length_append, ← hga]
      refine walk ?_
      exact out_next hL4 (j + 1, d3, e3) (by simp only; omega)
    clear hL4
    obtain rfl : j = (prepL s').length := by omega
    rw [List.take_length]
    refine walk ?_
    refine ex_freeze (.slice d (allL (prepL s')).length e) fun H9 hl9 hsa => ?_
    have hca : (allL (prepL s')).length ≤ 80 * 61 := by omega
    generalize allL (prepL s') = al at hsa hnd hal hca ⊢
    refine ex_L (L' := tabO H9 p s' :: R) ?_ ?_
    · refine Sub.trans ?_ (tab_up hl9)
      (repeat (first | exact Sub.refl _ | exact Sub.nil _ | (apply sub_pick; (repeat (first | exact Has.here | apply Has.there)); skip) | apply Sub.drop))
    refine ex_loop (σ := Nat) (fun j => j ≤ al.length) (fun j => [(0, .slice b0 script.length c0), (3, .pointer (some ⟨p, 0, none⟩)), (4, I k), (9, .slice d al.length e), (121, I al.length), (122, I j)]) (fun _ => H9) (fun _ => tabO H9 p s' :: R) (fun j => al.length - j) 0 (Nat.zero_le _) fun j hj0 K6 hL6 => ?_
    refine walk ?_
    refine ex_if rfl (fun hj => ?_) (fun hj => ?_)
    · have hj1 : j < al.length := by omega
      have hsome := hal _ (List.getElem_mem hj1)
      refine walk ?_
      refine ops_ixp rfl rfl hsa.1 hj1 fun b o c hr hc => ?_
      obtain ⟨rfl, hsz⟩ := hc
      refine walk ?_
      refine ops_call rfl rfl (locked_spec (W0 := W0) (H := H9) (p := p) (s := s') (k := al[j])) fun r10 H10 B hl10 ⟨er, eB, eH⟩ => ?_
      subst er eB eH
      unfold lockedV
      rw [hsome]
      obtain ⟨x1, x2, x3, hx⟩ : ∃ x1 x2 x3, (mget al[j] s'.locked).getD zTxn = ⟨x1, x2, x3⟩ := ⟨_, _, _, rfl⟩
      rw [hx]
      refine walk ?_
      refine ops_alloc rfl fun p17 _ => ?_
      refine walk ?_
      refine ex_loop (σ := Nat) (fun i => i ≤ j) (fun i => [(0, .slice b0 script.length c0), (3, .pointer (some ⟨p, 0, none⟩)), (4, I k), (9, .slice d al.length e), (121, I al.length), (122, I j), (16, I j), (19, I i)]) (fun _ => H10) (fun _ => tabO H10 p s' :: R) (fun i => j - i) 0 (Nat.zero_le _) fun i hi0 K7 hL7 => ?_
      refine walk ?_
      refine ex_if rfl (fun hi => ?_) (fun hi => ?_)
      · have hi1 : i < al.length := by omega
        have hne : ¬ al[i] = al[j] := List.pairwise_iff_getElem.1 (List.nodup_iff_pairwise_ne.1 hnd) i j hi1 hj1 (by omega)
        refine walk ?_
        refine ops_ixp rfl rfl hsa.1 hi1 fun b4 o4 c4 hr4 hc4 => ?_
        obtain ⟨rfl, _⟩ := hc4
        refine walk ?_
        refine ops_ixp rfl rfl hsa.1 hj1 fun b5 o5 c5 hr5 hc5 => ?_
        obtain ⟨rfl, _⟩ := hc5
        refine walk ?_
        exact out_next hL7 (i + 1) (by omega)
      clear hL7
      obtain rfl : i = j := by omega
      refine walk ?_
      exact out_next hL6 (i + 1) (by omega)
    clear hL6
    refine walk ?_
    exact out_next hL (k + 1, s', H9) ⟨⟨by simp only; omega, by simp only; omega⟩, hlK.trans (hl'.trans (hl5.trans (hl6.trans (hl68.trans hl9)))), hI'⟩
  clear hL
  refine walk ?_
  refine fin0 ?_
  exact ⟨rfl, rfl⟩
end Go.Proofs.YtkhbfjkioehgfaaGreatDoor
