/- The law's own with lists that stay owned; again with lists that stay owned. -/
import Derived.Test.YthoafjeampbkeaaCWA
set_option linter.unusedVariables false
set_option linter.unusedSimpArgs false
namespace Go.Proofs.Ythoafjeampbkeaa
open Go Go.Sx Go.Proofs
set_option maxHeartbeats 8000000 in
set_option maxRecDepth 20000 in
theorem ownCO_spec {W0 : World} {H : Heap} {v : Value} {l : List Work} (h0 : SlB rWork 3 56 H v l) :
    Ct Try.prog 10 #[v] W0 H [] (fun r H' B => ∃ ys : List WV, ys.map (·.w) = ownC l ∧ B = [ownS rWV 3 56 41 H' r ys, bigL ownW ys] ∧ H' = H) := by
  refine Ct.go (vs := [v]) fun R => ?_
  obtain ⟨b0, c0, rfl, hc0, hd0⟩ := h0.1.shape
  refine walk ?_
  refine ex_loop (σ := Nat × List WV × Option Addr × Nat) (fun u => u.1 ≤ l.length ∧ u.1 ≤ 8 ∧ u.2.1.map (·.w) = (l.take u.1).map clipC) (fun u => [(0, .slice b0 l.length c0), (3, .slice u.2.2.1 u.2.1.length u.2.2.2), (4, I u.1)]) (fun _ => H) (fun u => ownS rWV 3 56 41 H (.slice u.2.2.1 u.2.1.length u.2.2.2) u.2.1 :: bigL ownW u.2.1 :: R) (fun u => l.length - u.1) (0, [], none, 0) ⟨Nat.zero_le _, Nat.zero_le _, rfl⟩ (hs0 := ?_) fun ⟨j, ys, dd, e⟩ ⟨hj0, hj8, hys⟩ K hL => ?_
  rotate_left
  · show Sub _ (ownS rWV 3 56 41 H (.slice none 0 0) [] :: _)
    refine Sub.trans ?_ (ownS_nil.trans (Sub.cons bigL_nil))
    (repeat (first | exact Sub.refl _ | exact Sub.nil _ | (apply sub_pick; (repeat (first | exact Has.here | apply Has.there)); skip) | apply Sub.drop))
  simp only at hj0 hj8 hys
  dsimp only
  have hyl : ys.length = j := by have := congrArg List.length hys; simp only [List.length_map, List.length_take] at this; omega
  by_cases hk1 : j < l.length
  · by_cases hk8 : j < 8
    · have hk1' : (j : Int) < (l.length : Int) := by omega
      have hk8' : (j : Int) < 8 := by omega
      have hsn := clip_snoc hk1
      have hsl := h0.1
      obtain ⟨w, hwj⟩ : ∃ w, l[j] = w := ⟨_, rfl⟩
      rw [hwj] at hsn
      obtain ⟨wr, wt, wd⟩ := w
      have hk3 : (min (wt.length : Int) 30).toNat = (wt.take 30).length := by rw [List.length_take]; omega
      have hk4 : (min (wd.length : Int) 30).toNat = (wd.take 30).length := by rw [List.length_take]; omega
      have hq1 : wt.take (wt.take 30).length = wt.take 30 := by rw [List.length_take, List.take_eq_take_min]; simp [Nat.min_assoc, Nat.min_comm]
      have hq2 : wd.take (wd.take 30).length = wd.take 30 := by rw [List.length_take, List.take_eq_take_min]; simp [Nat.min_assoc, Nat.min_comm]
      have hlt : (wt.take 30).length ≤ 30 := by rw [List.length_take]; omega
      have hld : (wd.take 30).length ≤ 30 := by rw [List.length_take]; omega
      refine walk ?_
      refine ex_any 39 [] ?_
      refine stepY 0 ?_; refine stepY 1 ?_; refine stepY 2 ?_
      refine gny_ixp 3 rfl rfl rfl hsl hk1 fun rab rao rac rahr rahc => ?_
      rw [hwj] at rahc
      obtain ⟨ra1, ra2, rfl, raf, rag1, rag2⟩ := rahc
      obtain ⟨rax1, ray1, rfl, raz1, _⟩ := rag1.1.shape
      obtain ⟨rax2, ray2, rfl, raz2, _⟩ := rag2.1.shape
      dsimp only at raz1 raz2 rag1 rag2 raf
      change HRow H rab rao [I wr, .slice rax1 wt.length ray1, .slice rax2 wd.length ray2] at rahr
      refine stepY 4 ?_
      refine gny_ldHo 5 0 rfl rfl rahr rfl rfl ?_
      refine stepY 7 ?_; refine stepY 8 ?_
      refine gny_ixp 9 rfl rfl rfl hsl hk1 fun rbb rbo rbc rbhr rbhc => ?_
      rw [hwj] at rbhc
      obtain ⟨rb1, rb2, rfl, rbf, rbg1, rbg2⟩ := rbhc
      obtain ⟨rbx1, rby1, rfl, rbz1, _⟩ := rbg1.1.shape
      obtain ⟨rbx2, rby2, rfl, rbz2, _⟩ := rbg2.1.shape
      dsimp only at rbz1 rbz2 rbg1 rbg2 rbf
      change HRow H rbb rbo [I wr, .slice rbx1 wt.length rby1, .slice rbx2 wd.length rby2] at rbhr
      refine stepY 10 ?_
      refine gny_ldHo 11 1 rfl rfl rbhr rfl rfl ?_
      refine stepY 12 ?_; refine stepY 13 ?_
      refine gny_ixp 14 rfl rfl rfl hsl hk1 fun rcb rco rcc rchr rchc => ?_
      rw [hwj] at rchc
      obtain ⟨rc1, rc2, rfl, rcf, rcg1, rcg2⟩ := rchc
      obtain ⟨rcx1, rcy1, rfl, rcz1, _⟩ := rcg1.1.shape
      obtain ⟨rcx2, rcy2, rfl, rcz2, _⟩ := rcg2.1.shape
      dsimp only at rcz1 rcz2 rcg1 rcg2 rcf
      change HRow H rcb rco [I wr, .slice rcx1 wt.length rcy1, .slice rcx2 wd.length rcy2] at rchr
      refine stepY 15 ?_
      refine gny_ldHo 16 1 rfl rfl rchr rfl rfl ?_
      refine stepY 17 ?_; refine stepY 18 ?_; refine stepY 19 ?_
      refine stepY 22 ?_; refine stepY 23 ?_
      refine gny_ixp 24 rfl rfl rfl hsl hk1 fun rdb rdo rdc rdhr rdhc => ?_
      rw [hwj] at rdhc
      obtain ⟨rd1, rd2, rfl, rdf, rdg1, rdg2⟩ := rdhc
      obtain ⟨rdx1, rdy1, rfl, rdz1, _⟩ := rdg1.1.shape
      obtain ⟨rdx2, rdy2, rfl, rdz2, _⟩ := rdg2.1.shape
      dsimp only at rdz1 rdz2 rdg1 rdg2 rdf
      change HRow H rdb rdo [I wr, .slice rdx1 wt.length rdy1, .slice rdx2 wd.length rdy2] at rdhr
      refine stepY 25 ?_
      refine gny_ldHo 26 2 rfl rfl rdhr rfl rfl ?_
      refine stepY 27 ?_; refine stepY 28 ?_
      refine gny_ixp 29 rfl rfl rfl hsl hk1 fun reb reo rec rehr rehc => ?_
      rw [hwj] at rehc
      obtain ⟨re1, re2, rfl, ref, reg1, reg2⟩ := rehc
      obtain ⟨rex1, rey1, rfl, rez1, _⟩ := reg1.1.shape
      obtain ⟨rex2, rey2, rfl, rez2, _⟩ := reg2.1.shape
      dsimp only at rez1 rez2 reg1 reg2 ref
      change HRow H reb reo [I wr, .slice rex1 wt.length rey1, .slice rex2 wd.length rey2] at rehr
      refine stepY 30 ?_
      refine gny_ldHo 31 2 rfl rfl rehr rfl rfl ?_
      refine stepY 32 ?_; refine stepY 33 ?_; refine stepY 34 ?_
      rw [hk3, hk4]
      have ht1 := slr_takeC (k := (wt.take 30).length) rbg1.1 (by rw [List.length_take]; omega)
      have ht2 := slr_takeC (k := (wd.take 30).length) rdg2.1 (by rw [List.length_take]; omega)
      rw [hq1] at ht1
      have hcap1 : (([] : List ByteArray).length + (wt.take 30).length) * 16 ≤ cap47 := by simp only [cap47, List.length_nil]; omega
      have hcap2 : (([] : List ByteArray).length + (wd.take 30).length) * 16 ≤ cap47 := by simp only [cap47, List.length_nil]; omega
      rw [hq2] at ht2
      refine any_w2 6 21 rfl rfl (op_mk0S (wd := 16) rStr fun b6 => ⟨.refl _, (by (repeat (first | exact Sub.refl _ | exact Sub.nil _ | (apply sub_pick; (repeat (first | exact Has.here | apply Has.there)); skip) | apply Sub.drop))), ?_⟩) (op_mk0S (wd := 16) rStr fun b21 => ⟨.refl _, (by (repeat (first | exact Sub.refl _ | exact Sub.nil _ | (apply sub_pick; (repeat (first | exact Has.here | apply Has.there)); skip) | apply Sub.drop))), ?_⟩)
      · refine any_w2 20 21 rfl rfl (op_appSS rfl ht1 hcap1 fun d20 e20 => ⟨.refl _, (by (repeat (first | exact Sub.refl _ | exact Sub.nil _ | (apply sub_pick; (repeat (first | exact Has.here | apply Has.there)); skip) | apply Sub.drop))), ?_⟩) (op_mk0S (wd := 16) rStr fun b21 => ⟨.refl _, (by (repeat (first | exact Sub.refl _ | exact Sub.nil _ | (apply sub_pick; (repeat (first | exact Has.here | apply Has.there)); skip) | apply Sub.drop))), ?_⟩)
        · refine any_w 21 rfl (op_mk0S (wd := 16) rStr fun b21 => ⟨.refl _, (by (repeat (first | exact Sub.refl _ | exact Sub.nil _ | (apply sub_pick; (repeat (first | exact Has.here | apply Has.there)); skip) | apply Sub.drop))), ?_⟩)
          refine any_w 35 rfl (op_appSS rfl ht2 hcap2 fun d35 e35 => ⟨.refl _, (by (repeat (first | exact Sub.refl _ | exact Sub.nil _ | (apply sub_pick; (repeat (first | exact Has.here | apply Has.there)); skip) | apply Sub.drop))), ?_⟩)
          simp only [List.length_nil, Nat.zero_add, List.nil_append]
          refine gny_bld 36 rfl rfl rfl ?_
          refine any_app1 (y := (⟨clipC ⟨wr, wt, wd⟩, (d20, e20), (d35, e35)⟩ : WV)) 37 38 rfl rfl rfl rfl (by rw [hyl]; simp only [cap47]; omega) fun d9 e9 => ⟨(by (repeat (first | exact Sub.refl _ | exact Sub.nil _ | (apply sub_pick; (repeat (first | exact Has.here | apply Has.there)); skip) | apply Sub.drop))), ?_⟩
          rw [show ys.length + 1 = (ys ++ [(⟨clipC ⟨wr, wt, wd⟩, (d20, e20), (d35, e35)⟩ : WV)]).length by rw [List.length_append]; rfl]
          refine any_rest rfl ?_
          refine walk ?_
          refine out_next hL (j + 1, ys ++ [⟨clipC ⟨wr, wt, wd⟩, (d20, e20), (d35, e35)⟩], d9, e9) ⟨by simp only; omega, by simp only; omega, ?_⟩ (hs := ?_)
          · simp only
            rw [List.map_append, hys, hsn]; rfl
          · dsimp only
            refine Sub.trans ?_ (Sub.cons bigL_snoc)
            refine Sub.trans ?_ (Sub.cons (ownW_shut (H1 := H) (H2 := H) (v := ⟨clipC ⟨wr, wt, wd⟩, (d20, e20), (d35, e35)⟩)))
            (repeat (first | exact Sub.refl _ | exact Sub.nil _ | (apply sub_pick; (repeat (first | exact Has.here | apply Has.there)); skip) | apply Sub.drop))
        · refine any_w 20 rfl (op_appSS rfl ht1 hcap1 fun d20 e20 => ⟨.refl _, (by (repeat (first | exact Sub.refl _ | exact Sub.nil _ | (apply sub_pick; (repeat (first | exact Has.here | apply Has.there)); skip) | apply Sub.drop))), ?_⟩)
          refine any_w 35 rfl (op_appSS rfl ht2 hcap2 fun d35 e35 => ⟨.refl _, (by (repeat (first | exact Sub.refl _ | exact Sub.nil _ | (apply sub_pick; (repeat (first | exact Has.here | apply Has.there)); skip) | apply Sub.drop))), ?_⟩)
          simp only [List.length_nil, Nat.zero_add, List.nil_append]
          refine gny_bld 36 rfl rfl rfl ?_
          refine any_app1 (y := (⟨clipC ⟨wr, wt, wd⟩, (d20, e20), (d35, e35)⟩ : WV)) 37 38 rfl rfl rfl rfl (by rw [hyl]; simp only [cap47]; omega) fun d9 e9 => ⟨(by (repeat (first | exact Sub.refl _ | exact Sub.nil _ | (apply sub_pick; (repeat (first | exact Has.here | apply Has.there)); skip) | apply Sub.drop))), ?_⟩
          rw [show ys.length + 1 = (ys ++ [(⟨clipC ⟨wr, wt, wd⟩, (d20, e20), (d35, e35)⟩ : WV)]).length by rw [List.length_append]; rfl]
          refine any_rest rfl ?_
          refine walk ?_
          refine out_next hL (j + 1, ys ++ [⟨clipC ⟨wr, wt, wd⟩, (d20, e20), (d35, e35)⟩], d9, e9) ⟨by simp only; omega, by simp only; omega, ?_⟩ (hs := ?_)
          · simp only
            rw [List.map_append, hys, hsn]; rfl
          · dsimp only
            refine Sub.trans ?_ (Sub.cons bigL_snoc)
            refine Sub.trans ?_ (Sub.cons (ownW_shut (H1 := H) (H2 := H) (v := ⟨clipC ⟨wr, wt, wd⟩, (d20, e20), (d35, e35)⟩)))
            (repeat (first | exact Sub.refl _ | exact Sub.nil _ | (apply sub_pick; (repeat (first | exact Has.here | apply Has.there)); skip) | apply Sub.drop))
      · refine any_w 6 rfl (op_mk0S (wd := 16) rStr fun b6 => ⟨.refl _, (by (repeat (first | exact Sub.refl _ | exact Sub.nil _ | (apply sub_pick; (repeat (first | exact Has.here | apply Has.there)); skip) | apply Sub.drop))), ?_⟩)
        refine any_w 20 rfl (op_appSS rfl ht1 hcap1 fun d20 e20 => ⟨.refl _, (by (repeat (first | exact Sub.refl _ | exact Sub.nil _ | (apply sub_pick; (repeat (first | exact Has.here | apply Has.there)); skip) | apply Sub.drop))), ?_⟩)
        refine any_w 35 rfl (op_appSS rfl ht2 hcap2 fun d35 e35 => ⟨.refl _, (by (repeat (first | exact Sub.refl _ | exact Sub.nil _ | (apply sub_pick; (repeat (first | exact Has.here | apply Has.there)); skip) | apply Sub.drop))), ?_⟩)
        simp only [List.length_nil, Nat.zero_add, List.nil_append]
        refine gny_bld 36 rfl rfl rfl ?_
        refine any_app1 (y := (⟨clipC ⟨wr, wt, wd⟩, (d20, e20), (d35, e35)⟩ : WV)) 37 38 rfl rfl rfl rfl (by rw [hyl]; simp only [cap47]; omega) fun d9 e9 => ⟨(by (repeat (first | exact Sub.refl _ | exact Sub.nil _ | (apply sub_pick; (repeat (first | exact Has.here | apply Has.there)); skip) | apply Sub.drop))), ?_⟩
        rw [show ys.length + 1 = (ys ++ [(⟨clipC ⟨wr, wt, wd⟩, (d20, e20), (d35, e35)⟩ : WV)]).length by rw [List.length_append]; rfl]
        refine any_rest rfl ?_
        refine walk ?_
        refine out_next hL (j + 1, ys ++ [⟨clipC ⟨wr, wt, wd⟩, (d20, e20), (d35, e35)⟩], d9, e9) ⟨by simp only; omega, by simp only; omega, ?_⟩ (hs := ?_)
        · simp only
          rw [List.map_append, hys, hsn]; rfl
        · dsimp only
          refine Sub.trans ?_ (Sub.cons bigL_snoc)
          refine Sub.trans ?_ (Sub.cons (ownW_shut (H1 := H) (H2 := H) (v := ⟨clipC ⟨wr, wt, wd⟩, (d20, e20), (d35, e35)⟩)))
          (repeat (first | exact Sub.refl _ | exact Sub.nil _ | (apply sub_pick; (repeat (first | exact Has.here | apply Has.there)); skip) | apply Sub.drop))
    · obtain rfl : j = 8 := by omega
      have hk1' : (8 : Int) < (l.length : Int) := by omega
      clear hL
      refine walk ?_
      refine finB [ownS rWV 3 56 41 H (.slice dd ys.length e) ys, bigL ownW ys] ?_
      refine ⟨ys, ?_, rfl, rfl⟩
      rw [hys]
      unfold ownC
      first | rfl | rw [List.take_of_length_le (Nat.le_refl _), List.take_of_length_le hj8]
  · obtain rfl : j = l.length := by omega
    clear hL
    refine walk ?_
    refine finB [ownS rWV 3 56 41 H (.slice dd ys.length e) ys, bigL ownW ys] ?_
    refine ⟨ys, ?_, rfl, rfl⟩
    rw [hys]
    unfold ownC
    first | rfl | rw [List.take_of_length_le (Nat.le_refl _), List.take_of_length_le hj8]
/-- a message, where the lists of its work lie -/
structure MV where
  m : Message
  a : Option Addr × Nat
  b : Option Addr × Nat
abbrev MV.cv (v : MV) : List Value := v.m.cv (.slice v.a.1 v.m.Work.Take.length v.a.2) (.slice v.b.1 v.m.Work.Drop.length v.b.2) nilS nilS
def rMV : Rd MV := fun _ cs v => cs = v.cv
instance : RdOk rMV 19 := ⟨fun h => by subst h; rfl, fun h => by subst h; rfl, fun hl h => h⟩
instance : RdFlat rMV := ⟨fun h => h⟩
def MV.wv (v : MV) : WV := ⟨v.m.Work, v.a, v.b⟩
abbrev ownMV (v : MV) : HProp := ownW v.wv
/-- read in a heap in which its lists are read -/
def OkMV (v : MV) : Prop := ∀ H, SlB rStr 1 16 H (.slice v.a.1 v.m.Work.Take.length v.a.2) v.m.Work.Take → SlB rStr 1 16 H (.slice v.b.1 v.m.Work.Drop.length v.b.2) v.m.Work.Drop → rMessage H v.cv v.m
theorem prepMV {n p : Int} {x : Txn} {w : Work} {a b : Option Addr × Nat} (hn : fits n) (hp : fits p) (hx : fits x.Node ∧ fits x.Life ∧ fits x.Count) (hr : fits w.Robot) : OkMV ⟨prepM n x p w, a, b⟩ := fun H h1 h2 =>
  ⟨_, _, nilS, nilS, rfl, hn, hp, by unfold fits; simp [prepM], hx.1, hx.2.1, hx.2.2, hr, h1, h2, fits0, fits0, fits0, fits0, SlB.nil, fits0, fits0, fits0, SlB.nil⟩
set_option maxHeartbeats 8000000 in
set_option maxRecDepth 20000 in
theorem againVO_spec {W0 : World} {H H1 : Heap} {p mb : Nat} {s : CS} {x : Txn} {e : CE} (hop : e.x.op = false) (hl1 : H1.le H) (hn : fits s.node) (hx : fits x.Node ∧ fits x.Life ∧ fits x.Count) (hv : ∀ q ∈ e.x.heard, q.2 = 1) (hp : ∀ q ∈ e.x.parts, fits q) (hpl : e.x.parts.length ≤ 1000000) :
    Ct Try.prog 27 #[.pointer (some ⟨p, 0, none⟩), .agg x.cv.toArray, .pointer (some ⟨e.p, 0, none⟩)] W0 H [cRow p mb s, xA H1 e] (fun r H' B => ∃ ys : List MV, ys.map (·.m) = againL s.node x e.x ∧ (∀ y ∈ ys, OkMV y) ∧ B = [ownS rMV 19 216 53 H r ys, bigL ownMV ys, cRow p mb s, xA H1 e] ∧ H' = H) := by
  refine Ct.go (vs := [.pointer (some ⟨p, 0, none⟩), .agg x.cv.toArray, .pointer (some ⟨e.p, 0, none⟩)]) fun R => ?_
  obtain ⟨x1, x2, x3⟩ := x
  obtain ⟨k, ep, v, ⟨op, began, parts, works, heard⟩⟩ := e
  dsimp only at hv hp hpl hop
  subst hop
  have hcap : (1000001 : Nat) * 216 ≤ cap47 := by decide
  refine walk ?_
  refine ops_box rfl rfl fun p4 _ => ?_
  refine ops_open (A := xA H1 ⟨k, ep, v, ⟨false, began, parts, works, heard⟩⟩) (σ := Value × Nat) (B := fun a => [xRow ⟨k, ep, v, ⟨false, began, parts, works, heard⟩⟩ a.1 a.2, xWorks H1 ⟨k, ep, v, ⟨false, began, parts, works, heard⟩⟩ a.1, xHeard H1 ⟨k, ep, v, ⟨false, began, parts, works, heard⟩⟩ a.2]) (p := fun a => SlB rInt 1 8 H1 (CE.v ⟨k, ep, v, ⟨false, began, parts, works, heard⟩⟩) (CE.x ⟨k, ep, v, ⟨false, began, parts, works, heard⟩⟩).parts) (by repeat (first | exact Has.here | apply Has.there)) (fun h ⟨hs, wv, hb, hbig⟩ => ⟨(wv, hb), hs, hbig⟩) fun ⟨wv, hb⟩ hsl2 => ?_
  dsimp only at hsl2 ⊢
  obtain ⟨b0, c0, rfl, hc0, hd0⟩ := hsl2.1.shape
  refine ops_open (A := xWorks H1 ⟨k, ep, .slice b0 parts.length c0, ⟨false, began, parts, works, heard⟩⟩ wv) (σ := Nat) (B := fun wb => [mapO iK rCW true H1 wb works]) (p := fun wb => wv = .map (some wb)) (by repeat (first | exact Has.here | apply Has.there)) (fun h hw => hw.elim (fun h => by cases h.1) fun ⟨_, wb, e, hm⟩ => ⟨wb, e, big_one hm⟩) fun wb hwv => ?_
  subst hwv
  refine ops_know (A := mapO iK rCW true H1 wb works) (p := ∀ q ∈ works, ∃ cs, rCW H1 cs q.2) (by repeat (first | exact Has.here | apply Has.there)) (fun h hm => (mapO_know hm).1) fun hwl => ?_
  refine walk ?_
  refine ex_L (L' := xRowC ep false began (.slice b0 parts.length c0) (.map (some wb)) hb :: mapO iK rCW true H1 wb works :: mapO iK rInt false H1 hb heard :: row p4 28 [I x1, I x2, I x3] :: cRow p mb s :: R) (by (repeat (first | exact Sub.refl _ | exact Sub.nil _ | (apply sub_pick; (repeat (first | exact Has.here | apply Has.there)); skip) | apply Sub.drop))) ?_
  have hdd := TX.hd0 (t := ⟨false, began, parts, works, heard⟩) hv
  refine ex_loop (σ := Nat × List MV × Option Addr × Nat) (fun u => u.1 ≤ parts.length ∧ u.2.1.map (·.m) = saidL s.node ⟨x1, x2, x3⟩ ⟨false, began, parts, works, heard⟩ u.1 ∧ ∀ y ∈ u.2.1, OkMV y) (fun u => [(0, .pointer (some ⟨p, 0, none⟩)), (2, .pointer (some ⟨ep, 0, none⟩)), (4, .pointer (some ⟨p4, 0, none⟩)), (7, .slice u.2.2.1 u.2.1.length u.2.2.2), (14, .slice b0 parts.length c0), (15, I parts.length), (16, I u.1)]) (fun _ => H)
    (fun u => ownS rMV 19 216 53 H (.slice u.2.2.1 u.2.1.length u.2.2.2) u.2.1 :: bigL ownMV u.2.1 :: xRowC ep false began (.slice b0 parts.length c0) (.map (some wb)) hb :: mapO iK rCW true H1 wb works :: mapO iK rInt false H1 hb heard :: row p4 28 [I x1, I x2, I x3] :: cRow p mb s :: R) (fun u => parts.length - u.1) (0, [], none, 0) ⟨Nat.zero_le _, by simp [saidL], fun y h => (by cases h)⟩ (hs0 := ?_) fun ⟨j, ys, d, e⟩ ⟨hj0, hys, hok⟩ K hL => ?_
  rotate_left
  · show Sub _ (ownS rMV 19 216 53 H (.slice none 0 0) [] :: _)
    refine Sub.trans ?_ (ownS_nil.trans (Sub.cons bigL_nil))
    (repeat (first | exact Sub.refl _ | exact Sub.nil _ | (apply sub_pick; (repeat (first | exact Has.here | apply Has.there)); skip) | apply Sub.drop))
  simp only at hj0 hys hok
  dsimp only
  refine walk ?_
  have hyl : ys.length ≤ parts.length := by
    have h1 := congrArg List.length hys
    have h2 := saidL_len (n := s.node) (x := ⟨x1, x2, x3⟩) (t := ⟨false, began, parts, works, heard⟩) (j := j)
    rw [List.length_map] at h1
    rw [h1]; exact h2
  have hcp : (ys.length + 1) * 216 ≤ cap47 := Nat.le_trans (Nat.mul_le_mul_right _ (by omega)) hcap
  refine ex_if rfl (fun hj => ?_) (fun hj => ?_)
  · have hj1 : j < parts.length := by omega
    have hfp := hp _ (List.getElem_mem hj1)
    have hslK : SlR rInt 1 H (.slice b0 parts.length c0) parts := (hsl2.mono hl1).1
    refine walk ?_
    refine ops_lkA (RV := rInt) (ag := false) (z := 0) rfl rfl (by repeat (first | exact Has.here | apply Has.there)) ?_
    refine walk ?_
    refine ex_if rfl (fun hq => ?_) (fun hq => ?_)
    · have hh : (⟨false, began, parts, works, heard⟩ : TX).hd parts[j] = true := by
        cases hh : (⟨false, began, parts, works, heard⟩ : TX).hd parts[j] with
        | true => rfl
        | false => exact absurd ((hdd _).2 hh) hq
      refine walk ?_
      exact out_next hL (j + 1, ys, d, e) ⟨by simp only; omega, by simp only; rw [saidL_no (n := s.node) (x := ⟨x1, x2, x3⟩) (t := ⟨false, began, parts, works, heard⟩) hj1 hh]; exact hys, hok⟩
    have hh : (⟨false, began, parts, works, heard⟩ : TX).hd parts[j] = false := (hdd _).1 (Classical.not_not.1 hq)
    refine walk ?_
    refine ex_any 15 [row p4 28 [I x1, I x2, I x3], xRowC ep false began (.slice b0 parts.length c0) (.map (some wb)) hb, cRow p mb s, mapO iK rCW true H1 wb works] ?_
    refine stepY 0 ?_; refine stepY 1 ?_; refine stepY 2 ?_; refine stepY 3 ?_; refine stepY 4 ?_; refine stepY 5 ?_; refine stepY 6 ?_; refine stepY 7 ?_; refine stepY 8 ?_; refine stepY 9 ?_; refine stepY 10 ?_
    refine gny_lkA (RV := rCW) (ag := true) (z := zCW) 11 rfl rfl rfl (by repeat (first | exact Has.here | apply Has.there)) ?_
    have hwr := cw_read (H := H1) (H' := H) hl1 hwl parts[j]
    have hrob : fits ((mget parts[j] works).getD zCW).2.Robot := by obtain ⟨_, _, _, h, _⟩ := hwr; exact h
    refine any_ca 12 14 rfl rfl rfl (cOwnO_spec (W0 := W0) (H := H) (m := ((mget parts[j] works).getD zCW).2) (c := ((mget parts[j] works).getD zCW).1) hwr) (fun r5 H5 B hl5 ⟨wv1, hww, er, eB, eH⟩ => ?g1) (fun p10 _ => ?g2)
    case g1 =>
      subst er eB eH
      refine ⟨(by (repeat (first | exact Sub.refl _ | exact Sub.nil _ | (apply sub_pick; (repeat (first | exact Has.here | apply Has.there)); skip) | apply Sub.drop))), ?_⟩
      refine stepY 13 ?_
      refine gny_alloc 14 rfl rfl fun p10 _ => ?_
      refine any_rest rfl ?_
      refine walk ?_
      have hsy := saidL_yes (n := s.node) (x := ⟨x1, x2, x3⟩) (t := ⟨false, began, parts, works, heard⟩) hj1 hh
      have hsm : saidM s.node ⟨x1, x2, x3⟩ ⟨false, began, parts, works, heard⟩ parts[j] = prepM s.node ⟨x1, x2, x3⟩ parts[j] ((mget parts[j] works).getD zCW).2 := rfl
      rw [hsm, ← hww] at hsy
      refine ops_app1 (y := (⟨prepM s.node ⟨x1, x2, x3⟩ parts[j] wv1.w, wv1.a, wv1.b⟩ : MV)) rfl rfl rfl rfl hcp fun d3 e3 => ?_
      rw [show ys.length + 1 = (ys ++ [(⟨prepM s.node ⟨x1, x2, x3⟩ parts[j] wv1.w, wv1.a, wv1.b⟩ : MV)]).length by rw [List.length_append]; rfl]
      refine walk ?_
      refine out_next hL (j + 1, ys ++ [⟨prepM s.node ⟨x1, x2, x3⟩ parts[j] wv1.w, wv1.a, wv1.b⟩], d3, e3) ⟨by simp only; omega, ?_, ?_⟩ (hs := ?_)
      · simp only
        rw [List.map_append, hys, hsy]; rfl
      · intro y hy
        rcases List.mem_append.1 hy with hy | hy
        · exact hok y hy
        · rw [List.mem_singleton.1 hy]; exact prepMV hn hfp hx (by rw [hww]; exact hrob)
      · dsimp only
        refine Sub.trans ?_ (Sub.cons (bigL_snoc (x := (⟨prepM s.node ⟨x1, x2, x3⟩ parts[j] wv1.w, wv1.a, wv1.b⟩ : MV))))
        (repeat (first | exact Sub.refl _ | exact Sub.nil _ | (apply sub_pick; (repeat (first | exact Has.here | apply Has.there)); skip) | apply Sub.drop))
    case g2 =>
      refine any_call 12 rfl rfl (cOwnO_spec (W0 := W0) (H := H) (m := ((mget parts[j] works).getD zCW).2) (c := ((mget parts[j] works).getD zCW).1) hwr) fun r5 H5 B hl5 ⟨wv1, hww, er, eB, eH⟩ => ?_
      subst er eB eH
      refine ⟨(by (repeat (first | exact Sub.refl _ | exact Sub.nil _ | (apply sub_pick; (repeat (first | exact Has.here | apply Has.there)); skip) | apply Sub.drop))), ?_⟩
      refine stepY 13 ?_
      refine any_rest rfl ?_
      refine walk ?_
      have hsy := saidL_yes (n := s.node) (x := ⟨x1, x2, x3⟩) (t := ⟨false, began, parts, works, heard⟩) hj1 hh
      have hsm : saidM s.node ⟨x1, x2, x3⟩ ⟨false, began, parts, works, heard⟩ parts[j] = prepM s.node ⟨x1, x2, x3⟩ parts[j] ((mget parts[j] works).getD zCW).2 := rfl
      rw [hsm, ← hww] at hsy
      refine ops_app1 (y := (⟨prepM s.node ⟨x1, x2, x3⟩ parts[j] wv1.w, wv1.a, wv1.b⟩ : MV)) rfl rfl rfl rfl hcp fun d3 e3 => ?_
      rw [show ys.length + 1 = (ys ++ [(⟨prepM s.node ⟨x1, x2, x3⟩ parts[j] wv1.w, wv1.a, wv1.b⟩ : MV)]).length by rw [List.length_append]; rfl]
      refine walk ?_
      refine out_next hL (j + 1, ys ++ [⟨prepM s.node ⟨x1, x2, x3⟩ parts[j] wv1.w, wv1.a, wv1.b⟩], d3, e3) ⟨by simp only; omega, ?_, ?_⟩ (hs := ?_)
      · simp only
        rw [List.map_append, hys, hsy]; rfl
      · intro y hy
        rcases List.mem_append.1 hy with hy | hy
        · exact hok y hy
        · rw [List.mem_singleton.1 hy]; exact prepMV hn hfp hx (by rw [hww]; exact hrob)
      · dsimp only
        refine Sub.trans ?_ (Sub.cons (bigL_snoc (x := (⟨prepM s.node ⟨x1, x2, x3⟩ parts[j] wv1.w, wv1.a, wv1.b⟩ : MV))))
        (repeat (first | exact Sub.refl _ | exact Sub.nil _ | (apply sub_pick; (repeat (first | exact Has.here | apply Has.there)); skip) | apply Sub.drop))
  · clear hL
    obtain rfl : j = parts.length := by omega
    refine walk ?_
    have hfin : saidL s.node ⟨x1, x2, x3⟩ ⟨false, began, parts, works, heard⟩ parts.length = againL s.node ⟨x1, x2, x3⟩ ⟨false, began, parts, works, heard⟩ := by simp [saidL, againL]
    rw [hfin] at hys
    refine finB [ownS rMV 19 216 53 H (.slice d ys.length e) ys, bigL ownMV ys, cRow p mb s, xA H1 ⟨k, ep, .slice b0 parts.length c0, ⟨false, began, parts, works, heard⟩⟩] ?_ (hs := ?_)
    · exact ⟨ys, hys, hok, rfl, rfl⟩
    · refine Sub.trans (B := xRow ⟨k, ep, .slice b0 parts.length c0, ⟨false, began, parts, works, heard⟩⟩ (.map (some wb)) hb :: xWorks H1 ⟨k, ep, .slice b0 parts.length c0, ⟨false, began, parts, works, heard⟩⟩ (.map (some wb)) :: xHeard H1 ⟨k, ep, .slice b0 parts.length c0, ⟨false, began, parts, works, heard⟩⟩ hb :: ownS rMV 19 216 53 H (.slice d ys.length e) ys :: bigL ownMV ys :: cRow p mb s :: R) ?_ ?_
      · refine Sub.trans (B := mapO iK rCW true H1 wb works :: xRow ⟨k, ep, .slice b0 parts.length c0, ⟨false, began, parts, works, heard⟩⟩ (.map (some wb)) hb :: xHeard H1 ⟨k, ep, .slice b0 parts.length c0, ⟨false, began, parts, works, heard⟩⟩ hb :: ownS rMV 19 216 53 H (.slice d ys.length e) ys :: bigL ownMV ys :: cRow p mb s :: R) (by (repeat (first | exact Sub.refl _ | exact Sub.nil _ | (apply sub_pick; (repeat (first | exact Has.here | apply Has.there)); skip) | apply Sub.drop))) ?_
        refine Sub.trans (show Sub _ (xWorks H1 ⟨k, ep, .slice b0 parts.length c0, ⟨false, began, parts, works, heard⟩⟩ (.map (some wb)) :: _) from fun h ⟨h1, h2, a, r⟩ => ⟨h1, h2, .inr ⟨rfl, wb, rfl, a⟩, r⟩) ?_
        (repeat (first | exact Sub.refl _ | exact Sub.nil _ | (apply sub_pick; (repeat (first | exact Has.here | apply Has.there)); skip) | apply Sub.drop))
      refine (xA_shut (H := H1) hsl2 (.refl _)).trans ?_
      (repeat (first | exact Sub.refl _ | exact Sub.nil _ | (apply sub_pick; (repeat (first | exact Has.here | apply Has.there)); skip) | apply Sub.drop))
end Go.Proofs.Ythoafjeampbkeaa
