/- The law's own: works with lists of their own, not too many and not too long. -/
import Derived.Test.YtlflbkpmfhhikaaGreatDoorPXI
import Derived.Test.YtlflbkpmfhhikaaGreatDoorPYI
set_option linter.unusedVariables false
set_option linter.unusedSimpArgs false
namespace Go.Proofs.YtlflbkpmfhhikaaGreatDoor
open Go Go.Sx Go.Proofs
theorem PPlay.more {m m' : Nat} {w w' : PW} {k a e : Int} {works : List Work} (h : PPlay m w k a works w' e) (hm : m ≤ m') : PPlay m' w k a works w' e := by
  have hc : ∀ {w w' : PW} {i : Nat}, PCrash m w i w' → PCrash m' w i w' := fun h => by
    cases h with
    | mk h s' hs hI => exact .mk h s' hs (hI.more hm)
  cases h with
  | bad h => exact .bad h
  | begin hk i ha h hn ws hw => exact .begin hk i ha h hn ws hw
  | none hk h => exact .none hk h
  | deliver hk j ha h w' out hh => exact .deliver hk j ha h w' out hh
  | fail hk j ha h w' w'' out hh i hi h1 => exact .fail hk j ha h w' _ out hh i hi (hc h1)
  | drop hk j ha h => exact .drop hk j ha h
  | copy hk j ha h hf => exact .copy hk j ha h hf
  | full hk j ha h hf => exact .full hk j ha h hf
  | step hk i ha h => exact .step hk i ha h
  | tick hk h0 h => exact .tick hk h0 h
  | crash hk i ha h w' h1 => exact .crash hk i ha h _ (hc h1)
theorem wplay_spec {W0 : World} {H : Heap} {p n K : Nat} {s : Value} {B : List BT} {w : PW} {m : Move} (hP : PkH H) (I : WInv n K B w) (hll : w.log.length ≤ 800000000) (hs : SlB rWork 3 56 H s m.Works) (hk : fits m.Kind) (ha : fits m.A) :
    Ct Tryz.prog 14 #[ptrC p, .agg (m.cv s).toArray] W0 H [worldO H p w] (fun r H' B => PlayQ (K + 1) H' p w m r B) := by
  have KW : WOk K w := I.ok (by omega)
  have hn := I.k3
  have hnow := I.now
  have hlen := I.len
  have hn4 := I.n4
  have up : ∀ {r H' B}, PlayQ K H' p w m r B → PlayQ (K + 1) H' p w m r B := fun ⟨w', e, h, h2⟩ => ⟨w', e, h.more (Nat.le_succ K), h2⟩
  by_cases hb : okMv w m.Kind m.A m.Works.length
  case neg => exact (play_bad (n := K + 1) hs hnow hk ha hb)
  have hms : ∀ g ∈ w.net, OkM g ∧ isNode w g.To := fun g hg => I.msg (I.J g hg)
  rcases hb with ⟨k1, hi, hwl⟩ | ⟨k5 | k7, hi⟩ | ⟨k6, h0, h1⟩ | k2 | k3 | k4 | k8
  · obtain ⟨i, hai⟩ : ∃ i : Nat, m.A = i := ⟨m.A.toNat, by unfold isNode at hi; omega⟩
    exact (play_begin KW hs hnow hk ha k1 hai (by unfold isNode at hi; omega) hwl (by omega)).mono fun r H' B _ h => up h
  · obtain ⟨i, hai⟩ : ∃ i : Nat, m.A = i := ⟨m.A.toNat, by unfold isNode at hi; omega⟩
    exact (play_step KW hs hnow hk ha k5 hai (by unfold isNode at hi; omega)).mono fun r H' B _ h => up h
  · obtain ⟨i, hai⟩ : ∃ i : Nat, m.A = i := ⟨m.A.toNat, by unfold isNode at hi; omega⟩
    exact (play_crash KW hs hnow hk ha k7 hai (by unfold isNode at hi; omega)).mono fun r H' B _ h => up h
  · exact play_tick hs hnow hk ha k6 h0 h1
  · exact play_deliver hP KW (by omega) (by omega) hms hs hnow hk ha k2
  · exact play_drop hs hnow hk ha k3
  · exact play_copy hs hnow hk ha k4
  · exact play_fail hP KW (by omega) (by omega) hms hs hnow hk ha k8
theorem bigL_end {ι : Type} {A : ι → HProp} {l : List ι} {x : ι} {L : List HProp} : Sub (A x :: bigL A l :: L) (bigL A (l ++ [x]) :: L) := by
  have h := bigL_in (A := A) (l1 := l) (x := x) (l2 := []) (L := L)
  rwa [List.append_nil] at h
def NewQ (nodes : Int) (r : Value) (H' : Heap) (B : List HProp) : Prop :=
  (¬ (1 ≤ nodes ∧ nodes ≤ 4) ∧ r = .tuple #[.pointer none, I 1] ∧ B = []) ∨ (∃ (n : Nat) (p : Nat), nodes = n ∧ (1 ≤ n ∧ n ≤ 4) ∧ r = .tuple #[ptrC p, I 0] ∧ B = [worldO H' p (newW n)])
set_option maxHeartbeats 8000000 in
set_option maxRecDepth 20000 in
theorem wnew_spec {W0 : World} {H : Heap} {nodes : Int} :
    Ct Tryz.prog 13 #[I nodes] W0 H [] (fun r H' B => NewQ nodes r H' B) := by
  refine Ct.go (vs := [I nodes]) fun R => ?_
  by_cases h1 : nodes < 1
  · refine walk ?_
    refine fin0 ?_
    exact .inl ⟨by omega, rfl, rfl⟩
  by_cases h2 : 4 < nodes
  · refine walk ?_
    refine fin0 ?_
    exact .inl ⟨by omega, rfl, rfl⟩
  obtain ⟨n, rfl⟩ : ∃ n : Nat, nodes = n := ⟨nodes.toNat, by omega⟩
  refine walk ?_
  refine ops_call (vs := []) rfl rfl (Net.new_spec (W0 := W0) (H := H)) fun r1 H1 B hl1 ⟨eB, eH⟩ => ?_
  subst eB eH
  refine ops_know .here (fun h => Net.netO_ptr) fun ⟨nb, e⟩ => ?_
  subst e
  refine walk ?_
  refine ops_box rfl rfl fun p _ => ?_
  refine walk ?_
  have hrs : ∀ k, (List.range (k + 1)).map newN = (List.range k).map newN ++ [newN k] := fun k => by rw [List.range_succ, List.map_append]; rfl
  refine ex_loop (σ := Nat × List NE × (Option Addr × Nat)) (fun u => u.1 ≤ n ∧ u.2.1.map NE.q = (List.range u.1).map newN) (fun u => [(4, ptrC p), (15, I n), (16, I u.1)]) (fun _ => H1)
    (fun u => wRow p (.slice u.2.2.1 u.2.1.length u.2.2.2) nb 0 nilS :: wNs (.slice u.2.2.1 u.2.1.length u.2.2.2) u.2.1 :: bigL (ndP H1) u.2.1 :: bigL (ndC H1) u.2.1 :: Net.netO H1 (ptrC nb) [] :: R) (fun u => n - u.1) (0, [], none, 0) ⟨Nat.zero_le _, rfl⟩ (hs0 := ?hs0) fun ⟨k, es, d, e⟩ ⟨hk0, hes⟩ K hL => ?_
  case hs0 =>
    refine Sub.trans (B := wRow p nilS nb 0 nilS :: Net.netO H1 (ptrC nb) [] :: R) subA ?_
    refine Sub.trans (Sub.trans (Sub.trans bigL_nil (Sub.cons bigL_nil)) (Sub.cons (Sub.cons ownS_nil))) (show Sub (bigL (ndC H1) [] :: bigL (ndP H1) [] :: wNs nilS [] :: wRow p nilS nb 0 nilS :: Net.netO H1 (ptrC nb) [] :: R) _ from ?_)
    exact subA
  simp only at hk0 hes
  dsimp only
  have hel : es.length = k := by have := congrArg List.length hes; simpa using this
  refine walk ?_
  refine ex_if rfl (fun hk => ?_) (fun hk => ?_)
  · have hk1 : k < n := by omega
    have hfk : fits (k : Int) := by unfold fits; omega
    refine walk ?_
    refine ex_any 12 [wRow p (.slice d es.length e) nb 0 nilS] ?_
    refine stepY 0 ?_; refine stepY 1 ?_; refine stepY 2 ?_; refine stepY 3 ?_; refine stepY 4 ?_; refine stepY 5 ?_; refine stepY 7 ?_
    refine gny_call 6 rfl rfl rfl (pnew_spec (W0 := W0) (H := H1) (sh := (k : Int)) hfk) fun r2 H2 B hl2 ⟨pp, er, eB, eH⟩ => ?_
    subst er eB eH
    refine ⟨subA, ?_⟩
    refine gny_call 8 rfl rfl rfl (cnew_spec (W0 := W0) (H := H2) (node := (k : Int)) (life := 1)) fun r3 H3 B hl3 ⟨cp, er, eB, eH⟩ => ?_
    subst er eB eH
    refine ⟨subA, ?_⟩
    refine stepY 9 ?_
    refine any_app1 (y := (⟨pp, cp, newN k⟩ : NE)) 10 11 rfl rfl rfl rfl (by rw [hel]; simp only [cap47]; omega) (hl := empty_le _) fun d3 e3 => ⟨subA, ?_⟩
    refine any_rest rfl ?_
    refine walk ?_
    have hl3 : es.length + 1 = (es ++ [(⟨pp, cp, newN k⟩ : NE)]).length := by simp
    rw [hl3]
    refine out_next hL (k + 1, es ++ [⟨pp, cp, newN k⟩], d3, e3) ⟨by simp only; omega, by simp only; rw [List.map_append, hes, hrs]; rfl⟩ (hs := ?_)
    refine Sub.trans (B := ownS rNE 3 24 92 H3 (.slice d3 (es ++ [(⟨pp, cp, newN k⟩ : NE)]).length e3) (es ++ [⟨pp, cp, newN k⟩]) :: ndC H3 ⟨pp, cp, newN k⟩ :: bigL (ndC H3) es :: ndP H3 ⟨pp, cp, newN k⟩ :: bigL (ndP H3) es :: wRow p (.slice d3 (es ++ [(⟨pp, cp, newN k⟩ : NE)]).length e3) nb 0 nilS :: Net.netO H3 (ptrC nb) [] :: R) (by rw [show ndC H3 ⟨pp, cp, newN k⟩ = coordO H3 cp ⟨k, 1, 0, []⟩ from rfl, show ndP H3 ⟨pp, cp, newN k⟩ = partO H3 pp ⟨k, ⟨[], [], []⟩, []⟩ from rfl]; exact subA) ?_
    refine Sub.trans (sub_flat H3 Heap.empty) ?_
    refine Sub.trans (Sub.cons (Sub.trans bigL_end (Sub.cons bigL_end))) ?_
    dsimp only
    exact subA
  · clear hL
    obtain rfl : k = n := by omega
    refine walk ?_
    refine finB [worldO H1 p (newW k)] ?_ (hs := ?_)
    · exact .inr ⟨k, p, rfl, by omega, rfl, rfl⟩
    · refine Sub.trans (B := wRow p (.slice d es.length e) nb 0 nilS :: wNs (.slice d es.length e) es :: bigL (ndP H1) es :: bigL (ndC H1) es :: Net.netO H1 (ptrC nb) [] :: R) subA ?_
      refine Sub.trans (Sub.cons (Sub.cons (Sub.cons (Sub.cons (Sub.cons (ownS_nil (R := rPactNote) (sz := 10) (w := 128) (T := 71) (H := H1) (base := none))))))) ?_
      exact world_fold (w := newW k) (nv := .slice d es.length e) (nb := nb) (lv := nilS) hes.symm
theorem slr_mem {α : Type} {R : Sx.Rd α} {sz : Nat} [RdOk R sz] {H : Heap} {v : Value} {xs : List α} (h : SlR R sz H v xs) {x : α} (hx : x ∈ xs) : ∃ c, R H c x := by
  obtain ⟨k, hk, rfl⟩ := List.getElem_of_mem hx
  obtain ⟨b, c, e, _, _⟩ := h.shape
  subst e
  obtain ⟨_, _, c, _, _, _, hc⟩ := h.get hk
  exact ⟨c, hc⟩
theorem slr_takeC {α : Type} {R : Sx.Rd α} {sz : Nat} [RdOk R sz] {H : Heap} {base : Option Addr} {m cap k : Nat} {xs : List α} (hr : SlR R sz H (.slice base m cap) xs) (h : k ≤ xs.length) : SlR R sz H (.slice base k cap) (xs.take k) := by
  obtain ⟨cs, ⟨base', cap', e, hc, hl, h1c, he⟩, b⟩ := hr
  cases e
  have hk : (xs.take k).length = k := by simp; omega
  have hmul : k * sz ≤ xs.length * sz := Nat.mul_le_mul_right _ h
  refine ⟨cs.take (k * sz), hk.symm ▸ ⟨_, _, rfl, by omega, by rw [List.length_take, hl]; omega, ?_, ?_⟩, b.take h⟩
  · simp only [List.all_eq_true] at h1c ⊢
    exact fun u hu => h1c u (List.mem_of_mem_take hu)
  · rcases he with he | ⟨b, off, rfl, hrow⟩
    · exact .inl (by omega)
    · exact .inr ⟨b, off, rfl, hrow.take⟩
def clipP (w : Work) : Work := ⟨w.Robot, w.Take.take 20, w.Drop.take 20⟩
def ownP (l : List Work) : List Work := (l.take 8).map clipP
theorem clip_snoc {l : List Work} {j : Nat} (hj : j < l.length) : (l.take (j + 1)).map clipP = (l.take j).map clipP ++ [clipP l[j]] := by
  rw [List.take_succ_eq_append_getElem hj, List.map_append]; rfl
set_option maxHeartbeats 8000000 in
set_option maxRecDepth 20000 in
theorem ownP_spec {W0 : World} {H : Heap} {v : Value} {l : List Work} (h0 : SlB rWork 3 56 H v l) :
    Ct Tryz.prog 15 #[v] W0 H [] (fun r H' B => B = [ownS rWork 3 56 50 H' r (ownP l)]) := by
  refine Ct.go (vs := [v]) fun R => ?_
  obtain ⟨b0, c0, rfl, hc0, hd0⟩ := h0.1.shape
  refine walk ?_
  refine ex_loop (σ := Nat × Option Addr × Nat × Heap) (fun u => u.1 ≤ l.length ∧ u.1 ≤ 8 ∧ H.le u.2.2.2) (fun u => [(0, .slice b0 l.length c0), (3, .slice u.2.1 ((l.take u.1).map clipP).length u.2.2.1), (4, I u.1)]) (fun u => u.2.2.2) (fun u => ownS rWork 3 56 50 u.2.2.2 (.slice u.2.1 ((l.take u.1).map clipP).length u.2.2.1) ((l.take u.1).map clipP) :: R) (fun u => l.length - u.1) (0, none, 0, H) ⟨Nat.zero_le _, Nat.zero_le _, .refl _⟩ (hs0 := ?_) fun ⟨j, dd, e, HK⟩ ⟨hj0, hj8, hlK⟩ K hL => ?_
  rotate_left
  · show Sub _ (ownS rWork 3 56 50 H (.slice none 0 0) [] :: _)
    refine Sub.trans ?_ ownS_nil
    exact subA
  simp only at hj0 hj8 hlK
  dsimp only
  by_cases hk1 : j < l.length
  · by_cases hk8 : j < 8
    · have hk1' : (j : Int) < (l.length : Int) := by omega
      have hk8' : (j : Int) < 8 := by omega
      have hsn := clip_snoc hk1
      have hll : ((l.take j).map clipP).length = j := by simp; omega
      have hsl := (h0.mono hlK).1
      obtain ⟨w, hwj⟩ : ∃ w, l[j] = w := ⟨_, rfl⟩
      rw [hwj] at hsn
      obtain ⟨wr, wt, wd⟩ := w
      have hk3 : (min (wt.length : Int) 20).toNat = (wt.take 20).length := by rw [List.length_take]; omega
      have hk4 : (min (wd.length : Int) 20).toNat = (wd.take 20).length := by rw [List.length_take]; omega
      have hq1 : wt.take (wt.take 20).length = wt.take 20 := by rw [List.length_take, List.take_eq_take_min]; simp [Nat.min_assoc, Nat.min_comm]
      have hq2 : wd.take (wd.take 20).length = wd.take 20 := by rw [List.length_take, List.take_eq_take_min]; simp [Nat.min_assoc, Nat.min_comm]
      have hlt : (wt.take 20).length ≤ 20 := by rw [List.length_take]; omega
      have hld : (wd.take 20).length ≤ 20 := by rw [List.length_take]; omega
      refine walk ?_
      refine ex_any 39 [] ?_
      refine stepY 0 ?_; refine stepY 1 ?_; refine stepY 2 ?_
      refine gny_ixp 3 rfl rfl rfl hsl hk1 fun rab rao rac rahr rahc => ?_
      rw [hwj] at rahc
      obtain ⟨ra1, ra2, rfl, raf, rag1, rag2⟩ := rahc
      obtain ⟨rax1, ray1, rfl, raz1, _⟩ := rag1.1.shape
      obtain ⟨rax2, ray2, rfl, raz2, _⟩ := rag2.1.shape
      dsimp only at raz1 raz2 rag1 rag2 raf
      change HRow HK rab rao [I wr, .slice rax1 wt.length ray1, .slice rax2 wd.length ray2] at rahr
      refine stepY 4 ?_
      refine gny_ldHo 5 0 rfl rfl rahr rfl rfl ?_
      refine stepY 7 ?_; refine stepY 8 ?_
      refine gny_ixp 9 rfl rfl rfl hsl hk1 fun rbb rbo rbc rbhr rbhc => ?_
      rw [hwj] at rbhc
      obtain ⟨rb1, rb2, rfl, rbf, rbg1, rbg2⟩ := rbhc
      obtain ⟨rbx1, rby1, rfl, rbz1, _⟩ := rbg1.1.shape
      obtain ⟨rbx2, rby2, rfl, rbz2, _⟩ := rbg2.1.shape
      dsimp only at rbz1 rbz2 rbg1 rbg2 rbf
      change HRow HK rbb rbo [I wr, .slice rbx1 wt.length rby1, .slice rbx2 wd.length rby2] at rbhr
      refine stepY 10 ?_
      refine gny_ldHo 11 1 rfl rfl rbhr rfl rfl ?_
      refine stepY 12 ?_; refine stepY 13 ?_
      refine gny_ixp 14 rfl rfl rfl hsl hk1 fun rcb rco rcc rchr rchc => ?_
      rw [hwj] at rchc
      obtain ⟨rc1, rc2, rfl, rcf, rcg1, rcg2⟩ := rchc
      obtain ⟨rcx1, rcy1, rfl, rcz1, _⟩ := rcg1.1.shape
      obtain ⟨rcx2, rcy2, rfl, rcz2, _⟩ := rcg2.1.shape
      dsimp only at rcz1 rcz2 rcg1 rcg2 rcf
      change HRow HK rcb rco [I wr, .slice rcx1 wt.length rcy1, .slice rcx2 wd.length rcy2] at rchr
      refine stepY 15 ?_
      refine gny_ldHo 16 1 rfl rfl rchr rfl rfl ?_
      refine stepY 17 ?_; refine stepY 18 ?_; refine stepY 19 ?_
      refine stepY 22 ?_; refine stepY 23 ?_
      refine gny_ixp 24 rfl rfl rfl hsl hk1 fun rdb rdo rdc rdhr rdhc => ?_
      rw [hwj] at rdhc
      obtain ⟨rd1, rd2, rfl, rdf, rdg1, rdg2⟩ := rdhc
      obtain ⟨rdx1, rdy1, rfl, rdz1, _⟩ := rdg1.1.shape
      obtain ⟨rdx2, rdy2, rfl, rdz2, _⟩ := rdg2.1.shape
      dsimp only at rdz1 rdz2 rdg1 rdg2 rdf
      change HRow HK rdb rdo [I wr, .slice rdx1 wt.length rdy1, .slice rdx2 wd.length rdy2] at rdhr
      refine stepY 25 ?_
      refine gny_ldHo 26 2 rfl rfl rdhr rfl rfl ?_
      refine stepY 27 ?_; refine stepY 28 ?_
      refine gny_ixp 29 rfl rfl rfl hsl hk1 fun reb reo rec rehr rehc => ?_
      rw [hwj] at rehc
      obtain ⟨re1, re2, rfl, ref, reg1, reg2⟩ := rehc
      obtain ⟨rex1, rey1, rfl, rez1, _⟩ := reg1.1.shape
      obtain ⟨rex2, rey2, rfl, rez2, _⟩ := reg2.1.shape
      dsimp only at rez1 rez2 reg1 reg2 ref
      change HRow HK reb reo [I wr, .slice rex1 wt.length rey1, .slice rex2 wd.length rey2] at rehr
      refine stepY 30 ?_
      refine gny_ldHo 31 2 rfl rfl rehr rfl rfl ?_
      refine stepY 32 ?_; refine stepY 33 ?_; refine stepY 34 ?_
      rw [hk3, hk4]
      have ht1 := slr_takeC (k := (wt.take 20).length) rbg1.1 (by rw [List.length_take]; omega)
      have ht2 := slr_takeC (k := (wd.take 20).length) rdg2.1 (by rw [List.length_take]; omega)
      rw [hq1] at ht1
      have hcap1 : (([] : List ByteArray).length + (wt.take 20).length) * 16 ≤ cap47 := by simp only [cap47, List.length_nil]; omega
      have hcap2 : (([] : List ByteArray).length + (wd.take 20).length) * 16 ≤ cap47 := by simp only [cap47, List.length_nil]; omega
      rw [hq2] at ht2
      refine any_w2 6 21 rfl rfl (op_mk0S (wd := 16) rStr fun b6 => ⟨.refl _, subA, ?_⟩) (op_mk0S (wd := 16) rStr fun b21 => ⟨.refl _, subA, ?_⟩)
      · refine any_w2 20 21 rfl rfl (op_appSS rfl ht1 hcap1 fun d20 e20 => ⟨.refl _, subA, ?_⟩) (op_mk0S (wd := 16) rStr fun b21 => ⟨.refl _, subA, ?_⟩)
        · refine any_w 21 rfl (op_mk0S (wd := 16) rStr fun b21 => ⟨.refl _, subA, ?_⟩)
          refine any_w 35 rfl (op_appSS rfl ht2 hcap2 fun d35 e35 => ⟨.refl _, subA, ?_⟩)
          simp only [List.length_nil, Nat.zero_add, List.nil_append]
          refine any_freeze (.slice d20 (wt.take 20).length e20) fun H2 hl2 g1 => ?_
          refine any_freeze (.slice d35 (wd.take 20).length e35) fun H3 hl3 g2 => ?_
          refine gny_bld 36 rfl rfl rfl ?_
          refine any_app1 (y := clipP ⟨wr, wt, wd⟩) 37 38 rfl rfl rfl ⟨_, _, rfl, raf, g1.mono hl3, g2⟩ (by rw [hll]; simp only [cap47]; omega) fun d9 e9 => ⟨subA, ?_⟩
          rw [← hsn, show ((l.take j).map clipP).length + 1 = ((l.take (j + 1)).map clipP).length by rw [hsn, List.length_append]; rfl]
          refine any_rest rfl ?_
          refine walk ?_
          refine out_next hL (j + 1, d9, e9, H3) ⟨by simp only; omega, by simp only; omega, hlK.trans (hl2.trans hl3)⟩ (hs := ?_)
          dsimp only
          exact subA
        · refine any_w 20 rfl (op_appSS rfl ht1 hcap1 fun d20 e20 => ⟨.refl _, subA, ?_⟩)
          refine any_w 35 rfl (op_appSS rfl ht2 hcap2 fun d35 e35 => ⟨.refl _, subA, ?_⟩)
          simp only [List.length_nil, Nat.zero_add, List.nil_append]
          refine any_freeze (.slice d20 (wt.take 20).length e20) fun H2 hl2 g1 => ?_
          refine any_freeze (.slice d35 (wd.take 20).length e35) fun H3 hl3 g2 => ?_
          refine gny_bld 36 rfl rfl rfl ?_
          refine any_app1 (y := clipP ⟨wr, wt, wd⟩) 37 38 rfl rfl rfl ⟨_, _, rfl, raf, g1.mono hl3, g2⟩ (by rw [hll]; simp only [cap47]; omega) fun d9 e9 => ⟨subA, ?_⟩
          rw [← hsn, show ((l.take j).map clipP).length + 1 = ((l.take (j + 1)).map clipP).length by rw [hsn, List.length_append]; rfl]
          refine any_rest rfl ?_
          refine walk ?_
          refine out_next hL (j + 1, d9, e9, H3) ⟨by simp only; omega, by simp only; omega, hlK.trans (hl2.trans hl3)⟩ (hs := ?_)
          dsimp only
          exact subA
      · refine any_w 6 rfl (op_mk0S (wd := 16) rStr fun b6 => ⟨.refl _, subA, ?_⟩)
        refine any_w 20 rfl (op_appSS rfl ht1 hcap1 fun d20 e20 => ⟨.refl _, subA, ?_⟩)
        refine any_w 35 rfl (op_appSS rfl ht2 hcap2 fun d35 e35 => ⟨.refl _, subA, ?_⟩)
        simp only [List.length_nil, Nat.zero_add, List.nil_append]
        refine any_freeze (.slice d20 (wt.take 20).length e20) fun H2 hl2 g1 => ?_
        refine any_freeze (.slice d35 (wd.take 20).length e35) fun H3 hl3 g2 => ?_
        refine gny_bld 36 rfl rfl rfl ?_
        refine any_app1 (y := clipP ⟨wr, wt, wd⟩) 37 38 rfl rfl rfl ⟨_, _, rfl, raf, g1.mono hl3, g2⟩ (by rw [hll]; simp only [cap47]; omega) fun d9 e9 => ⟨subA, ?_⟩
        rw [← hsn, show ((l.take j).map clipP).length + 1 = ((l.take (j + 1)).map clipP).length by rw [hsn, List.length_append]; rfl]
        refine any_rest rfl ?_
        refine walk ?_
        refine out_next hL (j + 1, d9, e9, H3) ⟨by simp only; omega, by simp only; omega, hlK.trans (hl2.trans hl3)⟩ (hs := ?_)
        dsimp only
        exact subA
    · obtain rfl : j = 8 := by omega
      have hk1' : (8 : Int) < (l.length : Int) := by omega
      clear hL
      refine walk ?_
      refine finB [ownS rWork 3 56 50 HK (.slice dd ((l.take (8)).map clipP).length e) ((l.take (8)).map clipP)] ?_
      unfold ownP
      first | rfl | rw [List.take_of_length_le (Nat.le_refl _), List.take_of_length_le hj8]
  · obtain rfl : j = l.length := by omega
    clear hL
    refine walk ?_
    refine finB [ownS rWork 3 56 50 HK (.slice dd ((l.take (l.length)).map clipP).length e) ((l.take (l.length)).map clipP)] ?_
    unfold ownP
    first | rfl | rw [List.take_of_length_le (Nat.le_refl _), List.take_of_length_le hj8]
end Go.Proofs.YtlflbkpmfhhikaaGreatDoor
