/- Lists of texts: sorted, compacted; is one twice in a list? -/
import Derived.Test.YtpphdbnifbjfmaaGreatDoorJKC
import Derived.Test.YtpphdbnifbjfmaaGreatDoorJKD
import Derived.Test.YtpphdbnifbjfmaaGreatDoorJLP
import Derived.Test.YtpphdbnifbjfmaaGreatDoorJSRE
import Derived.Test.YtpphdbnifbjfmaaGreatDoorJShelf2
set_option linter.unusedVariables false
set_option linter.unusedSimpArgs false
namespace Go.Proofs.YtpphdbnifbjfmaaGreatDoor
open Go Go.Sx Go.Proofs Go.RowKit Go.Maps Go.Sort Go.Shelf Go.Lib
section
variable {ν : Type} {RV : Go.Sx.Rd ν} {ag : Bool} {H : Heap}
open Classical in
noncomputable def kf3 (e : MapEntry) : K3 := if h : ∃ k, e.key = ek3 k then h.choose else (0, 0, 0)
theorem kf3_eq {e : MapEntry} {k : K3} (h : e.key = ek3 k) : kf3 e = k := by
  have hx : ∃ k, e.key = ek3 k := ⟨k, h⟩
  unfold kf3
  rw [dif_pos hx]
  exact ek3_inj (hx.choose_spec.symm.trans h)
theorem el_kf3 : ∀ {es : List MapEntry} {m : List (K3 × ν)}, EL ek3 RV ag H es m → es.map kf3 = m.map (·.1) ∧ ∀ e ∈ es, e.key = ek3 (kf3 e)
  | [], [], _ => ⟨rfl, fun _ h => by cases h⟩
  | e :: es, (k, v) :: m, ⟨a, _, d⟩ => by
    obtain ⟨h1, h2⟩ := el_kf3 d
    have hk := kf3_eq a
    refine ⟨by simp [h1, hk], fun x hx => ?_⟩
    rcases List.mem_cons.1 hx with rfl | hx
    · rw [hk]; exact a
    · exact h2 x hx
  | [], _ :: _, h => h.elim
  | _ :: _, [], h => h.elim
theorem sort3_perm {l l' : List K3} (h : l.Perm l') : sort3 l = sort3 l' := by
  have hO := swoK
  have tot : ∀ x y, ltOf ordI x y = false → ltOf ordI y x = false → x = y := fun x y h1 h2 => by
    have e1 : ¬ ltK x y := fun h => by rw [← ltOf_iff] at h; rw [h] at h1; cases h1
    have e2 : ¬ ltK y x := fun h => by rw [← ltOf_iff] at h; rw [h] at h2; cases h2
    exact ltK_tot e1 e2
  have tr : ∀ a b c : K3, (!(ltOf ordI) b a) = true → (!(ltOf ordI) c b) = true → (!(ltOf ordI) c a) = true := fun a b c h1 h2 => by
    simp only [Bool.not_eq_true', ← Bool.not_eq_true, ltOf_iff] at *
    unfold ltK at *
    omega
  have to : ∀ a b : K3, ((!(ltOf ordI) b a) || (!(ltOf ordI) a b)) = true := fun a b => by
    simp only [Bool.or_eq_true, Bool.not_eq_true', ← Bool.not_eq_true, ltOf_iff]
    unfold ltK
    omega
  refine List.Perm.eq_of_pairwise (le := fun x y => (!(ltOf ordI) y x) = true) (fun a b _ _ h1 h2 => ?_) (List.pairwise_mergeSort tr to l) (List.pairwise_mergeSort tr to l') (((List.mergeSort_perm l _).trans h).trans (List.mergeSort_perm l' _).symm)
  simp only [Bool.not_eq_true'] at h1 h2
  exact tot a b h2 h1
theorem newRow3 {W0 w w' : World} {H : Heap} {L : List HProp} {T n : Nat} {v : Value} {xs : List Value} (hS : St W0 H w L) (hb : Below w.heap.size w w') (hr : w'.ownsRow w.heap.size T 3 v n xs) : St W0 H w' (Go.Sx.own T 3 v n xs :: L) := by
  have hS' := hS.below hb
  obtain ⟨hx, h⟩ := hr
  rcases h with ⟨rfl, rfl⟩ | ⟨g, cap, cur, rfl, hg, hcell, h1, h2, h3, h4⟩
  · have : xs = [] := List.eq_nil_of_length_eq_zero (by simpa using hx)
    subst this
    exact hS'.sub own_nil
  · obtain ⟨h, a, l, d⟩ := hS.own
    have hnew : hp w g = none := by simp only [hp]; exact Array.getElem?_eq_none hg
    let hA : Heap := fun b => if b = g then some (.cells cur T (0, 0)) else none
    have hAw : hA.le (hp w') := fun b o e => by
      simp only [hA] at e
      split at e
      · next e1 => subst e1; cases e; exact hcell
      · cases e
    have dis : ∀ (x : Heap), x.le (hp w) → Disj hA x := fun x hx b => by
      by_cases e : b = g
      · subst e
        right
        cases hxb : x b with
        | none => rfl
        | some o => have := hx b o hxb; rw [hnew] at this; cases this
      · left; simp [hA, e]
    have keep : ∀ (x : Heap), x.le (hp w) → x.le (hp w') := fun x hx b o e => by
      have h1 := hx b o e
      have hlt := hp_lt h1
      simp only [hp] at h1 ⊢
      rw [hb.block b hlt]; exact h1
    refine St.of_parts hS'.env hS'.ro (hA := hA) ?_ a (dis h l) (dis H hS.ro).symm d hAw (keep h l)
    by_cases h0 : cap = 0
    · subst h0
      have hn0 : n = 0 := by omega
      subst hn0
      have hc0 : cur.size = 0 := by simpa using h3
      refine ⟨hx, .inl ⟨rfl, ?_⟩⟩
      exact ⟨_, rfl⟩
    · have hsplit : cur.toList = xs ++ cur.toList.drop (n * 3) := by rw [← h4, List.take_append_drop]
      refine ⟨hx, .inr ⟨g, cap, cur.toList.drop (n * 3), rfl, by omega, h1, h2, ?_, ?_⟩⟩
      · rw [← hsplit]; simpa using h3
      · rw [← hsplit]; simp [hA]
def toTx (k : K3) : Txn := ⟨k.1, k.2.1, k.2.2⟩
theorem rl3 {H : Heap} : ∀ {l : List K3}, (∀ k ∈ l, fits k.1 ∧ fits k.2.1 ∧ fits k.2.2) → RL rTxn H (c3s l) (l.map toTx)
  | [], _ => rfl
  | k :: l, h => ⟨c3 k, c3s l, rfl, ⟨rfl, (h k (by simp)).1, (h k (by simp)).2.1, (h k (by simp)).2.2⟩, rl3 fun y hy => h y (by simp [hy])⟩
set_option maxRecDepth 100000 in
theorem enters60 : ∀ args w, (callFunc 82 args).run Tryz.prog w = .ok (.enter 82 args) w := fun _ _ => rfl
theorem keys_gives3 (n : Nat) (hn : 1 ≤ n) (Bm b : Nat) (es : Array MapEntry) (clock : Nat) (w : World) (hBm : Bm < w.heap.size) (hm : w.cell? ⟨Bm, 0, none⟩ = some (.map (some b))) (hb : w.heap[b]? = some (.map es clock))
    (hold : ∀ x ∈ es.toList, x.born < clock) (hnd : (es.toList.map (·.born)).Nodup) (hk : ∀ e ∈ es.toList, e.key = ek3 (kf3 e)) :
    SeqGives Fence.wide n Tryz.prog 82 #[.pointer (some ⟨Bm, 0, none⟩)] ek3 (fun ss => ss.Perm (es.toList.map kf3)) es.size w := fun l J W hW hJ hY h0 =>
  keys1_raw Fence.wide n trivial rfl hn l Bm b es clock kf3 J (fun pre x W1 hj hl => hY pre x W1 hj hl) W hJ ((hW.cell (p := ⟨Bm, 0, none⟩) hBm).trans hm) ((hW.block b (Array.getElem?_eq_some_iff.1 hb).1).trans hb) hold hnd hk h0
theorem ct_sorted3 {W0 : World} {H0 : Heap} {p b : Nat} {ms : List (K3 × ν)} (hs : ∀ q ∈ ms, fits q.1.1 ∧ fits q.1.2.1 ∧ fits q.1.2.2) (hl : ms.length * 24 ≤ cap47) :
    Ct Tryz.prog 57 #[.func (.func 82) #[] #[.pointer (some ⟨p, 0, none⟩)], .func (.func 59) #[] #[]] W0 H [row p 28 [.map (some b)], mapO ek3 RV ag H0 b ms]
      (fun r H' B => B = [ownS rTxn 3 24 45 H r ((sort3 (ms.map (·.1))).map toTx), mapO ek3 RV ag H0 b ms] ∧ H' = H) := by
  intro w R hS
  have hcap : cap47 ≤ maxLen := by decide
  obtain ⟨hA, hR, a, r, d, dA, dR, lA, lR⟩ := hS.parts
  obtain ⟨hB, hR2, ⟨es, clock, hm, hpt⟩, r2, d2, l2, l3⟩ := r
  have h1 : w.heap[p]? = some (.cells #[.map (some b)] 28 (0, 0)) := lA _ _ a
  have hcellp : w.cell? ⟨p, 0, none⟩ = some (.map (some b)) := by simp [World.cell?, h1]
  have hplt : p < w.heap.size := (Array.getElem?_eq_some_iff.1 h1).1
  have hbm : w.heap[b]? = some (.map es clock) := lR _ _ (l2 _ _ hpt)
  have hlm : ms.length ≤ maxLen := by have := hl; simp only [cap47] at this hcap; omega
  have hlen : es.size = ms.length := by simpa using hm.el.len
  obtain ⟨hk1, hk2⟩ := el_kf3 hm.el
  have hnd : (es.toList.map (·.born)).Nodup := hm.rise.imp fun h => Nat.ne_of_lt h
  refine (callsIn_wide.1 (sortedFunc_in Fence.wide 4 trivial trivial trivial trivial rfl (fun _ _ _ _ h => callsIn_wide.2 h) (fun _ => trivial) (Nat.le_refl _) _ _ enters60 (fun ss => ss.Perm (es.toList.map kf3)) es.size (by rw [hlen]; exact hlm) (by rw [hlen]; exact hl) w
    (keys_gives3 1 (Nat.le_refl _) p b es clock w hplt hcellp hbm hm.lt hnd hk2))).mono ?_
  rintro e w' ⟨v, ss, rfl, hss, hrow, _, hbl⟩
  have hS2 : St W0 H w (mapO ek3 RV ag H0 b ms :: R) := hS.sub (Sub.drop (Sub.refl _))
  have hS3 := newRow3 hS2 hbl hrow
  rw [hk1] at hss
  have hsort : sort3 ss = sort3 (ms.map (·.1)) := sort3_perm hss
  refine ⟨v, H, [ownS rTxn 3 24 45 H v ((sort3 (ms.map (·.1))).map toTx), mapO ek3 RV ag H0 b ms], rfl, .refl _, ⟨rfl, rfl⟩, ?_⟩
  refine hS3.sub ?_
  have hlen2 : ss.length = ((sort3 (ms.map (·.1))).map toTx).length := by
    rw [List.length_map, sort3_len]
    exact hss.length_eq
  rw [hsort, hlen2]
  refine ownS_mk (rl3 fun k hk => ?_) ?_
  · unfold sort3 at hk
    rw [List.mem_mergeSort] at hk
    obtain ⟨q, hq, rfl⟩ := List.mem_map.1 hk
    exact hs q hq
  · rw [← hlen2, hss.length_eq, List.length_map]
    exact hl
theorem ct_keys3 {W0 : World} {H : Heap} {b : Nat} :
    Ct Tryz.prog 58 #[.map (some b)] W0 H [] (fun r H' B => ∃ p, r = .func (.func 82) #[] #[.pointer (some ⟨p, 0, none⟩)] ∧ B = [row p 28 [.map (some b)]] ∧ H' = H) :=
  ct_keys fun mb W => callsIn_wide.1 (keysTx_in Fence.wide 0 trivial rfl mb W)
end
#print axioms ct_sorted3
end Go.Proofs.YtpphdbnifbjfmaaGreatDoor
namespace Go.Proofs.YtpphdbnifbjfmaaGreatDoor
open Go Go.Sx Go.Proofs
theorem cloneT_spec {W0 : World} {H : Heap} {v : Value} {xs : List ByteArray} (h0 : SlB rStr 1 16 H v xs) :
    Ct Tryz.prog 26 #[v] W0 H [] (fun r H' B => B = [ownS rStr 1 16 9 H r xs] ∧ H' = H) := by
  refine Ct.go fun R => ?_
  obtain ⟨b0, c0, rfl, hc0, hd0⟩ := h0.1.shape
  refine walk ?_
  refine ex_if rfl (fun h => ?_) (fun h => ?_)
  · subst h
    refine walk ?_
    obtain rfl : xs = [] := by
      obtain ⟨⟨cs, ⟨b, c, e, _, hl, _, h⟩, _⟩, _⟩ := h0
      cases e
      rcases h with h | ⟨b, off, h, _⟩
      · exact List.eq_nil_of_length_eq_zero h
      · cases h
    refine finB [ownS rStr 1 16 9 H (.slice none 0 0) []] ?_ (hs := ownS_nil)
    exact ⟨rfl, rfl⟩
  · refine walk ?_
    refine ops_mk0 (w := 16) rStr rfl fun b => ?_
    refine walk ?_
    refine ops_appS rfl rfl h0.1 (by simpa using h0.2) fun base cap => ?_
    refine walk ?_
    refine finB [_] ?_
    exact ⟨rfl, rfl⟩
theorem grow0_spec {W0 : World} {H : Heap} {n : Nat} (hn : n * 16 ≤ cap47) :
    Ct Tryz.prog 92 #[nilS, I n] W0 H [] (fun r H' B => B = [ownS rStr 1 16 9 H r []] ∧ H' = H) := by
  refine Ct.go fun R => ?_
  simp only [cap47] at hn
  have e0 : (n : Int) - (((0 : Nat) : Int) - ((0 : Nat) : Int)) = n := by omega
  by_cases h0 : n = 0
  · subst h0
    refine walk ?_
    refine finB [ownS rStr 1 16 9 H nilS []] ?_ (hs := ownS_nil)
    exact ⟨rfl, rfl⟩
  · refine walk ?_
    rw [e0]
    refine ops_zapp rfl rfl (by omega) (by omega) (by omega) fun b cap cs h1 h2 h3 => ?_
    refine walk ?_
    refine finB [ownS rStr 1 16 9 H (.slice (some ⟨b, 0, none⟩) 0 cap) []] ?_ (hs := own_room (by simpa using h3) h2)
    exact ⟨rfl, rfl⟩
def sumLen (xss : List (List ByteArray)) : Nat := (xss.map List.length).sum
theorem sumLen_snoc {xss : List (List ByteArray)} {x : List ByteArray} : sumLen (xss ++ [x]) = sumLen xss + x.length := by simp [sumLen]
theorem sumLen_take {xss : List (List ByteArray)} {k : Nat} : sumLen (xss.take k) ≤ sumLen xss := by
  have : sumLen xss = sumLen (xss.take k) + sumLen (xss.drop k) := by
    unfold sumLen; rw [← List.sum_append, ← List.map_append, List.take_append_drop]
  omega
theorem flat_len {xss : List (List ByteArray)} : xss.flatten.length = sumLen xss := by simp [sumLen, List.length_flatten]
set_option maxHeartbeats 4000000 in
theorem concat_spec {W0 : World} {H : Heap} {v : Value} {xss : List (List ByteArray)} (h0 : SlR (rSl rStr 1 16) 1 H v xss) (hs : sumLen xss * 16 ≤ cap47) :
    Ct Tryz.prog 73 #[v] W0 H [] (fun r H' B => B = [ownS rStr 1 16 9 H r xss.flatten] ∧ H' = H) := by
  refine Ct.go fun R => ?_
  obtain ⟨b0, c0, rfl, hc0, hd0⟩ := h0.shape
  have hs' := hs
  simp only [cap47] at hs'
  refine walk ?_
  refine ex_loop (σ := Nat × Int) (fun s => s.1 ≤ xss.length ∧ s.2 = sumLen (xss.take s.1)) (fun s => [(0, .slice b0 xss.length c0), (3, I s.2), (9, .slice b0 xss.length c0), (10, I xss.length), (11, I s.1)]) (fun _ => H) (fun _ => R) (fun s => xss.length - s.1) (0, 0) ⟨Nat.zero_le _, rfl⟩ fun ⟨k, z⟩ ⟨hk0, hz⟩ K hL => ?_
  simp only at hk0 hz
  dsimp only
  have hst := sumLen_take (xss := xss) (k := k)
  refine walk ?_
  refine ex_if rfl (fun hk => ?_) (fun hk => ?_)
  · have hk1 : k < xss.length := by omega
    have hst2 := sumLen_take (xss := xss) (k := k + 1)
    have hsn : sumLen (xss.take (k + 1)) = sumLen (xss.take k) + xss[k].length := by rw [List.take_succ_eq_append_getElem hk1, sumLen_snoc]
    refine walk ?_
    refine ops_ixp rfl rfl h0 hk1 fun b o c hr hc => ?_
    obtain ⟨w, rfl, hw⟩ := hc
    obtain ⟨b2, c2, rfl, _, _⟩ := hw.1.shape
    refine walk ?_
    exact out_next hL (k + 1, z + (xss[k].length : Nat)) ⟨by simp only; omega, by simp only; rw [hsn, hz]; omega⟩
  · clear hL
    obtain rfl : k = xss.length := by omega
    rw [List.take_length] at hz
    subst hz
    refine walk ?_
    refine ops_call (vs := [nilS, I (sumLen xss)]) rfl rfl (grow0_spec hs) fun r1 H1 B hl1 ⟨eB, eH⟩ => ?_
    subst eB eH
    refine walk ?_
    refine ex_loop (σ := Nat × Value) (fun s => s.1 ≤ xss.length) (fun s => [(6, s.2), (25, .slice b0 xss.length c0), (26, I xss.length), (27, I s.1)]) (fun _ => H1) (fun s => ownS rStr 1 16 9 H1 s.2 (xss.take s.1).flatten :: R) (fun s => xss.length - s.1) (0, r1) (Nat.zero_le _) fun ⟨k, v⟩ hk0 K hL => ?_
    simp only at hk0
    dsimp only
    refine walk ?_
    refine ex_if rfl (fun hk => ?_) (fun hk => ?_)
    · have hk1 : k < xss.length := by omega
      have hst2 := sumLen_take (xss := xss) (k := k + 1)
      have hsn : sumLen (xss.take (k + 1)) = sumLen (xss.take k) + xss[k].length := by rw [List.take_succ_eq_append_getElem hk1, sumLen_snoc]
      refine walk ?_
      refine ops_ixp rfl rfl h0 hk1 fun b o c hr hc => ?_
      obtain ⟨w, rfl, hw⟩ := hc
      obtain ⟨b2, c2, rfl, _, _⟩ := hw.1.shape
      refine walk ?_
      refine ops_appS rfl rfl hw.1 (by rw [flat_len]; simp only [cap47]; omega) fun d1 e1 => ?_
      refine walk ?_
      refine out_next hL (k + 1, _) (by simp only; omega) (hs := ?_)
      dsimp only
      rw [List.take_succ_eq_append_getElem hk1, List.flatten_append, List.length_append.symm]
      simp only [List.flatten_cons, List.flatten_nil, List.append_nil]
      exact Sub.refl _
    · clear hL
      obtain rfl : k = xss.length := by omega
      rw [List.take_length]
      refine walk ?_
      refine finB [ownS rStr 1 16 9 H1 v xss.flatten] ?_
      exact ⟨rfl, rfl⟩
end Go.Proofs.YtpphdbnifbjfmaaGreatDoor
namespace Go.Proofs.YtpphdbnifbjfmaaGreatDoor
open Go Go.Sx Go.Proofs Go.Sort
section
variable {P : Program} {f : FuncId} {W0 : World} {H H0 : Heap} {T : Nat} {v : Value}
abbrev enS : ByteArray → Value := fun x => .string x
theorem row_str (xs : List ByteArray) : xs.map enS = (xs.map fun s => s.data.toList).map encStr := by
  rw [List.map_map]; rfl
theorem ct_sortS {xs : List ByteArray} (hsort : ∀ (blk off cap : Nat) (zs : List (List UInt8)) (w : World), Holds encStr w blk off zs.toArray → blk < w.heap.size → zs.length < 4611686018427387904 →
      Calls P f #[.slice (some ⟨blk, off, none⟩) zs.length cap] w fun e w' => e = .returned (.tuple #[]) ∧ ∃ n os, w' = grow (Go.Sort.putRow encStr (Sort.ahead w n) blk off (zs.mergeSort fun x y => decide (x ≤ y)).toArray) os)
    (hnone : ∀ (p : Option Addr) (cap : Nat) (w : World), Calls P f #[.slice p 0 cap] w fun e w' => e = .returned (.tuple #[]) ∧ w' = w) :
    Ct P f #[v] W0 H [ownS rStr 1 16 T H0 v xs] (fun r H' B => r = .tuple #[] ∧ B = [ownS rStr 1 16 T H0 v (sortT xs)] ∧ H' = H) := by
  intro w R hS
  obtain ⟨hA, hR, ⟨cs, ⟨hr, hw⟩, ho⟩, r, d, dA, dR, lA, lR⟩ := hS.parts
  obtain ⟨hcs, hok⟩ := RL.map1 hr
  obtain ⟨hl, hc⟩ := ho
  have hlen : (sortT xs).length = xs.length := by simp [sortT]
  have hok' : ∀ x ∈ sortT xs, x.size ≤ cap47 := fun x hx => by
    obtain ⟨l, hl1, rfl⟩ := List.mem_map.1 hx
    rw [List.mem_mergeSort] at hl1
    obtain ⟨q, hq, rfl⟩ := List.mem_map.1 hl1
    exact hok q hq
  have hrowS : (sortT xs).map enS = ((xs.map fun s => s.data.toList).mergeSort fun x y => decide (x ≤ y)).map encStr := by
    simp only [sortT, List.map_map]; rfl
  rcases hc with ⟨h0, b, rfl⟩ | ⟨b, cap, sp, rfl, hp0, h1, h2, h3, h4⟩
  · have hx : xs = [] := List.eq_nil_of_length_eq_zero h0
    subst hx
    refine (hnone b 0 w).mono ?_
    rintro e w' ⟨rfl, rfl⟩
    exact ⟨_, H, _, rfl, .refl _, ⟨rfl, rfl, rfl⟩, by simpa [sortT] using hS⟩
  · have hcs2 : cs = (xs.map fun s => s.data.toList).map encStr := hcs.trans (row_str xs)
    subst hcs2
    have hS' : St W0 H w (row b T ((xs.map fun s => s.data.toList).map encStr ++ sp) :: R) := St.of_parts hS.env hS.ro h4 r d dA dR lA lR
    have hso := hsort b 0 cap (xs.map fun s => s.data.toList) w hS'.holds (hp_lt (w := w) (b := b) hS'.ptRead.1) (by simp only [cap47] at hw; simp; omega)
    rw [List.length_map] at hso
    refine hso.mono ?_
    rintro e w' ⟨rfl, n, os, rfl⟩
    have hS2 := hS'.putRow (n := n) (os := os) (ys := (xs.map fun s => s.data.toList).mergeSort (fun x y => decide (x ≤ y))) (by simp)
    rw [← hrowS] at hS2
    refine ⟨_, H, [ownS rStr 1 16 T H0 (.slice (some ⟨b, 0, none⟩) xs.length cap) (sortT xs)], rfl, .refl _, ⟨rfl, rfl, rfl⟩, hS2.sub ?_⟩
    rintro h ⟨k1, k2, a, rr, q, l1, l2⟩
    refine ⟨k1, k2, ⟨_, ⟨RL.mk1 (R := rStr) (val := fun x => .string x) hok', by rw [hlen]; exact hw⟩, by simp [hlen], .inr ⟨b, cap, sp, by rw [hlen], hp0, by rw [hlen]; exact h1, h2, ?_, a⟩⟩, rr, q, l1, l2⟩
    simpa [hlen] using h3
def compT (xs : List ByteArray) : List ByteArray := (Lib.compact (xs.map fun s => s.data.toList)).map sb
theorem compT_len (xs : List ByteArray) : (compT xs).length ≤ xs.length := by
  have := compact_len (xs.map fun s => s.data.toList)
  simpa [compT] using this
theorem ct_compactS {xs : List ByteArray} (hcomp : ∀ (blk off cap : Nat) (zs : List (List UInt8)) (w : World), Holds encStr w blk off zs.toArray → zs.length ≤ 9223372036854775807 → zs.length ≤ cap →
      Calls P f #[.slice (some ⟨blk, off, none⟩) zs.length cap] w fun e w' => e = .returned (.slice (some ⟨blk, off, none⟩) (Lib.compact zs).length cap) ∧ ∃ q, w' = Go.Sort.putRow encStr (Sort.ahead w q) blk off (Lib.compact zs ++ List.replicate (zs.length - (Lib.compact zs).length) []).toArray)
    (hnone : ∀ (a : Option Addr) (cap : Nat) (w : World), Calls P f #[.slice a 0 cap] w fun e w' => e = .returned (.slice a 0 cap) ∧ w' = w) :
    Ct P f #[v] W0 H [ownS rStr 1 16 T H0 v xs] (fun r H' B => B = [ownS rStr 1 16 T H0 r (compT xs)] ∧ H' = H) := by
  intro w R hS
  obtain ⟨hA, hR, ⟨cs, ⟨hr, hw⟩, ho⟩, r, d, dA, dR, lA, lR⟩ := hS.parts
  obtain ⟨hcs, hok⟩ := RL.map1 hr
  obtain ⟨hl, hc⟩ := ho
  have hok' : ∀ x ∈ compT xs, x.size ≤ cap47 := fun x hx => by
    obtain ⟨l, hl1, rfl⟩ := List.mem_map.1 hx
    obtain ⟨q, hq, rfl⟩ := List.mem_map.1 (mem_compact.1 hl1)
    exact hok q hq
  have hlen := compT_len xs
  have hlc : (compT xs).length = (Lib.compact (xs.map fun s => s.data.toList)).length := by simp [compT]
  rcases hc with ⟨h0, b, rfl⟩ | ⟨b, cap, sp, rfl, hp0, h1, h2, h3, h4⟩
  · have hx : xs = [] := List.eq_nil_of_length_eq_zero h0
    subst hx
    refine (hnone b 0 w).mono ?_
    rintro e w' ⟨rfl, rfl⟩
    exact ⟨_, H, _, rfl, .refl _, ⟨rfl, rfl⟩, hS⟩
  · have hcs2 : cs = (xs.map fun s => s.data.toList).map encStr := hcs.trans (row_str xs)
    subst hcs2
    have hS' : St W0 H w (row b T ((xs.map fun s => s.data.toList).map encStr ++ sp) :: R) := St.of_parts hS.env hS.ro h4 r d dA dR lA lR
    have hco := hcomp b 0 cap (xs.map fun s => s.data.toList) w hS'.holds (by simp only [cap47] at hw; simp; omega) (by simpa using h1)
    rw [List.length_map] at hco
    refine hco.mono ?_
    rintro e w' ⟨rfl, q, rfl⟩
    have hS2 := hS'.putRow (n := q) (os := #[]) (ys := Lib.compact (xs.map fun (s : ByteArray) => s.data.toList) ++ List.replicate (xs.length - (Lib.compact (xs.map fun (s : ByteArray) => s.data.toList)).length) []) (by simp; omega)
    rw [grow_empty] at hS2
    refine ⟨_, H, [ownS rStr 1 16 T H0 (.slice (some ⟨b, 0, none⟩) (compT xs).length cap) (compT xs)], by rw [hlc], .refl _, ⟨rfl, rfl⟩, hS2.sub ?_⟩
    rintro h ⟨k1, k2, a, rr, qq, l1, l2⟩
    refine ⟨k1, k2, ⟨_, ⟨RL.mk1 (R := rStr) (val := fun x => .string x) hok', by omega⟩, by simp, .inr ⟨b, cap, (List.replicate (xs.length - (compT xs).length) ([] : List UInt8)).map encStr ++ sp, rfl, hp0, by omega, h2, ?_, ?_⟩⟩, rr, qq, l1, l2⟩
    · simp at h3 ⊢; omega
    · have : (compT xs).map (fun x => Value.string x) ++ ((List.replicate (xs.length - (compT xs).length) ([] : List UInt8)).map encStr ++ sp) = (Lib.compact (xs.map fun (s : ByteArray) => s.data.toList) ++ List.replicate (xs.length - (Lib.compact (xs.map fun (s : ByteArray) => s.data.toList)).length) []).map encStr ++ sp := by
        rw [← hlc]
        simp [compT]
      rw [this]; exact a
end
theorem sortS_ct {W0 : World} {H H0 : Heap} {v : Value} {xs : List ByteArray} :
    Ct Tryz.prog 69 #[v] W0 H [ownS rStr 1 16 9 H0 v xs] (fun r H' B => r = .tuple #[] ∧ B = [ownS rStr 1 16 9 H0 v (sortT xs)] ∧ H' = H) := ct_sortS Tryz.slices_Sort_string Tryz.slices_Sort_string_none
theorem compactS_ct {W0 : World} {H H0 : Heap} {v : Value} {xs : List ByteArray} :
    Ct Tryz.prog 74 #[v] W0 H [ownS rStr 1 16 9 H0 v xs] (fun r H' B => B = [ownS rStr 1 16 9 H0 r (compT xs)] ∧ H' = H) := ct_compactS Tryz.slices_Compact_string Tryz.slices_Compact_string_empty
end Go.Proofs.YtpphdbnifbjfmaaGreatDoor
