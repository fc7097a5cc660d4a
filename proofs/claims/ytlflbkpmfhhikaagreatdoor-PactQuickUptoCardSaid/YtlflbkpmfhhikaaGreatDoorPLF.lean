/- All prepared transactions. -/
import Derived.Test.YtlflbkpmfhhikaaGreatDoorPKC
import Derived.Test.YtlflbkpmfhhikaaGreatDoorPKD
import Derived.Test.YtlflbkpmfhhikaaGreatDoorPLP
import Derived.Test.YtlflbkpmfhhikaaGreatDoorPLY
import Derived.Test.YtlflbkpmfhhikaaGreatDoorPSRE
set_option linter.unusedVariables false
set_option linter.unusedSimpArgs false
namespace Go.Proofs.YtlflbkpmfhhikaaGreatDoor
open Go Go.Sx Go.Proofs Go.RowKit Go.Maps Go.Sort Go.Shelf Go.Lib
section
variable {ν : Type} {RV : Go.Sx.Rd ν} {ag : Bool} {H : Heap}
open Classical in
noncomputable def kf3 (e : MapEntry) : K3 := if h : ∃ k, e.key = ek3 k then h.choose else (0, 0, 0)
theorem kf3_eq {e : MapEntry} {k : K3} (h : e.key = ek3 k) : kf3 e = k := by
  have hx : ∃ k, e.key = ek3 k := ⟨k, h⟩
  unfold kf3
  rw [dif_pos hx]
  exact ek3_inj (hx.choose_spec.symm.trans h)
theorem el_kf3 : ∀ {es : List MapEntry} {m : List (K3 × ν)}, EL ek3 RV ag H es m → es.map kf3 = m.map (·.1) ∧ ∀ e ∈ es, e.key = ek3 (kf3 e)
  | [], [], _ => ⟨rfl, fun _ h => by cases h⟩
  | e :: es, (k, v) :: m, ⟨a, _, d⟩ => by
    obtain ⟨h1, h2⟩ := el_kf3 d
    have hk := kf3_eq a
    refine ⟨by simp [h1, hk], fun x hx => ?_⟩
    rcases List.mem_cons.1 hx with rfl | hx
    · rw [hk]; exact a
    · exact h2 x hx
  | [], _ :: _, h => h.elim
  | _ :: _, [], h => h.elim
theorem sort3_perm {l l' : List K3} (h : l.Perm l') : sort3 l = sort3 l' := by
  have hO := swoK
  have tot : ∀ x y, ltOf ordI x y = false → ltOf ordI y x = false → x = y := fun x y h1 h2 => by
    have e1 : ¬ ltK x y := fun h => by rw [← ltOf_iff] at h; rw [h] at h1; cases h1
    have e2 : ¬ ltK y x := fun h => by rw [← ltOf_iff] at h; rw [h] at h2; cases h2
    exact ltK_tot e1 e2
  have tr : ∀ a b c : K3, (!(ltOf ordI) b a) = true → (!(ltOf ordI) c b) = true → (!(ltOf ordI) c a) = true := fun a b c h1 h2 => by
    simp only [Bool.not_eq_true', ← Bool.not_eq_true, ltOf_iff] at *
    unfold ltK at *
    omega
  have to : ∀ a b : K3, ((!(ltOf ordI) b a) || (!(ltOf ordI) a b)) = true := fun a b => by
    simp only [Bool.or_eq_true, Bool.not_eq_true', ← Bool.not_eq_true, ltOf_iff]
    unfold ltK
    omega
  refine List.Perm.eq_of_pairwise (le := fun x y => (!(ltOf ordI) y x) = true) (fun a b _ _ h1 h2 => ?_) (List.pairwise_mergeSort tr to l) (List.pairwise_mergeSort tr to l') (((List.mergeSort_perm l _).trans h).trans (List.mergeSort_perm l' _).symm)
  simp only [Bool.not_eq_true'] at h1 h2
  exact tot a b h2 h1
theorem newRow3 {W0 w w' : World} {H : Heap} {L : List HProp} {T n : Nat} {v : Value} {xs : List Value} (hS : St W0 H w L) (hb : Below w.heap.size w w') (hr : w'.ownsRow w.heap.size T 3 v n xs) : St W0 H w' (Go.Sx.own T 3 v n xs :: L) := by
  have hS' := hS.below hb
  obtain ⟨hx, h⟩ := hr
  rcases h with ⟨rfl, rfl⟩ | ⟨g, cap, cur, rfl, hg, hcell, h1, h2, h3, h4⟩
  · have : xs = [] := List.eq_nil_of_length_eq_zero (by simpa using hx)
    subst this
    exact hS'.sub own_nil
  · obtain ⟨h, a, l, d⟩ := hS.own
    have hnew : hp w g = none := by simp only [hp]; exact Array.getElem?_eq_none hg
    let hA : Heap := fun b => if b = g then some (.cells cur T (0, 0)) else none
    have hAw : hA.le (hp w') := fun b o e => by
      simp only [hA] at e
      split at e
      · next e1 => subst e1; cases e; exact hcell
      · cases e
    have dis : ∀ (x : Heap), x.le (hp w) → Disj hA x := fun x hx b => by
      by_cases e : b = g
      · subst e
        right
        cases hxb : x b with
        | none => rfl
        | some o => have := hx b o hxb; rw [hnew] at this; cases this
      · left; simp [hA, e]
    have keep : ∀ (x : Heap), x.le (hp w) → x.le (hp w') := fun x hx b o e => by
      have h1 := hx b o e
      have hlt := hp_lt h1
      simp only [hp] at h1 ⊢
      rw [hb.block b hlt]; exact h1
    refine St.of_parts hS'.env hS'.ro (hA := hA) ?_ a (dis h l) (dis H hS.ro).symm d hAw (keep h l)
    by_cases h0 : cap = 0
    · subst h0
      have hn0 : n = 0 := by omega
      subst hn0
      have hc0 : cur.size = 0 := by simpa using h3
      refine ⟨hx, .inl ⟨rfl, ?_⟩⟩
      exact ⟨_, rfl⟩
    · have hsplit : cur.toList = xs ++ cur.toList.drop (n * 3) := by rw [← h4, List.take_append_drop]
      refine ⟨hx, .inr ⟨g, cap, cur.toList.drop (n * 3), rfl, by omega, h1, h2, ?_, ?_⟩⟩
      · rw [← hsplit]; simpa using h3
      · rw [← hsplit]; simp [hA]
def toTx (k : K3) : Txn := ⟨k.1, k.2.1, k.2.2⟩
theorem rl3 {H : Heap} : ∀ {l : List K3}, (∀ k ∈ l, fits k.1 ∧ fits k.2.1 ∧ fits k.2.2) → RL rTxn H (c3s l) (l.map toTx)
  | [], _ => rfl
  | k :: l, h => ⟨c3 k, c3s l, rfl, ⟨rfl, (h k (by simp)).1, (h k (by simp)).2.1, (h k (by simp)).2.2⟩, rl3 fun y hy => h y (by simp [hy])⟩
set_option maxRecDepth 100000 in
theorem enters60 : ∀ args w, (callFunc 119 args).run Tryz.prog w = .ok (.enter 119 args) w := fun _ _ => rfl
theorem keys_gives3 (n : Nat) (hn : 1 ≤ n) (Bm b : Nat) (es : Array MapEntry) (clock : Nat) (w : World) (hBm : Bm < w.heap.size) (hm : w.cell? ⟨Bm, 0, none⟩ = some (.map (some b))) (hb : w.heap[b]? = some (.map es clock))
    (hold : ∀ x ∈ es.toList, x.born < clock) (hnd : (es.toList.map (·.born)).Nodup) (hk : ∀ e ∈ es.toList, e.key = ek3 (kf3 e)) :
    SeqGives Fence.wide n Tryz.prog 119 #[.pointer (some ⟨Bm, 0, none⟩)] ek3 (fun ss => ss.Perm (es.toList.map kf3)) es.size w := fun l J W hW hJ hY h0 =>
  keys1_raw Fence.wide n trivial rfl hn l Bm b es clock kf3 J (fun pre x W1 hj hl => hY pre x W1 hj hl) W hJ ((hW.cell (p := ⟨Bm, 0, none⟩) hBm).trans hm) ((hW.block b (Array.getElem?_eq_some_iff.1 hb).1).trans hb) hold hnd hk h0
theorem ct_sorted3 {W0 : World} {H0 : Heap} {p b : Nat} {ms : List (K3 × ν)} (hs : ∀ q ∈ ms, fits q.1.1 ∧ fits q.1.2.1 ∧ fits q.1.2.2) (hl : ms.length * 24 ≤ cap47) :
    Ct Tryz.prog 81 #[.func (.func 119) #[] #[.pointer (some ⟨p, 0, none⟩)], .func (.func 83) #[] #[]] W0 H [row p 195 [.map (some b)], mapO ek3 RV ag H0 b ms]
      (fun r H' B => B = [ownS rTxn 3 24 47 H r ((sort3 (ms.map (·.1))).map toTx), mapO ek3 RV ag H0 b ms] ∧ H' = H) := by
  intro w R hS
  have hcap : cap47 ≤ maxLen := by decide
  obtain ⟨hA, hR, a, r, d, dA, dR, lA, lR⟩ := hS.parts
  obtain ⟨hB, hR2, ⟨es, clock, hm, hpt⟩, r2, d2, l2, l3⟩ := r
  have h1 : w.heap[p]? = some (.cells #[.map (some b)] 195 (0, 0)) := lA _ _ a
  have hcellp : w.cell? ⟨p, 0, none⟩ = some (.map (some b)) := by simp [World.cell?, h1]
  have hplt : p < w.heap.size := (Array.getElem?_eq_some_iff.1 h1).1
  have hbm : w.heap[b]? = some (.map es clock) := lR _ _ (l2 _ _ hpt)
  have hlm : ms.length ≤ maxLen := by have := hl; simp only [cap47] at this hcap; omega
  have hlen : es.size = ms.length := by simpa using hm.el.len
  obtain ⟨hk1, hk2⟩ := el_kf3 hm.el
  have hnd : (es.toList.map (·.born)).Nodup := hm.rise.imp fun h => Nat.ne_of_lt h
  refine (callsIn_wide.1 (sortedFunc_in Fence.wide 4 trivial trivial trivial trivial rfl (fun _ _ _ _ h => callsIn_wide.2 h) (fun _ => trivial) (Nat.le_refl _) _ _ enters60 (fun ss => ss.Perm (es.toList.map kf3)) es.size (by rw [hlen]; exact hlm) (by rw [hlen]; exact hl) w
    (keys_gives3 1 (Nat.le_refl _) p b es clock w hplt hcellp hbm hm.lt hnd hk2))).mono ?_
  rintro e w' ⟨v, ss, rfl, hss, hrow, _, hbl⟩
  have hS2 : St W0 H w (mapO ek3 RV ag H0 b ms :: R) := hS.sub (Sub.drop (Sub.refl _))
  have hS3 := newRow3 hS2 hbl hrow
  rw [hk1] at hss
  have hsort : sort3 ss = sort3 (ms.map (·.1)) := sort3_perm hss
  refine ⟨v, H, [ownS rTxn 3 24 47 H v ((sort3 (ms.map (·.1))).map toTx), mapO ek3 RV ag H0 b ms], rfl, .refl _, ⟨rfl, rfl⟩, ?_⟩
  refine hS3.sub ?_
  have hlen2 : ss.length = ((sort3 (ms.map (·.1))).map toTx).length := by
    rw [List.length_map, sort3_len]
    exact hss.length_eq
  rw [hsort, hlen2]
  refine ownS_mk (rl3 fun k hk => ?_) ?_
  · unfold sort3 at hk
    rw [List.mem_mergeSort] at hk
    obtain ⟨q, hq, rfl⟩ := List.mem_map.1 hk
    exact hs q hq
  · rw [← hlen2, hss.length_eq, List.length_map]
    exact hl
theorem ct_keys3 {W0 : World} {H : Heap} {b : Nat} :
    Ct Tryz.prog 82 #[.map (some b)] W0 H [] (fun r H' B => ∃ p, r = .func (.func 119) #[] #[.pointer (some ⟨p, 0, none⟩)] ∧ B = [row p 195 [.map (some b)]] ∧ H' = H) :=
  ct_keys fun mb W => callsIn_wide.1 (keysTx_in Fence.wide 0 trivial rfl mb W)
end
#print axioms ct_sorted3
end Go.Proofs.YtlflbkpmfhhikaaGreatDoor
namespace Go.Proofs.YtlflbkpmfhhikaaGreatDoor
open Go Go.Sx Go.Proofs
theorem cloneT_spec {W0 : World} {H : Heap} {v : Value} {xs : List ByteArray} (h0 : SlB rStr 1 16 H v xs) :
    Ct Tryz.prog 30 #[v] W0 H [] (fun r H' B => B = [ownS rStr 1 16 9 H r xs] ∧ H' = H) := by
  refine Ct.go fun R => ?_
  obtain ⟨b0, c0, rfl, hc0, hd0⟩ := h0.1.shape
  refine walk ?_
  refine ex_if rfl (fun h => ?_) (fun h => ?_)
  · subst h
    refine walk ?_
    obtain rfl : xs = [] := by
      obtain ⟨⟨cs, ⟨b, c, e, _, hl, _, h⟩, _⟩, _⟩ := h0
      cases e
      rcases h with h | ⟨b, off, h, _⟩
      · exact List.eq_nil_of_length_eq_zero h
      · cases h
    refine finB [ownS rStr 1 16 9 H (.slice none 0 0) []] ?_ (hs := ownS_nil)
    exact ⟨rfl, rfl⟩
  · refine walk ?_
    refine ops_mk0 (w := 16) rStr rfl fun b => ?_
    refine walk ?_
    refine ops_appS rfl rfl h0.1 (by simpa using h0.2) fun base cap => ?_
    refine walk ?_
    refine finB [_] ?_
    exact ⟨rfl, rfl⟩
theorem grow0_spec {W0 : World} {H : Heap} {n : Nat} (hn : n * 16 ≤ cap47) :
    Ct Tryz.prog 156 #[nilS, I n] W0 H [] (fun r H' B => B = [ownS rStr 1 16 9 H r []] ∧ H' = H) := by
  refine Ct.go fun R => ?_
  simp only [cap47] at hn
  have e0 : (n : Int) - (((0 : Nat) : Int) - ((0 : Nat) : Int)) = n := by omega
  by_cases h0 : n = 0
  · subst h0
    refine walk ?_
    refine finB [ownS rStr 1 16 9 H nilS []] ?_ (hs := ownS_nil)
    exact ⟨rfl, rfl⟩
  · refine walk ?_
    rw [e0]
    refine ops_zapp rfl rfl (by omega) (by omega) (by omega) fun b cap cs h1 h2 h3 => ?_
    refine walk ?_
    refine finB [ownS rStr 1 16 9 H (.slice (some ⟨b, 0, none⟩) 0 cap) []] ?_ (hs := own_room (by simpa using h3) h2)
    exact ⟨rfl, rfl⟩
def sumLen (xss : List (List ByteArray)) : Nat := (xss.map List.length).sum
theorem sumLen_snoc {xss : List (List ByteArray)} {x : List ByteArray} : sumLen (xss ++ [x]) = sumLen xss + x.length := by simp [sumLen]
theorem sumLen_take {xss : List (List ByteArray)} {k : Nat} : sumLen (xss.take k) ≤ sumLen xss := by
  have : sumLen xss = sumLen (xss.take k) + sumLen (xss.drop k) := by
    unfold sumLen; rw [← List.sum_append, ← List.map_append, List.take_append_drop]
  omega
theorem flat_len {xss : List (List ByteArray)} : xss.flatten.length = sumLen xss := by simp [sumLen, List.length_flatten]
set_option maxHeartbeats 4000000 in
theorem concat_spec {W0 : World} {H : Heap} {v : Value} {xss : List (List ByteArray)} (h0 : SlR (rSl rStr 1 16) 1 H v xss) (hs : sumLen xss * 16 ≤ cap47) :
    Ct Tryz.prog 133 #[v] W0 H [] (fun r H' B => B = [ownS rStr 1 16 9 H r xss.flatten] ∧ H' = H) := by
  refine Ct.go fun R => ?_
  obtain ⟨b0, c0, rfl, hc0, hd0⟩ := h0.shape
  have hs' := hs
  simp only [cap47] at hs'
  refine walk ?_
  refine ex_loop (σ := Nat × Int) (fun s => s.1 ≤ xss.length ∧ s.2 = sumLen (xss.take s.1)) (fun s => [(0, .slice b0 xss.length c0), (3, I s.2), (9, .slice b0 xss.length c0), (10, I xss.length), (11, I s.1)]) (fun _ => H) (fun _ => R) (fun s => xss.length - s.1) (0, 0) ⟨Nat.zero_le _, rfl⟩ fun ⟨k, z⟩ ⟨hk0, hz⟩ K hL => ?_
  simp only at hk0 hz
  dsimp only
  have hst := sumLen_take (xss := xss) (k := k)
  refine walk ?_
  refine ex_if rfl (fun hk => ?_) (fun hk => ?_)
  · have hk1 : k < xss.length := by omega
    have hst2 := sumLen_take (xss := xss) (k := k + 1)
    have hsn : sumLen (xss.take (k + 1)) = sumLen (xss.take k) + xss[k].length := by rw [List.take_succ_eq_append_getElem hk1, sumLen_snoc]
    refine walk ?_
    refine ops_ixp rfl rfl h0 hk1 fun b o c hr hc => ?_
    obtain ⟨w, rfl, hw⟩ := hc
    obtain ⟨b2, c2, rfl, _, _⟩ := hw.1.shape
    refine walk ?_
    exact out_next hL (k + 1, z + (xss[k].length : Nat)) ⟨by simp only; omega, by simp only; rw [hsn, hz]; omega⟩
  · clear hL
    obtain rfl : k = xss.length := by omega
    rw [List.take_length] at hz
    subst hz
    refine walk ?_
    refine ops_call (vs := [nilS, I (sumLen xss)]) rfl rfl (grow0_spec hs) fun r1 H1 B hl1 ⟨eB, eH⟩ => ?_
    subst eB eH
    refine walk ?_
    refine ex_loop (σ := Nat × Value) (fun s => s.1 ≤ xss.length) (fun s => [(6, s.2), (25, .slice b0 xss.length c0), (26, I xss.length), (27, I s.1)]) (fun _ => H1) (fun s => ownS rStr 1 16 9 H1 s.2 (xss.take s.1).flatten :: R) (fun s => xss.length - s.1) (0, r1) (Nat.zero_le _) fun ⟨k, v⟩ hk0 K hL => ?_
    simp only at hk0
    dsimp only
    refine walk ?_
    refine ex_if rfl (fun hk => ?_) (fun hk => ?_)
    · have hk1 : k < xss.length := by omega
      have hst2 := sumLen_take (xss := xss) (k := k + 1)
      have hsn : sumLen (xss.take (k + 1)) = sumLen (xss.take k) + xss[k].length := by rw [List.take_succ_eq_append_getElem hk1, sumLen_snoc]
      refine walk ?_
      refine ops_ixp rfl rfl h0 hk1 fun b o c hr hc => ?_
      obtain ⟨w, rfl, hw⟩ := hc
      obtain ⟨b2, c2, rfl, _, _⟩ := hw.1.shape
      refine walk ?_
      refine ops_appS rfl rfl hw.1 (by rw [flat_len]; simp only [cap47]; omega) fun d1 e1 => ?_
      refine walk ?_
      refine out_next hL (k + 1, _) (by simp only; omega) (hs := ?_)
      dsimp only
      rw [List.take_succ_eq_append_getElem hk1, List.flatten_append, List.length_append.symm]
      simp only [List.flatten_cons, List.flatten_nil, List.append_nil]
      exact Sub.refl _
    · clear hL
      obtain rfl : k = xss.length := by omega
      rw [List.take_length]
      refine walk ?_
      refine finB [ownS rStr 1 16 9 H1 v xss.flatten] ?_
      exact ⟨rfl, rfl⟩
end Go.Proofs.YtlflbkpmfhhikaaGreatDoor
namespace Go.Proofs.YtlflbkpmfhhikaaGreatDoor
open Go Go.Sx Go.Proofs Go.Sort
section
variable {P : Program} {f : FuncId} {W0 : World} {H H0 : Heap} {T : Nat} {v : Value}
abbrev enS : ByteArray → Value := fun x => .string x
theorem row_str (xs : List ByteArray) : xs.map enS = (xs.map fun s => s.data.toList).map encStr := by
  rw [List.map_map]; rfl
theorem ct_sortS {xs : List ByteArray} (hsort : ∀ (blk off cap : Nat) (zs : List (List UInt8)) (w : World), Holds encStr w blk off zs.toArray → blk < w.heap.size → zs.length < 4611686018427387904 →
      Calls P f #[.slice (some ⟨blk, off, none⟩) zs.length cap] w fun e w' => e = .returned (.tuple #[]) ∧ ∃ n os, w' = grow (Go.Sort.putRow encStr (Sort.ahead w n) blk off (zs.mergeSort fun x y => decide (x ≤ y)).toArray) os)
    (hnone : ∀ (p : Option Addr) (cap : Nat) (w : World), Calls P f #[.slice p 0 cap] w fun e w' => e = .returned (.tuple #[]) ∧ w' = w) :
    Ct P f #[v] W0 H [ownS rStr 1 16 T H0 v xs] (fun r H' B => r = .tuple #[] ∧ B = [ownS rStr 1 16 T H0 v (sortT xs)] ∧ H' = H) := by
  intro w R hS
  obtain ⟨hA, hR, ⟨cs, ⟨hr, hw⟩, ho⟩, r, d, dA, dR, lA, lR⟩ := hS.parts
  obtain ⟨hcs, hok⟩ := RL.map1 hr
  obtain ⟨hl, hc⟩ := ho
  have hlen : (sortT xs).length = xs.length := by simp [sortT]
  have hok' : ∀ x ∈ sortT xs, x.size ≤ cap47 := fun x hx => by
    obtain ⟨l, hl1, rfl⟩ := List.mem_map.1 hx
    rw [List.mem_mergeSort] at hl1
    obtain ⟨q, hq, rfl⟩ := List.mem_map.1 hl1
    exact hok q hq
  have hrowS : (sortT xs).map enS = ((xs.map fun s => s.data.toList).mergeSort fun x y => decide (x ≤ y)).map encStr := by
    simp only [sortT, List.map_map]; rfl
  rcases hc with ⟨h0, b, rfl⟩ | ⟨b, cap, sp, rfl, hp0, h1, h2, h3, h4⟩
  · have hx : xs = [] := List.eq_nil_of_length_eq_zero h0
    subst hx
    refine (hnone b 0 w).mono ?_
    rintro e w' ⟨rfl, rfl⟩
    exact ⟨_, H, _, rfl, .refl _, ⟨rfl, rfl, rfl⟩, by simpa [sortT] using hS⟩
  · have hcs2 : cs = (xs.map fun s => s.data.toList).map encStr := hcs.trans (row_str xs)
    subst hcs2
    have hS' : St W0 H w (row b T ((xs.map fun s => s.data.toList).map encStr ++ sp) :: R) := St.of_parts hS.env hS.ro h4 r d dA dR lA lR
    have hso := hsort b 0 cap (xs.map fun s => s.data.toList) w hS'.holds (hp_lt (w := w) (b := b) hS'.ptRead.1) (by simp only [cap47] at hw; simp; omega)
    rw [List.length_map] at hso
    refine hso.mono ?_
    rintro e w' ⟨rfl, n, os, rfl⟩
    have hS2 := hS'.putRow (n := n) (os := os) (ys := (xs.map fun s => s.data.toList).mergeSort (fun x y => decide (x ≤ y))) (by simp)
    rw [← hrowS] at hS2
    refine ⟨_, H, [ownS rStr 1 16 T H0 (.slice (some ⟨b, 0, none⟩) xs.length cap) (sortT xs)], rfl, .refl _, ⟨rfl, rfl, rfl⟩, hS2.sub ?_⟩
    rintro h ⟨k1, k2, a, rr, q, l1, l2⟩
    refine ⟨k1, k2, ⟨_, ⟨RL.mk1 (R := rStr) (val := fun x => .string x) hok', by rw [hlen]; exact hw⟩, by simp [hlen], .inr ⟨b, cap, sp, by rw [hlen], hp0, by rw [hlen]; exact h1, h2, ?_, a⟩⟩, rr, q, l1, l2⟩
    simpa [hlen] using h3
def compT (xs : List ByteArray) : List ByteArray := (Lib.compact (xs.map fun s => s.data.toList)).map sb
theorem compT_len (xs : List ByteArray) : (compT xs).length ≤ xs.length := by
  have := compact_len (xs.map fun s => s.data.toList)
  simpa [compT] using this
theorem ct_compactS {xs : List ByteArray} (hcomp : ∀ (blk off cap : Nat) (zs : List (List UInt8)) (w : World), Holds encStr w blk off zs.toArray → zs.length ≤ 9223372036854775807 → zs.length ≤ cap →
      Calls P f #[.slice (some ⟨blk, off, none⟩) zs.length cap] w fun e w' => e = .returned (.slice (some ⟨blk, off, none⟩) (Lib.compact zs).length cap) ∧ ∃ q, w' = Go.Sort.putRow encStr (Sort.ahead w q) blk off (Lib.compact zs ++ List.replicate (zs.length - (Lib.compact zs).length) []).toArray)
    (hnone : ∀ (a : Option Addr) (cap : Nat) (w : World), Calls P f #[.slice a 0 cap] w fun e w' => e = .returned (.slice a 0 cap) ∧ w' = w) :
    Ct P f #[v] W0 H [ownS rStr 1 16 T H0 v xs] (fun r H' B => B = [ownS rStr 1 16 T H0 r (compT xs)] ∧ H' = H) := by
  intro w R hS
  obtain ⟨hA, hR, ⟨cs, ⟨hr, hw⟩, ho⟩, r, d, dA, dR, lA, lR⟩ := hS.parts
  obtain ⟨hcs, hok⟩ := RL.map1 hr
  obtain ⟨hl, hc⟩ := ho
  have hok' : ∀ x ∈ compT xs, x.size ≤ cap47 := fun x hx => by
    obtain ⟨l, hl1, rfl⟩ := List.mem_map.1 hx
    obtain ⟨q, hq, rfl⟩ := List.mem_map.1 (mem_compact.1 hl1)
    exact hok q hq
  have hlen := compT_len xs
  have hlc : (compT xs).length = (Lib.compact (xs.map fun s => s.data.toList)).length := by simp [compT]
  rcases hc with ⟨h0, b, rfl⟩ | ⟨b, cap, sp, rfl, hp0, h1, h2, h3, h4⟩
  · have hx : xs = [] := List.eq_nil_of_length_eq_zero h0
    subst hx
    refine (hnone b 0 w).mono ?_
    rintro e w' ⟨rfl, rfl⟩
    exact ⟨_, H, _, rfl, .refl _, ⟨rfl, rfl⟩, hS⟩
  · have hcs2 : cs = (xs.map fun s => s.data.toList).map encStr := hcs.trans (row_str xs)
    subst hcs2
    have hS' : St W0 H w (row b T ((xs.map fun s => s.data.toList).map encStr ++ sp) :: R) := St.of_parts hS.env hS.ro h4 r d dA dR lA lR
    have hco := hcomp b 0 cap (xs.map fun s => s.data.toList) w hS'.holds (by simp only [cap47] at hw; simp; omega) (by simpa using h1)
    rw [List.length_map] at hco
    refine hco.mono ?_
    rintro e w' ⟨rfl, q, rfl⟩
    have hS2 := hS'.putRow (n := q) (os := #[]) (ys := Lib.compact (xs.map fun (s : ByteArray) => s.data.toList) ++ List.replicate (xs.length - (Lib.compact (xs.map fun (s : ByteArray) => s.data.toList)).length) []) (by simp; omega)
    rw [grow_empty] at hS2
    refine ⟨_, H, [ownS rStr 1 16 T H0 (.slice (some ⟨b, 0, none⟩) (compT xs).length cap) (compT xs)], by rw [hlc], .refl _, ⟨rfl, rfl⟩, hS2.sub ?_⟩
    rintro h ⟨k1, k2, a, rr, qq, l1, l2⟩
    refine ⟨k1, k2, ⟨_, ⟨RL.mk1 (R := rStr) (val := fun x => .string x) hok', by omega⟩, by simp, .inr ⟨b, cap, (List.replicate (xs.length - (compT xs).length) ([] : List UInt8)).map encStr ++ sp, rfl, hp0, by omega, h2, ?_, ?_⟩⟩, rr, qq, l1, l2⟩
    · simp at h3 ⊢; omega
    · have : (compT xs).map (fun x => Value.string x) ++ ((List.replicate (xs.length - (compT xs).length) ([] : List UInt8)).map encStr ++ sp) = (Lib.compact (xs.map fun (s : ByteArray) => s.data.toList) ++ List.replicate (xs.length - (Lib.compact (xs.map fun (s : ByteArray) => s.data.toList)).length) []).map encStr ++ sp := by
        rw [← hlc]
        simp [compT]
      rw [this]; exact a
end
theorem sortS_ct {W0 : World} {H H0 : Heap} {v : Value} {xs : List ByteArray} :
    Ct Tryz.prog 115 #[v] W0 H [ownS rStr 1 16 9 H0 v xs] (fun r H' B => r = .tuple #[] ∧ B = [ownS rStr 1 16 9 H0 v (sortT xs)] ∧ H' = H) := ct_sortS Tryz.slices_Sort_string Tryz.slices_Sort_string_none
theorem compactS_ct {W0 : World} {H H0 : Heap} {v : Value} {xs : List ByteArray} :
    Ct Tryz.prog 134 #[v] W0 H [ownS rStr 1 16 9 H0 v xs] (fun r H' B => B = [ownS rStr 1 16 9 H0 r (compT xs)] ∧ H' = H) := ct_compactS Tryz.slices_Compact_string Tryz.slices_Compact_string_empty
end Go.Proofs.YtlflbkpmfhhikaaGreatDoor
namespace Go.Proofs.YtlflbkpmfhhikaaGreatDoor
open Go Go.Sx Go.Proofs
def Txn.k (x : Txn) : K3 := (x.Node, x.Life, x.Count)
theorem toTx_k (x : Txn) : toTx x.k = x := rfl
theorem k_toTx (k : K3) : (toTx k).k = k := rfl
abbrev CW := List Value × Work
def rCW : Rd CW := fun H cs v => cs = v.1 ∧ rWork H cs v.2
instance : RdOk rCW 3 := ⟨fun ⟨e, h⟩ => RdOk.len h, fun ⟨e, h⟩ => RdOk.one h, fun hl ⟨e, h⟩ => ⟨e, RdOk.mono hl h⟩⟩
def zCW : CW := ([.int .i64 0, nilS, nilS], zWork)
instance : RVal rCW true (fun v => .agg v.1.toArray) := ⟨fun ⟨e, _⟩ => by subst e; rfl⟩
instance : RVal rTxn true (fun v => .agg v.cv.toArray) := ⟨fun ⟨e, _⟩ => by subst e; rfl⟩
instance : RVal rInt false (fun v => .int .i64 v) := ⟨fun ⟨e, _⟩ => by subst e; rfl⟩
theorem own_spec {W0 : World} {H : Heap} {c : List Value} {m : Work} (h0 : rWork H c m) :
    Ct Tryz.prog 84 #[.agg c.toArray] W0 H [] (fun r H' B => ∃ cs, r = .agg cs.toArray ∧ rWork H' cs m ∧ B = []) := by
  refine Ct.go fun R => ?_
  obtain ⟨s1, s2, rfl, f1, h1, h2⟩ := h0
  refine walk ?_
  refine ops_box rfl rfl fun p1 _ => ?_
  refine ops_alloc rfl fun p2 _ => ?_
  refine walk ?_
  refine ex_any 7 [row p1 50 (m.cv s1 s2)] ?_
  refine stepY 0 ?_; refine stepY 1 ?_
  refine stepY 3 ?_; refine stepY 4 ?_
  refine any_call 2 rfl rfl (cloneT_spec h1) fun r1 H1 B hl1 ⟨eB, eH⟩ => ?_
  subst eB eH
  refine ⟨subA, ?_⟩
  refine stepY 6 ?_
  refine any_call 5 rfl rfl (cloneT_spec h2) fun r2 H2 B hl2 ⟨eB, eH⟩ => ?_
  subst eB eH
  refine ⟨subA, ?_⟩
  refine any_rest rfl ?_
  refine ops_shape r1 fun d1 e1 e _ _ _ => ?_
  subst e
  refine ops_shape r2 fun d2 e2 e _ _ _ => ?_
  subst e
  refine walk ?_
  refine out_freeze (.slice d1 m.Take.length e1) fun H3 hl3 k1 => ?_
  refine out_freeze (.slice d2 m.Drop.length e2) fun H4 hl4 k2 => ?_
  refine fin0 ?_
  exact ⟨m.cv (.slice d1 m.Take.length e1) (.slice d2 m.Drop.length e2), rfl, ⟨_, _, rfl, f1, k1.mono hl4, k2⟩, rfl⟩
structure TS where
  held : List (ByteArray × Int)
  locked : List (ByteArray × Txn)
  works : List (K3 × CW)
abbrev tRow (p hb lb wb : Nat) : HProp := row p 197 [.map (some hb), .map (some lb), .map (some wb)]
abbrev hMap (H : Heap) (hb : Nat) (s : TS) : HProp := mapO Value.string rInt false H hb s.held
abbrev lMap (H : Heap) (lb : Nat) (s : TS) : HProp := mapO Value.string rTxn true H lb s.locked
abbrev wMap (H : Heap) (wb : Nat) (s : TS) : HProp := mapO ek3 rCW true H wb s.works
def tabO (H : Heap) (p : Nat) (s : TS) : HProp := fun h => ∃ hb lb wb, big [tRow p hb lb wb, hMap H hb s, lMap H lb s, wMap H wb s] h
theorem tab_fold {H : Heap} {p hb lb wb : Nat} {s : TS} {L : List HProp} : Sub (tRow p hb lb wb :: hMap H hb s :: lMap H lb s :: wMap H wb s :: L) (tabO H p s :: L) :=
  sub_fold (B := [tRow p hb lb wb, hMap H hb s, lMap H lb s, wMap H wb s]) (Sub.refl _) fun h hb' => ⟨hb, lb, wb, hb'⟩
theorem new_spec {W0 : World} {H : Heap} :
    Ct Tryz.prog 64 #[] W0 H [] (fun r H' B => ∃ p, r = .pointer (some ⟨p, 0, none⟩) ∧ B = [tabO H p ⟨[], [], []⟩] ∧ H' = H) := by
  refine Ct.go (vs := []) fun R => ?_
  refine walk ?_
  refine ops_makeMap Value.string rInt false rfl fun b1 _ => ?_
  refine ops_makeMap Value.string rTxn true rfl fun b2 _ => ?_
  refine ops_makeMap ek3 rCW true rfl fun b3 _ => ?_
  refine walk ?_
  refine ops_box rfl rfl fun p _ => ?_
  refine walk ?_
  refine finB [tabO H p ⟨[], [], []⟩] ?_ (hs := ?_)
  · exact ⟨p, rfl, rfl, rfl⟩
  · refine Sub.trans ?_ (tab_fold (hb := b1) (lb := b2) (wb := b3))
    exact subA
theorem tab_up {H H' : Heap} {p : Nat} {s : TS} {L : List HProp} (hl : H.le H') : Sub (tabO H p s :: L) (tabO H' p s :: L) := fun h ⟨h1, h2, ⟨hb, lb, wb, hbig⟩, r⟩ => by
  refine ⟨h1, h2, ⟨hb, lb, wb, ?_⟩, r⟩
  obtain ⟨a1, a2, x1, ⟨b1, b2, x2, ⟨c1, c2, x3, ⟨d1, d2, x4, y4⟩, y3⟩, y2⟩, y1⟩ := hbig
  exact ⟨a1, a2, x1, ⟨b1, b2, (let ⟨es, c, a, e⟩ := x2; ⟨es, c, a.mono hl, e⟩), ⟨c1, c2, (let ⟨es, c, a, e⟩ := x3; ⟨es, c, a.mono hl, e⟩), ⟨d1, d2, (let ⟨es, c, a, e⟩ := x4; ⟨es, c, a.mono hl, e⟩), y4⟩, y3⟩, y2⟩, y1⟩
end Go.Proofs.YtlflbkpmfhhikaaGreatDoor
namespace Go.Proofs.YtlflbkpmfhhikaaGreatDoor
open Go Go.Sx Go.Proofs Go.Shelf Go.RowKit Go.Maps Go.Sort
theorem sorts_at (m : Nat) : AnyZ.SortsIn Tryz.prog Tryz.sortedS_ren Fence.wide m :=
  ⟨fun blk off cap ss W hH hblk hsz => callsIn_wide.2 (AnyM.slices_Sort_string Tryz.sortS blk off cap ss W hH hblk hsz),
   fun p cap W => callsIn_wide.2 (AnyM.slices_Sort_string_none Tryz.sortS p cap W)⟩
theorem keys_ct {W0 : World} {H : Heap} {b : Nat} : Ct Tryz.prog 80 #[.map (some b)] W0 H [] (fun r H' B => ∃ p, r = .func (.func 116) #[] #[.pointer (some ⟨p, 0, none⟩)] ∧ B = [row p 193 [.map (some b)]] ∧ H' = H) :=
  ct_keys fun mb W => callsIn_wide.1 (AnyZ.keys_in Tryz.keysS Fence.wide 5 trivial rfl mb W)
theorem sorted_ct {ν : Type} {RV : Sx.Rd ν} {W0 : World} {H H0 : Heap} {p b : Nat} {ms : List (ByteArray × ν)} (hs : ∀ q ∈ ms, q.1.size ≤ cap47) (hl : ms.length * 16 ≤ cap47) :
    Ct Tryz.prog 79 #[.func (.func 116) #[] #[.pointer (some ⟨p, 0, none⟩)]] W0 H [row p 193 [.map (some b)], mapO Value.string RV false H0 b ms] (fun r H' B => B = [ownS rStr 1 16 9 H r (sortT (ms.map (·.1))), mapO Value.string RV false H0 b ms] ∧ H' = H) :=
  ct_sortedKeys (k := 9) Tryz.underlying9 (fun w nn D0 R hown hp hc hm hb =>
    callsIn_wide.1 (AnyZ.sorted_in Tryz.sortedS Fence.wide 5 trivial trivial trivial trivial rfl (by omega) (sorts_at _) (enters_of Tryz.func115 (by kernel_rfl) rfl) 116 #[.pointer (some ⟨p, 0, none⟩)] trivial (enters_of Tryz.func116 (by kernel_rfl) rfl) _ _ hm hb _
      (AnyZ.keys_gives (ρ := Tryz.keysS_ren) { Tryz.keysS with } Fence.wide _ trivial rfl (by omega) p b nn D0 w hp hc hown))) hs hl
theorem sortT_len (xs : List ByteArray) : (sortT xs).length = xs.length := by simp [sortT]
theorem mem_sortT {xs : List ByteArray} {x : ByteArray} : x ∈ sortT xs ↔ x ∈ xs := by
  unfold sortT
  simp only [List.mem_map, List.mem_mergeSort]
  constructor
  · rintro ⟨l, ⟨y, hy, rfl⟩, rfl⟩; exact hy
  · exact fun h => ⟨_, ⟨x, h, rfl⟩, rfl⟩
structure TsOk (s : TS) : Prop where
  hk : ∀ q ∈ s.held, q.1.size ≤ cap47
  hf : ∀ q ∈ s.held, fits q.2
  hn : s.held.length ≤ 1000000
  wf : ∀ q ∈ s.works, fits q.1.1 ∧ fits q.1.2.1 ∧ fits q.1.2.2
  wn : s.works.length ≤ 1000000
def holdOf (s : TS) (k : ByteArray) : Hold := ⟨k, (mget k s.held).getD 0⟩
def holdsL (s : TS) : List Hold := (sortT (s.held.map (·.1))).map (holdOf s)
theorem mget_fits {s : TS} (h : TsOk s) (k : ByteArray) : fits ((mget k s.held).getD 0) := by
  cases hg : mget k s.held with
  | none => exact fits0
  | some v => exact h.hf (k, v) (mget_mem hg)
set_option maxHeartbeats 4000000 in
theorem holds_spec {W0 : World} {H : Heap} {p : Nat} {s : TS} (hs : TsOk s) :
    Ct Tryz.prog 46 #[.pointer (some ⟨p, 0, none⟩)] W0 H [tabO H p s] (fun r H' B => B = [ownS rHold 2 24 42 H' r (holdsL s), tabO H' p s]) := by
  refine Ct.go (vs := [.pointer (some ⟨p, 0, none⟩)]) fun R => ?_
  have hn := hs.hn
  have hcap : (1000000 : Nat) * 24 ≤ cap47 := by decide
  refine ex_open (A := tabO H p s) (σ := Nat × Nat × Nat) (B := fun a => [tRow p a.1 a.2.1 a.2.2, hMap H a.1 s, lMap H a.2.1 s, wMap H a.2.2 s]) (p := fun _ => True) (by repeat (first | exact Has.here | apply Has.there)) (fun h ⟨hb, lb, wb, hbig⟩ => ⟨(hb, lb, wb), trivial, hbig⟩) fun ⟨hb, lb, wb⟩ _ => ?_
  dsimp only
  refine walk ?_
  refine ops_call rfl rfl keys_ct fun r1 H1 B hl1 ⟨pk, er, eB, eH⟩ => ?_
  subst er eB eH
  have hc := sorted_ct (W0 := W0) (H := H1) (H0 := H1) (RV := rInt) (p := pk) (b := hb) (ms := s.held) hs.hk (by simp only [cap47]; omega)
  refine ops_call rfl rfl hc fun r2 H2 B hl2 ⟨eB, eH⟩ => ?_
  subst eB eH
  have hlen : (sortT (s.held.map (·.1))).length = s.held.length := by rw [sortT_len, List.length_map]
  have hmem : ∀ k ∈ sortT (s.held.map (·.1)), k.size ≤ cap47 := fun k hk => by
    obtain ⟨q, hq, rfl⟩ := List.mem_map.1 (mem_sortT.1 hk)
    exact hs.hk q hq
  unfold holdsL
  generalize sortT (s.held.map (·.1)) = ks at *
  refine ops_freeze r2 fun H3 hl3 hsl => ?_
  obtain ⟨b0, c0, rfl, hc0, hd0⟩ := hsl.1.shape
  refine walk ?_
  refine ex_loop (σ := Nat × Option Addr × Nat) (fun u => u.1 ≤ ks.length) (fun u => [(0, .pointer (some ⟨p, 0, none⟩)), (11, .slice b0 ks.length c0), (12, I ks.length), (13, I u.1), (3, .slice u.2.1 ((ks.take u.1).map (holdOf s)).length u.2.2)]) (fun _ => H3)
    (fun u => ownS rHold 2 24 42 H3 (.slice u.2.1 ((ks.take u.1).map (holdOf s)).length u.2.2) ((ks.take u.1).map (holdOf s)) :: hMap H2 hb s :: tRow p hb lb wb :: lMap H2 lb s :: wMap H2 wb s :: R) (fun u => ks.length - u.1) (0, none, 0) (Nat.zero_le _) (hs0 := ?_) fun ⟨k, d, e⟩ hk0 K hL => ?_
  rotate_left
  · simp only [List.take_zero, List.map_nil, List.length_nil]
    refine Sub.trans ?_ ownS_nil
    exact subA
  simp only at hk0
  dsimp only
  have hll : ((ks.take k).map (holdOf s)).length = k := by simp; omega
  refine walk ?_
  refine ex_if rfl (fun hk => ?_) (fun hk => ?_)
  · have hk1 : k < ks.length := by omega
    have ht := List.take_succ_eq_append_getElem hk1
    refine walk ?_
    refine ops_ixp rfl rfl hsl.1 hk1 fun b o c hr hc => ?_
    obtain ⟨rfl, hsz⟩ := hc
    refine walk ?_
    refine ops_lkA (RV := rInt) (ag := false) (z := 0) rfl rfl (by repeat (first | exact Has.here | apply Has.there)) ?_
    refine walk ?_
    refine ops_app1 (y := holdOf s ks[k]) rfl rfl rfl ⟨rfl, hsz, mget_fits hs _⟩ (by rw [hll]; simp only [cap47]; omega) fun d3 e3 => ?_
    have hse : (ks.take k).map (holdOf s) ++ [holdOf s ks[k]] = (ks.take (k + 1)).map (holdOf s) := by rw [ht, List.map_append]; rfl
    have hsl2 : ((ks.take k).map (holdOf s)).length + 1 = ((ks.take (k + 1)).map (holdOf s)).length := by rw [← hse]; simp
    rw [hsl2, hse]
    refine walk ?_
    exact out_next hL (k + 1, d3, e3) (by simp only; omega)
  · clear hL
    obtain rfl : k = ks.length := by omega
    refine walk ?_
    rw [List.take_length] at *
    refine finB [ownS rHold 2 24 42 H3 (.slice d (ks.map (holdOf s)).length e) (ks.map (holdOf s)), tabO H3 p s] ?_ (hs := ?_)
    · exact rfl
    · refine Sub.trans ?_ (Sub.cons (Sub.trans (tab_fold (H := H2) (hb := hb) (lb := lb) (wb := wb)) (tab_up hl3)))
      exact subA
end Go.Proofs.YtlflbkpmfhhikaaGreatDoor
namespace Go.Proofs.YtlflbkpmfhhikaaGreatDoor
open Go Go.Sx Go.Proofs
def recOf (s : TS) (k : K3) : Rec := ⟨2, toTx k, ((mget k s.works).getD zCW).2, false, []⟩
def prepL (s : TS) : List Rec := (sort3 (s.works.map (·.1))).map (recOf s)
theorem mem_sort3 {l : List K3} {k : K3} : k ∈ sort3 l ↔ k ∈ l := by unfold sort3; exact List.mem_mergeSort
theorem zCW_reads {H : Heap} : rCW H zCW.1 zCW := ⟨rfl, zWork_reads⟩
set_option maxHeartbeats 4000000 in
theorem prepared_spec {W0 : World} {H : Heap} {p : Nat} {s : TS} (hs : TsOk s) :
    Ct Tryz.prog 47 #[.pointer (some ⟨p, 0, none⟩)] W0 H [tabO H p s] (fun r H' B => B = [ownS rRec 9 120 53 H' r (prepL s), tabO H' p s]) := by
  refine Ct.go (vs := [.pointer (some ⟨p, 0, none⟩)]) fun R => ?_
  have hn := hs.wn
  have hcap : (1000000 : Nat) * 120 ≤ cap47 := by decide
  refine ex_open (A := tabO H p s) (σ := Nat × Nat × Nat) (B := fun a => [tRow p a.1 a.2.1 a.2.2, hMap H a.1 s, lMap H a.2.1 s, wMap H a.2.2 s]) (p := fun _ => True) (by repeat (first | exact Has.here | apply Has.there)) (fun h ⟨hb, lb, wb, hbig⟩ => ⟨(hb, lb, wb), trivial, hbig⟩) fun ⟨hb, lb, wb⟩ _ => ?_
  dsimp only
  refine ex_know (A := wMap H wb s) (by repeat (first | exact Has.here | apply Has.there)) (fun h ho => mapO_know ho) fun hkw => ?_
  refine walk ?_
  refine ops_call rfl rfl ct_keys3 fun r1 H1 B hl1 ⟨pk, er, eB, eH⟩ => ?_
  subst er eB eH
  have hc := ct_sorted3 (W0 := W0) (H := H1) (H0 := H1) (RV := rCW) (ag := true) (p := pk) (b := wb) (ms := s.works) hs.wf (by simp only [cap47]; omega)
  refine ops_call rfl rfl hc fun r2 H2 B hl2 ⟨eB, eH⟩ => ?_
  subst eB eH
  have hlen : (sort3 (s.works.map (·.1))).length = s.works.length := by rw [sort3_len, List.length_map]
  have hmem : ∀ k ∈ sort3 (s.works.map (·.1)), fits k.1 ∧ fits k.2.1 ∧ fits k.2.2 := fun k hk => by
    obtain ⟨q, hq, rfl⟩ := List.mem_map.1 (mem_sort3.1 hk)
    exact hs.wf q hq
  have hread : ∀ k, rCW H2 ((mget k s.works).getD zCW).1 ((mget k s.works).getD zCW) := fun k => by
    cases hg : mget k s.works with
    | none => exact zCW_reads
    | some v => obtain ⟨cs, e, h⟩ := hkw.1 (k, v) (mget_mem hg); exact ⟨rfl, by subst e; exact h⟩
  unfold prepL
  generalize sort3 (s.works.map (·.1)) = ks at *
  refine ops_freeze r2 fun H3 hl3 hsl => ?_
  obtain ⟨b0, c0, rfl, hc0, hd0⟩ := hsl.1.shape
  have hlx : (ks.map toTx).length = ks.length := by simp
  refine walk ?_
  refine ex_loop (σ := Nat × Option Addr × Nat × Heap) (fun u => u.1 ≤ ks.length ∧ H3.le u.2.2.2) (fun u => [(0, .pointer (some ⟨p, 0, none⟩)), (11, .slice b0 (ks.map toTx).length c0), (12, I (ks.map toTx).length), (13, I u.1), (3, .slice u.2.1 ((ks.take u.1).map (recOf s)).length u.2.2.1)]) (fun u => u.2.2.2)
    (fun u => ownS rRec 9 120 53 u.2.2.2 (.slice u.2.1 ((ks.take u.1).map (recOf s)).length u.2.2.1) ((ks.take u.1).map (recOf s)) :: wMap H2 wb s :: tRow p hb lb wb :: hMap H2 hb s :: lMap H2 lb s :: R) (fun u => ks.length - u.1) (0, none, 0, H3) ⟨Nat.zero_le _, .refl _⟩ (hs0 := ?_) fun ⟨k, d, e, HK⟩ ⟨hk0, hlK⟩ K hL => ?_
  rotate_left
  · simp only [List.take_zero, List.map_nil, List.length_nil]
    refine Sub.trans ?_ ownS_nil
    exact subA
  simp only at hk0 hlK
  dsimp only
  have hll : ((ks.take k).map (recOf s)).length = k := by simp; omega
  refine walk ?_
  refine ex_if rfl (fun hk => ?_) (fun hk => ?_)
  · have hk1 : k < ks.length := by omega
    have ht := List.take_succ_eq_append_getElem hk1
    refine walk ?_
    refine ops_ixp rfl rfl (hsl.mono hlK).1 (show k < (ks.map toTx).length by simpa using hk1) fun b o c hr hc => ?_
    have hx : (ks.map toTx)[k]'(by simpa using hk1) = toTx ks[k] := by simp
    rw [hx] at hc
    have hkm := hmem ks[k] (List.getElem_mem hk1)
    have hrd := hread ks[k]
    have hse : (ks.take k).map (recOf s) ++ [recOf s ks[k]] = (ks.take (k + 1)).map (recOf s) := by rw [ht, List.map_append]; rfl
    have hsl2 : ((ks.take k).map (recOf s)).length + 1 = ((ks.take (k + 1)).map (recOf s)).length := by rw [← hse]; simp
    obtain ⟨rfl, _⟩ := hc
    generalize ks[k] = kk at *
    obtain ⟨ka, kb, kc⟩ := kk
    dsimp only at hkm
    change HRow HK b o [I ka, I kb, I kc] at hr
    refine walk ?_
    refine ops_ldNH rfl rfl hr rfl ?_
    refine ops_alloc rfl fun p5 _ => ?_
    refine walk ?_
    refine ex_any 12 [wMap H2 wb s, tRow p hb lb wb, row p5 47 [I ka, I kb, I kc]] ?_
    refine stepY 0 ?_; refine stepY 1 ?_; refine stepY 2 ?_; refine stepY 3 ?_; refine stepY 4 ?_; refine stepY 5 ?_; refine stepY 6 ?_
    refine gny_lkA (RV := rCW) (ag := true) (z := zCW) 7 rfl rfl rfl (by repeat (first | exact Has.here | apply Has.there)) ?_
    refine gny_call 8 rfl rfl rfl (own_spec (RdOk.mono (R := rWork) (hl3.trans hlK) hrd.2)) fun r4 H4 B hl4 ⟨cs, er, hcs, eB⟩ => ?_
    subst er eB
    refine ⟨subA, ?_⟩
    obtain ⟨s1, s2, rfl, hrob, hs1, hs2⟩ := hcs
    refine stepY 9 ?_
    have fk2 : fits (2 : Int) := by unfold fits; omega
    refine any_app1 (y := recOf s (ka, kb, kc)) 10 11 rfl rfl rfl ⟨s1, s2, nilS, rfl, fk2, hkm.1, hkm.2.1, hkm.2.2, hrob, hs1, hs2, SlB.nil⟩ (by rw [hll]; simp only [cap47]; omega) fun d3 e3 => ⟨subA, ?_⟩
    rw [hsl2, hse]
    refine any_rest rfl ?_
    refine walk ?_
    exact out_next hL (k + 1, d3, e3, H4) ⟨by simp only; omega, hlK.trans hl4⟩
  · clear hL
    obtain rfl : k = ks.length := by omega
    refine walk ?_
    rw [List.take_length] at *
    refine finB [ownS rRec 9 120 53 HK (.slice d (ks.map (recOf s)).length e) (ks.map (recOf s)), tabO HK p s] ?_ (hs := ?_)
    · exact rfl
    · refine Sub.trans ?_ (Sub.cons (Sub.trans (tab_fold (H := H2) (hb := hb) (lb := lb) (wb := wb)) (tab_up (hl3.trans hlK))))
      exact subA
end Go.Proofs.YtlflbkpmfhhikaaGreatDoor
