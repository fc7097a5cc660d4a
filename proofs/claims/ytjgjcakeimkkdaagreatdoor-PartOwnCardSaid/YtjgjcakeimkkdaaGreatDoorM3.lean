/- Apply, walked. The reference's small functions; the law's own. The reference's Twice. The law's own. The reference's Less. The reference's Holder. The reference's lists in order, and what a table keeps. No program in sight. The reference's steps on lists in order; what sorting and compacting tells. No program in sight. -/
import Derived.Test.YtjgjcakeimkkdaaGreatDoorM2
set_option linter.unusedVariables false
set_option linter.unusedSimpArgs false
namespace Go.Proofs.YtjgjcakeimkkdaaGreatDoor
open Go Go.Sx Go.Proofs
def unlockAll (ks : List ByteArray) (l : List (ByteArray × Txn)) : List (ByteArray × Txn) := ks.foldl (fun l k => mdel k l) l
theorem unlockAll_snoc {ks : List ByteArray} {k : ByteArray} {l : List (ByteArray × Txn)} : unlockAll (ks ++ [k]) l = mdel k (unlockAll ks l) := by simp [unlockAll]
def dropAll (r : Int) (ks : List ByteArray) (l : List (ByteArray × Int)) : List (ByteArray × Int) := ks.foldl (fun l k => if (mget k l).isSome = true ∧ (mget k l).getD 0 = r then mdel k l else l) l
theorem dropAll_snoc {r : Int} {ks : List ByteArray} {k : ByteArray} {l : List (ByteArray × Int)} : dropAll r (ks ++ [k]) l = if (mget k (dropAll r ks l)).isSome = true ∧ (mget k (dropAll r ks l)).getD 0 = r then mdel k (dropAll r ks l) else dropAll r ks l := by unfold dropAll; rw [List.foldl_append]; rfl
def takeAll (r : Int) (ks : List ByteArray) (l : List (ByteArray × Int)) : List (ByteArray × Int) := ks.foldl (fun l k => mset k r l) l
theorem takeAll_snoc {r : Int} {ks : List ByteArray} {k : ByteArray} {l : List (ByteArray × Int)} : takeAll r (ks ++ [k]) l = mset k r (takeAll r ks l) := by simp [takeAll]
def applyE (s : TS) (x : Txn) : Int := if (mget x.k s.works).isSome = true then 0 else 4
def applyW (s : TS) (x : Txn) (yes : Bool) (w : Work) : TS := ⟨if yes = true then takeAll w.Robot w.Take (dropAll w.Robot w.Drop s.held) else s.held, unlockAll w.ks s.locked, mdel x.k s.works⟩
def applyT (s : TS) (x : Txn) (yes : Bool) : TS := if (mget x.k s.works).isSome = true then applyW s x yes ((mget x.k s.works).getD zCW).2 else s
set_option maxHeartbeats 4000000 in
theorem apply_spec {W0 : World} {H : Heap} {p : Nat} {s : TS} {x : Txn} {yes : Bool} (hwn : ((mget x.k s.works).getD zCW).2.ks.length * 16 ≤ cap47) :
    Ct Tryz.prog 29 #[.pointer (some ⟨p, 0, none⟩), .agg x.cv.toArray, .bool yes] W0 H [tabO H p s] (fun r H' B => r = I (applyE s x) ∧ B = [tabO H' p (applyT s x yes)]) := by
  refine Ct.go (vs := [.pointer (some ⟨p, 0, none⟩), .agg x.cv.toArray, .bool yes]) fun R => ?_
  obtain ⟨x1, x2, x3⟩ := x
  refine ex_open (A := tabO H p s) (σ := Nat × Nat × Nat) (B := fun a => [tRow p a.1 a.2.1 a.2.2, hMap H a.1 s, lMap H a.2.1 s, wMap H a.2.2 s]) (p := fun _ => True) (by repeat (first | exact Has.here | apply Has.there)) (fun h ⟨hb, lb, wb, hbig⟩ => ⟨(hb, lb, wb), trivial, hbig⟩) fun ⟨hb, lb, wb⟩ _ => ?_
  dsimp only
  refine ex_know (A := wMap H wb s) (by repeat (first | exact Has.here | apply Has.there)) (fun h ho => mapO_know ho) fun hkw => ?_
  have hrd := wks_read hkw.1 (x1, x2, x3)
  refine walk ?_
  refine ops_box rfl rfl fun p4 _ => ?_
  refine walk ?_
  refine ex_any 11 [wMap H wb s, tRow p hb lb wb, row p4 29 [I x1, I x2, I x3]] ?_
  refine stepY 0 ?_; refine stepY 1 ?_; refine stepY 2 ?_; refine stepY 3 ?_; refine stepY 4 ?_
  refine gny_lkA2 (RV := rCW) (ag := true) (z := zCW) 5 rfl rfl rfl (by repeat (first | exact Has.here | apply Has.there)) ?_
  have hE : applyE s ⟨x1, x2, x3⟩ = if (mget (x1, x2, x3) s.works).isSome = true then 0 else 4 := rfl
  have hT : applyT s ⟨x1, x2, x3⟩ yes = if (mget (x1, x2, x3) s.works).isSome = true then applyW s ⟨x1, x2, x3⟩ yes ((mget (x1, x2, x3) s.works).getD zCW).2 else s := rfl
  change ((mget (x1, x2, x3) s.works).getD zCW).2.ks.length * 16 ≤ cap47 at hwn
  rw [hE, hT]
  clear hE hT
  generalize (mget (x1, x2, x3) s.works).getD zCW = q at hrd hwn ⊢
  obtain ⟨qc, w⟩ := q
  dsimp only at hrd hwn
  obtain ⟨q1, q2, rfl, hrob, hs1, hs2⟩ := hrd
  obtain ⟨b1, c1, rfl, _, _⟩ := hs1.1.shape
  obtain ⟨b2, c2, rfl, _, _⟩ := hs2.1.shape
  dsimp only
  refine stepY 6 ?_
  refine gny_ext 7 rfl rfl rfl rfl ?_
  refine gny_ext 8 rfl rfl rfl rfl ?_
  refine gny_alloc 9 rfl rfl fun p7 _ => ?_
  refine any_sta 10 rfl rfl rfl rfl (by simp) (show _ = w.cv (.slice b1 w.Take.length c1) (.slice b2 w.Drop.length c2) from rfl) ⟨(by (repeat (first | exact Sub.refl _ | exact Sub.nil _ | (apply sub_pick; (repeat (first | exact Has.here | apply Has.there)); skip) | apply Sub.drop))), ?_⟩
  refine any_rest rfl ?_
  rw [show (mget (x1, x2, x3) s.works).isSome = decide ((mget (x1, x2, x3) s.works).isSome = true) by simp]
  refine walk ?_
  refine ex_if rfl (fun hin => ?_) (fun hin => ?_)
  · refine walk ?_
    have hin' : ¬ (mget (x1, x2, x3) s.works).isSome = true := hin
    refine finB [tabO H p s] ?_ (hs := ?_)
    · exact ⟨by simp [hin'], by simp [hin']⟩
    · refine Sub.trans ?_ (tab_fold (hb := hb) (lb := lb) (wb := wb))
      (repeat (first | exact Sub.refl _ | exact Sub.nil _ | (apply sub_pick; (repeat (first | exact Has.here | apply Has.there)); skip) | apply Sub.drop))
  have hin' : (mget (x1, x2, x3) s.works).isSome = true := Classical.byContradiction hin
  refine walk ?_
  refine ex_any 5 [tRow p hb lb wb, row p4 29 [I x1, I x2, I x3]] ?_
  refine stepY 0 ?_; refine stepY 1 ?_; refine stepY 2 ?_; refine stepY 3 ?_; refine stepY 4 ?_
  refine any_rest rfl ?_
  refine ops_delete (ek := ek3) rfl (by repeat (first | exact Has.here | apply Has.there)) ?_
  refine walk ?_
  refine ops_bsN rfl rfl fun pb _ => ?_
  refine ops_frzR .here fun H1 hl1 hr1 => ?_
  have hwn' : (w.Take.length + w.Drop.length) * 16 ≤ cap47 := by simpa [Work.ks] using hwn
  have hsr : SlR (rSl rStr 1 16) 1 H1 (.slice (some ⟨pb, 0, none⟩) 2 2) [w.Take, w.Drop] := slr_of_hrow (R := rSl rStr 1 16) (xs := [w.Take, w.Drop]) hr1 (show RL (rSl rStr 1 16) H1 [.slice b1 w.Take.length c1, .slice b2 w.Drop.length c2] [w.Take, w.Drop] from ⟨[_], [_], rfl, ⟨_, rfl, hs1.mono hl1⟩, ⟨[_], [], rfl, ⟨_, rfl, hs2.mono hl1⟩, rfl⟩⟩) (by simp) (by omega)
  have hcat := concat_spec (W0 := W0) hsr (by simpa [sumLen] using hwn')
  rw [show [w.Take, w.Drop].flatten = w.ks by simp [Work.ks]] at hcat
  refine ops_call rfl rfl hcat fun r1 H2 B hl2 ⟨eB, eH⟩ => ?_
  subst eB eH
  refine ops_freeze r1 fun H3 hl3 hsl => ?_
  obtain ⟨bk, ck, rfl, hck, hdk⟩ := hsl.1.shape
  have hl03 : H.le H3 := hl1.trans (hl2.trans hl3)
  refine walk ?_
  refine ex_loop (σ := Nat) (fun k => k ≤ w.ks.length) (fun k => [(0, .pointer (some ⟨p, 0, none⟩)), (2, .bool yes), (7, .pointer (some ⟨p7, 0, none⟩)), (38, .slice bk w.ks.length ck), (39, I w.ks.length), (40, I k)]) (fun _ => H3)
    (fun k => mapO Value.string rTxn true H lb (unlockAll (w.ks.take k) s.locked) :: row p7 32 (w.cv (.slice b1 w.Take.length c1) (.slice b2 w.Drop.length c2)) :: tRow p hb lb wb :: mapO ek3 rCW true H wb (mdel (x1, x2, x3) s.works) :: hMap H hb s :: R) (fun k => w.ks.length - k) 0 (Nat.zero_le _) fun k hk0 K hL => ?_
  refine walk ?_
  refine ex_if rfl (fun hk => ?_) (fun hk => ?_)
  · have hk1 : k < w.ks.length := by omega
    have ht := List.take_succ_eq_append_getElem hk1
    refine walk ?_
    refine ops_ixp rfl rfl hsl.1 hk1 fun b o c hr hc => ?_
    obtain ⟨rfl, hsz⟩ := hc
    refine walk ?_
    refine ops_delete (ek := Value.string) rfl (by repeat (first | exact Has.here | apply Has.there)) ?_
    refine walk ?_
    have hse : unlockAll (w.ks.take (k + 1)) s.locked = mdel w.ks[k] (unlockAll (w.ks.take k) s.locked) := by rw [ht, unlockAll_snoc]
    rw [← hse]
    exact out_next hL (k + 1) (by omega)
  clear hL
  obtain rfl : k = w.ks.length := by omega
  rw [List.take_length]
  cases yes with
  | false =>
    refine walk ?_
    refine finB [tabO H3 p (applyW s ⟨x1, x2, x3⟩ false w)] ?_ (hs := ?_)
    · exact ⟨by simp [hin'], by simp [hin']⟩
    · refine Sub.trans ?_ (Sub.trans (tab_fold (H := H) (s := applyW s ⟨x1, x2, x3⟩ false w) (hb := hb) (lb := lb) (wb := wb)) (tab_up hl03))
      (repeat (first | exact Sub.refl _ | exact Sub.nil _ | (apply sub_pick; (repeat (first | exact Has.here | apply Has.there)); skip) | apply Sub.drop))
  | true =>
    refine walk ?_
    refine ex_loop (σ := Nat) (fun k => k ≤ w.Drop.length) (fun k => [(0, .pointer (some ⟨p, 0, none⟩)), (7, .pointer (some ⟨p7, 0, none⟩)), (53, .slice b2 w.Drop.length c2), (54, I w.Drop.length), (55, I k)]) (fun _ => H3)
      (fun k => mapO Value.string rInt false H hb (dropAll w.Robot (w.Drop.take k) s.held) :: row p7 32 (w.cv (.slice b1 w.Take.length c1) (.slice b2 w.Drop.length c2)) :: tRow p hb lb wb :: mapO ek3 rCW true H wb (mdel (x1, x2, x3) s.works) :: mapO Value.string rTxn true H lb (unlockAll w.ks s.locked) :: R) (fun k => w.Drop.length - k) 0 (Nat.zero_le _) fun k hk0 K hL => ?_
    refine walk ?_
    refine ex_if rfl (fun hk => ?_) (fun hk => ?_)
    · have hk1 : k < w.Drop.length := by omega
      have ht := List.take_succ_eq_append_getElem hk1
      have hse := dropAll_snoc (r := w.Robot) (ks := w.Drop.take k) (k := w.Drop[k]) (l := s.held)
      rw [← ht] at hse
      refine walk ?_
      refine ops_ixp rfl rfl (hs2.mono hl03).1 hk1 fun b o c hr hc => ?_
      obtain ⟨rfl, hsz⟩ := hc
      refine walk ?_
      refine ops_lkA2 (RV := rInt) (ag := false) (z := 0) rfl rfl (by repeat (first | exact Has.here | apply Has.there)) ?_
      rw [show (mget w.Drop[k] (dropAll w.Robot (w.Drop.take k) s.held)).isSome = decide ((mget w.Drop[k] (dropAll w.Robot (w.Drop.take k) s.held)).isSome = true) by simp]
      refine walkG ?_
      refine ex_if rfl (fun hq => ?_) (fun hq => ?_)
      · rw [if_pos hq] at hse
        refine walk ?_
        refine ops_delete (ek := Value.string) rfl (by repeat (first | exact Has.here | apply Has.there)) ?_
        refine walk ?_
        rw [← hse]
        exact out_next hL (k + 1) (by omega)
      · rw [if_neg hq] at hse
        refine walk ?_
        rw [← hse]
        exact out_next hL (k + 1) (by omega)
    clear hL
    obtain rfl : k = w.Drop.length := by omega
    rw [List.take_length]
    refine walk ?_
    refine ex_loop (σ := Nat) (fun k => k ≤ w.Take.length) (fun k => [(0, .pointer (some ⟨p, 0, none⟩)), (7, .pointer (some ⟨p7, 0, none⟩)), (82, .slice b1 w.Take.length c1), (83, I w.Take.length), (84, I k)]) (fun _ => H3)
      (fun k => mapO Value.string rInt false H hb (takeAll w.Robot (w.Take.take k) (dropAll w.Robot w.Drop s.held)) :: row p7 32 (w.cv (.slice b1 w.Take.length c1) (.slice b2 w.Drop.length c2)) :: tRow p hb lb wb :: mapO ek3 rCW true H wb (mdel (x1, x2, x3) s.works) :: mapO Value.string rTxn true H lb (unlockAll w.ks s.locked) :: R) (fun k => w.Take.length - k) 0 (Nat.zero_le _) fun k hk0 K hL => ?_
    refine walk ?_
    refine ex_if rfl (fun hk => ?_) (fun hk => ?_)
    · have hk1 : k < w.Take.length := by omega
      have ht := List.take_succ_eq_append_getElem hk1
      have hse := takeAll_snoc (r := w.Robot) (ks := w.Take.take k) (k := w.Take[k]) (l := dropAll w.Robot w.Drop s.held)
      rw [← ht] at hse
      refine walk ?_
      refine ops_ixp rfl rfl (hs1.mono hl03).1 hk1 fun b o c hr hc => ?_
      obtain ⟨rfl, hsz⟩ := hc
      refine walk ?_
      refine ex_any 7 [tRow p hb lb wb, row p7 32 (w.cv (.slice b1 w.Take.length c1) (.slice b2 w.Drop.length c2))] ?_
      refine stepY 0 ?_; refine stepY 1 ?_; refine stepY 2 ?_; refine stepY 3 ?_; refine stepY 4 ?_; refine stepY 5 ?_; refine stepY 6 ?_
      refine any_rest rfl ?_
      refine ops_update (RV := rInt) (ag := false) (cs := [I w.Robot]) (u := w.Robot) rfl rfl ⟨rfl, hrob⟩ (by repeat (first | exact Has.here | apply Has.there)) ?_
      refine walk ?_
      rw [← hse]
      exact out_next hL (k + 1) (by omega)
    clear hL
    obtain rfl : k = w.Take.length := by omega
    rw [List.take_length]
    refine walk ?_
    refine finB [tabO H3 p (applyW s ⟨x1, x2, x3⟩ true w)] ?_ (hs := ?_)
    · exact ⟨by simp [hin'], by simp [hin']⟩
    · refine Sub.trans ?_ (Sub.trans (tab_fold (H := H) (s := applyW s ⟨x1, x2, x3⟩ true w) (hb := hb) (lb := lb) (wb := wb)) (tab_up hl03))
      (repeat (first | exact Sub.refl _ | exact Sub.nil _ | (apply sub_pick; (repeat (first | exact Has.here | apply Has.there)); skip) | apply Sub.drop))
end Go.Proofs.YtjgjcakeimkkdaaGreatDoor

set_option linter.unusedVariables false
set_option linter.unusedSimpArgs false
namespace Go.Proofs.YtjgjcakeimkkdaaGreatDoor
open Go Go.Sx Go.Proofs
theorem has_spec {W0 : World} {H : Heap} {v : Value} {l : List ByteArray} {k : ByteArray} (h0 : SlR rStr 1 H v l) :
    Ct Tryz.prog 97 #[v, .string k] W0 H [] (fun r H' B => ∃ q : Bool, r = .bool q ∧ (q = true ↔ k ∈ l) ∧ B = [] ∧ H' = H) := by
  refine Ct.go (vs := [v, .string k]) fun R => ?_
  obtain ⟨b0, c0, rfl, hc0, hd0⟩ := h0.shape
  refine walk ?_
  refine ex_loop (σ := Nat) (fun j => j ≤ l.length ∧ k ∉ l.take j) (fun j => [(0, .slice b0 l.length c0), (1, .string k), (5, I j)]) (fun _ => H) (fun _ => R) (fun j => l.length - j) 0 ⟨Nat.zero_le _, by simp⟩ fun j ⟨hj0, hj⟩ K hL => ?_
  refine walk ?_
  refine ex_if rfl (fun hk => ?_) (fun hk => ?_)
  · have hk1 : j < l.length := by omega
    have ht := List.take_succ_eq_append_getElem hk1
    refine walk ?_
    refine ex_if rfl (fun hq => ?_) (fun hq => ?_)
    · refine walk ?_
      refine fin0 ?_
      exact ⟨true, rfl, Iff.intro (fun _ => by rw [← hq]; exact List.getElem_mem hk1) (fun _ => rfl), rfl, rfl⟩
    · refine walk ?_
      refine out_next hL (j + 1) ⟨by omega, ?_⟩
      rw [ht, List.mem_append, List.mem_singleton]
      rintro (h | h)
      · exact hj h
      · exact hq h.symm
  · clear hL
    obtain rfl : j = l.length := by omega
    rw [List.take_length] at hj
    refine walk ?_
    refine fin0 ?_
    exact ⟨false, rfl, Iff.intro (fun (h : false = true) => Bool.noConfusion h) (fun h => (hj h).elim), rfl, rfl⟩
set_option maxRecDepth 20000 in
theorem keys_spec {W0 : World} {H : Heap} {cw : List Value} {w : Work} (hw : rWork H cw w) (hwn : w.ks.length * 16 ≤ cap47) :
    Ct Tryz.prog 75 #[.agg cw.toArray] W0 H [] (fun r H' B => B = [ownS rStr 1 16 9 H r w.ks] ∧ H' = H) := by
  refine Ct.go (vs := [.agg cw.toArray]) fun R => ?_
  obtain ⟨s1, s2, rfl, hrob, hs1, hs2⟩ := hw
  obtain ⟨b1, c1, rfl, hc1, hd1⟩ := hs1.1.shape
  obtain ⟨b2, c2, rfl, hc2, hd2⟩ := hs2.1.shape
  refine walk ?_
  refine ops_box rfl rfl fun p1 _ => ?_
  refine walk ?_
  refine ex_any 6 [row p1 32 (w.cv (.slice b1 w.Take.length c1) (.slice b2 w.Drop.length c2))] ?_
  refine stepY 1 ?_; refine stepY 2 ?_
  refine stepY 4 ?_; refine stepY 5 ?_
  have hwn' : (w.Take.length + w.Drop.length) * 16 ≤ cap47 := by simpa [Work.ks] using hwn
  refine any_w 0 rfl (op_mk0S (sz := 1) (T := 9) (wd := 16) rStr fun ba => ?_)
  refine ⟨Heap.le.refl _, (by (repeat (first | exact Sub.refl _ | exact Sub.nil _ | (apply sub_pick; (repeat (first | exact Has.here | apply Has.there)); skip) | apply Sub.drop))), ?_⟩
  refine any_w 3 rfl (op_appSS rfl hs1.1 (by simpa using hs1.2) fun d1 e1 => ?_)
  refine ⟨Heap.le.refl _, (by (repeat (first | exact Sub.refl _ | exact Sub.nil _ | (apply sub_pick; (repeat (first | exact Has.here | apply Has.there)); skip) | apply Sub.drop))), ?_⟩
  rw [List.nil_append, show ([] : List ByteArray).length + w.Take.length = w.Take.length by simp]
  refine any_rest rfl ?_
  refine ops_appS rfl rfl hs2.1 hwn' fun d2 e2 => ?_
  refine walk ?_
  refine finB [ownS rStr 1 16 9 H (.slice d2 (w.Take.length + w.Drop.length) e2) w.ks] ?_
  exact ⟨rfl, rfl⟩
end Go.Proofs.YtjgjcakeimkkdaaGreatDoor

set_option linter.unusedVariables false
set_option linter.unusedSimpArgs false
namespace Go.Proofs.YtjgjcakeimkkdaaGreatDoor
open Go Go.Sx Go.Proofs
set_option maxRecDepth 20000 in
theorem twice_spec {W0 : World} {H : Heap} {cw : List Value} {w : Work} (hw : rWork H cw w) (hwn : w.ks.length * 16 ≤ cap47) :
    Ct Tryz.prog 74 #[.agg cw.toArray] W0 H [] (fun r H' B => ∃ q : Bool, r = .bool q ∧ (q = false ↔ w.ks.Nodup) ∧ B = []) := by
  refine Ct.go (vs := [.agg cw.toArray]) fun R => ?_
  have hw0 := hw
  obtain ⟨s1, s2, rfl, hrob, hs1, hs2⟩ := hw
  obtain ⟨b1, c1, rfl, hc1, hd1⟩ := hs1.1.shape
  obtain ⟨b2, c2, rfl, hc2, hd2⟩ := hs2.1.shape
  refine walk ?_
  refine ops_box rfl rfl fun p1 _ => ?_
  refine walk ?_
  refine ops_call rfl rfl (keys_spec hw0 hwn) fun r1 H1 B hl1 ⟨eB, eH⟩ => ?_
  subst eB eH
  refine ops_freeze r1 fun H2 hl2 hsl => ?_
  generalize w.ks = l at *
  obtain ⟨b0, c0, rfl, hc0, hd0⟩ := hsl.1.shape
  refine walk ?_
  refine ex_loop (σ := Nat) (fun j => j ≤ l.length ∧ (l.take j).Nodup) (fun j => [(3, .slice b0 l.length c0), (4, I j)]) (fun _ => H2) (fun _ => R) (fun j => l.length - j) 0 ⟨Nat.zero_le _, by simp⟩ fun j ⟨hj0, hj⟩ K hL => ?_
  refine walk ?_
  refine ex_if rfl (fun hk => ?_) (fun hk => ?_)
  · have hk1 : j < l.length := by omega
    have ht := List.take_succ_eq_append_getElem hk1
    refine walk ?_
    refine ex_any 7 [] ?_
    refine stepY 0 ?_; refine stepY 1 ?_; refine stepY 2 ?_
    refine stepY 3 ?_; refine stepY 4 ?_
    refine gny_ixp 5 rfl rfl rfl hsl.1 hk1 fun b o c hr hc => ?_
    obtain ⟨rfl, hsz⟩ := hc
    refine gny_ldHo 6 0 rfl rfl hr rfl rfl ?_
    refine any_rest rfl ?_
    refine ops_call rfl rfl (has_spec (W0 := W0) (H := H2) (v := .slice b0 j c0) (l := l.take j) (k := l[j]) ?_) fun r3 H3 B hl3 ⟨q, er, hq, eB, eH⟩ => ?_
    · have h := hsl.1.slc (l := 0) (h := j) (Nat.zero_le _) hj0
      have e0 : Sx.slc b0 c0 0 j 1 = .slice b0 j c0 := by unfold Sx.slc; cases b0 <;> simp [Addr.add]
      rw [e0] at h
      simpa using h
    subst er eB eH
    refine walk ?_
    refine ex_ifb rfl Iff.rfl (fun hq1 => ?_) (fun hq1 => ?_)
    · refine walk ?_
      refine fin0 ?_
      refine ⟨true, rfl, Iff.intro (fun h => Bool.noConfusion h) (fun hn => ?_), rfl⟩
      have h1 : (l.take (j + 1)).Nodup := hn.sublist (List.take_sublist _ _)
      rw [ht, List.nodup_append] at h1
      exact (h1.2.2 _ (hq.1 hq1) _ (List.mem_singleton.2 rfl) rfl).elim
    · refine walk ?_
      refine out_next hL (j + 1) ⟨by omega, ?_⟩
      rw [ht, List.nodup_append]
      refine ⟨hj, by simp, ?_⟩
      rintro a ha b hb rfl
      rw [List.mem_singleton] at hb
      subst hb
      exact hq1 (hq.2 ha)
  · clear hL
    obtain rfl : j = l.length := by omega
    rw [List.take_length] at hj
    refine walk ?_
    refine fin0 ?_
    exact ⟨false, rfl, Iff.intro (fun _ => hj) (fun _ => rfl), rfl⟩
end Go.Proofs.YtjgjcakeimkkdaaGreatDoor

set_option linter.unusedVariables false
set_option linter.unusedSimpArgs false
namespace Go.Proofs.YtjgjcakeimkkdaaGreatDoor
open Go Go.Sx Go.Proofs
def clipW (w : Work) : Work := ⟨w.Robot, w.Take.take 40, w.Drop.take 40⟩
theorem slr_take {H : Heap} {b0 : Option Addr} {c0 n j : Nat} {l : List ByteArray} (h : SlR rStr 1 H (.slice b0 n c0) l) (hj : j ≤ l.length) : SlR rStr 1 H (.slice b0 j c0) (l.take j) := by
  have h := h.slc (l := 0) (h := j) (Nat.zero_le _) hj
  have e0 : Sx.slc b0 c0 0 j 1 = .slice b0 j c0 := by unfold Sx.slc; cases b0 <;> simp [Addr.add]
  rw [e0] at h
  simpa using h
end Go.Proofs.YtjgjcakeimkkdaaGreatDoor

set_option linter.unusedVariables false
set_option linter.unusedSimpArgs false
namespace Go.Proofs.YtjgjcakeimkkdaaGreatDoor
open Go Go.Sx Go.Proofs
theorem less_spec {W0 : World} {H : Heap} {x y : K3} :
    Ct Tryz.prog 78 #[.agg #[I x.1, I x.2.1, I x.2.2], .agg #[I y.1, I y.2.1, I y.2.2]] W0 H [] (fun r H' B => r = .bool (decide (ltK x y)) ∧ B = [] ∧ H' = H) := by
  refine Ct.go (vs := [.agg #[I x.1, I x.2.1, I x.2.2], .agg #[I y.1, I y.2.1, I y.2.2]]) fun R => ?_
  obtain ⟨x1, x2, x3⟩ := x
  obtain ⟨y1, y2, y3⟩ := y
  dsimp only
  refine walk ?_
  refine ops_box rfl rfl fun p1 _ => ?_
  refine ops_box rfl rfl fun p2 _ => ?_
  refine walk ?_
  refine ex_if rfl (fun h1 => ?_) (fun h1 => ?_)
  · refine walk ?_
    refine fin0 ?_
    exact ⟨bdec (by unfold ltK; simp only; omega), rfl, rfl⟩
  refine walk ?_
  refine ex_if rfl (fun h2 => ?_) (fun h2 => ?_)
  · refine walk ?_
    refine fin0 ?_
    exact ⟨bdec (by unfold ltK; simp only; omega), rfl, rfl⟩
  refine walk ?_
  refine fin0 ?_
  exact ⟨bdec (by unfold ltK; simp only; omega), rfl, rfl⟩
end Go.Proofs.YtjgjcakeimkkdaaGreatDoor

set_option linter.unusedVariables false
set_option linter.unusedSimpArgs false
namespace Go.Proofs.YtjgjcakeimkkdaaGreatDoor
open Go Go.Sx Go.Proofs
def findH (l : List Hold) (k : ByteArray) : Option Hold := l.find? fun h => decide (h.Key = k)
def rHolderV (l : List Hold) (k : ByteArray) : Value := .tuple [I (match findH l k with | some h => h.Robot | none => 0), .bool (findH l k).isSome].toArray
theorem rHolder_spec {W0 : World} {H : Heap} {c : List Value} {m : Table} {k : ByteArray} (h0 : rTable H c m) :
    Ct Tryz.prog 76 #[.agg c.toArray, .string k] W0 H [] (fun r H' B => r = rHolderV m.Held k ∧ B = [] ∧ H' = H) := by
  refine Ct.go (vs := [.agg c.toArray, .string k]) fun R => ?_
  obtain ⟨s1, s2, rfl, hs1, hs2⟩ := h0
  obtain ⟨b1, c1, rfl, hc1, hd1⟩ := hs1.1.shape
  obtain ⟨b2, c2, rfl, hc2, hd2⟩ := hs2.1.shape
  obtain ⟨l, pr⟩ := m
  dsimp only at *
  refine walk ?_
  refine ops_box rfl rfl fun p2 _ => ?_
  refine walk ?_
  refine ex_loop (σ := Nat) (fun j => j ≤ l.length ∧ findH (l.take j) k = none) (fun j => [(1, .string k), (2, .pointer (some ⟨p2, 0, none⟩)), (6, I j)]) (fun _ => H) (fun _ => row p2 69 [.slice b1 l.length c1, .slice b2 pr.length c2] :: R) (fun j => l.length - j) 0 ⟨Nat.zero_le _, rfl⟩ fun j ⟨hj0, hj⟩ K hL => ?_
  refine walk ?_
  refine ex_if rfl (fun hk => ?_) (fun hk => ?_)
  · have hk1 : j < l.length := by omega
    have ht := List.take_succ_eq_append_getElem hk1
    refine walk ?_
    refine ops_ixp rfl rfl hs1.1 hk1 fun b o cc hr hc => ?_
    obtain ⟨rfl, hsz, hfr⟩ := hc
    refine walk ?_
    refine ex_if rfl (fun hq => ?_) (fun hq => ?_)
    · refine walk ?_
      refine ops_ixp rfl rfl hs1.1 hk1 fun b' o' cc' hr' hc' => ?_
      obtain ⟨rfl, _, _⟩ := hc'
      refine walk ?_
      refine fin0 ?_
      have e : findH l k = some l[j] := by
        have h1 : findH (l.take (j + 1)) k = some l[j] := by
          unfold findH at hj ⊢
          rw [ht, List.find?_append, hj]
          simp [hq]
        unfold findH at h1 ⊢
        have h2 : ∀ (u v : List Hold) (r : Hold), u.find? (fun h => decide (h.Key = k)) = some r → (u ++ v).find? (fun h => decide (h.Key = k)) = some r := fun u v r h => by rw [List.find?_append, h]; rfl
        have h3 := h2 _ (l.drop (j + 1)) _ h1
        simpa only [List.take_append_drop] using h3
      exact ⟨by unfold rHolderV; rw [e]; rfl, rfl, rfl⟩
    · refine walk ?_
      refine out_next hL (j + 1) ⟨by omega, ?_⟩
      unfold findH at hj ⊢
      rw [ht, List.find?_append, hj]
      simp [hq]
  · clear hL
    obtain rfl : j = l.length := by omega
    rw [List.take_length] at hj
    refine walk ?_
    refine fin0 ?_
    exact ⟨by unfold rHolderV; rw [hj]; rfl, rfl, rfl⟩
end Go.Proofs.YtjgjcakeimkkdaaGreatDoor

set_option linter.unusedVariables false
set_option linter.unusedSimpArgs false
namespace Go.Proofs.YtjgjcakeimkkdaaGreatDoor
open Go Go.Sx Go.Proofs
instance : LawfulBEq ByteArray where
  eq_of_beq h := by rw [ba_beq] at h; simpa using h
  rfl := fun {a} => by rw [ba_beq]; simp
/-- two lists in order that hold the same are the same -/
theorem rise_eq {α : Type} {lt : α → α → Prop} (irr : ∀ a, ¬ lt a a) (asy : ∀ a b, lt a b → ¬ lt b a) : ∀ {l l' : List α}, l.Pairwise lt → l'.Pairwise lt → (∀ a, a ∈ l ↔ a ∈ l') → l = l'
  | [], [], _, _, _ => rfl
  | [], b :: l', _, _, h => absurd ((h b).2 (by simp)) (by simp)
  | a :: l, [], _, _, h => absurd ((h a).1 (by simp)) (by simp)
  | a :: l, b :: l', h1, h2, h => by
    rw [List.pairwise_cons] at h1 h2
    have hab : a = b := by
      rcases List.mem_cons.1 ((h a).1 (by simp)) with e | e
      · exact e
      · rcases List.mem_cons.1 ((h b).2 (by simp)) with e' | e'
        · exact e'.symm
        · exact absurd (h1.1 b e') (asy _ _ (h2.1 a e))
    subst hab
    refine congrArg _ (rise_eq irr asy h1.2 h2.2 fun x => ?_)
    have hx := h x
    simp only [List.mem_cons] at hx
    constructor
    · intro hm
      rcases hx.1 (.inr hm) with e | e
      · subst e; exact absurd (h1.1 x hm) (irr x)
      · exact e
    · intro hm
      rcases hx.2 (.inr hm) with e | e
      · subst e; exact absurd (h2.1 x hm) (irr x)
      · exact e
/-- a list of held keys tells who holds -/
structure HSpec (l : List Hold) (f : ByteArray → Option Int) : Prop where
  rise : l.Pairwise fun a b => SLt a.Key b.Key
  mem : ∀ h, h ∈ l ↔ f h.Key = some h.Robot
theorem HSpec.uniq {l l' : List Hold} {f : ByteArray → Option Int} (h : HSpec l f) (h' : HSpec l' f) : l = l' :=
  rise_eq (lt := fun a b : Hold => SLt a.Key b.Key) (fun _ => slt_irr) (fun _ _ => slt_asymm) h.rise h'.rise fun a => by rw [h.mem, h'.mem]
theorem HSpec.congr {l : List Hold} {f g : ByteArray → Option Int} (h : HSpec l f) (e : ∀ k, f k = g k) : HSpec l g := by
  obtain rfl : f = g := funext e
  exact h
theorem HSpec.find {l : List Hold} {f : ByteArray → Option Int} (h : HSpec l f) (k : ByteArray) : findH l k = (f k).map (Hold.mk k) := by
  cases hf : f k with
  | none =>
    unfold findH
    simp only [List.find?_eq_none, Option.map_none, decide_eq_true_eq]
    rintro x hx rfl
    rw [h.mem, hf] at hx
    cases hx
  | some r =>
    have hm : (⟨k, r⟩ : Hold) ∈ l := (h.mem _).2 hf
    cases hq : findH l k with
    | none =>
      unfold findH at hq
      rw [List.find?_eq_none] at hq
      exact absurd (hq _ hm) (by simp)
    | some q =>
      have h1 := List.find?_some hq
      have h2 := List.mem_of_find?_eq_some hq
      simp only [decide_eq_true_eq] at h1
      rw [h.mem, h1, hf] at h2
      obtain ⟨qk, qr⟩ := q
      simp only at h1 h2
      cases h2
      subst h1
      rfl
theorem pair_map {α β : Type} {f : α → β} {R : β → β → Prop} {l : List α} (h : (l.map f).Pairwise R) : l.Pairwise fun a b => R (f a) (f b) := List.pairwise_map.1 h
theorem sortT_rise {xs : List ByteArray} (h : xs.Nodup) : (sortT xs).Pairwise SLt := by
  have tr : ∀ a b c : List UInt8, leB a b = true → leB b c = true → leB a c = true := fun a b c h1 h2 => by
    simp only [leB, decide_eq_true_eq] at *
    exact List.le_trans h1 h2
  have to : ∀ a b : List UInt8, (leB a b || leB b a) = true := fun a b => by
    simp only [leB, Bool.or_eq_true, decide_eq_true_eq]
    exact List.le_total a b
  have h1 := List.pairwise_mergeSort tr to (xs.map fun s => s.data.toList)
  have h2 : ((xs.map fun s => s.data.toList).mergeSort leB).Nodup := by
    refine (List.mergeSort_perm _ _).nodup_iff.2 ?_
    rw [List.nodup_iff_pairwise_ne, List.pairwise_map]
    exact (List.nodup_iff_pairwise_ne.1 h).imp fun h e => h (text_ext e)
  unfold sortT
  rw [List.pairwise_map]
  rw [List.nodup_iff_pairwise_ne] at h2
  refine (h1.and h2).imp fun {a b} ⟨e1, e2⟩ => ?_
  rw [slt_iff]
  simp only [leB, decide_eq_true_eq] at e1
  have e3 : (sb a).data.toList = a := by simp [sb]
  have e4 : (sb b).data.toList = b := by simp [sb]
  rw [e3, e4]
  by_cases h : a < b
  · exact h
  · exact absurd (List.le_antisymm e1 (List.not_lt.1 h)) e2
theorem mget_iff {κ ν : Type} [DecidableEq κ] {m : List (κ × ν)} (hn : (m.map (·.1)).Nodup) {k : κ} {v : ν} : mget k m = some v ↔ (k, v) ∈ m := ⟨mget_mem, mget_of_mem hn⟩
theorem mget_key {κ ν : Type} [DecidableEq κ] {m : List (κ × ν)} {k : κ} : k ∈ m.map (·.1) ↔ ∃ v, mget k m = some v := by
  have h := mget_none (k := k) (m := m)
  cases hm : mget k m with
  | none => exact ⟨fun h' => absurd h' (h.1 hm), fun ⟨v, e⟩ => (by cases e)⟩
  | some v => exact ⟨fun _ => ⟨v, rfl⟩, fun _ => Classical.byContradiction fun hc => by rw [h.2 hc] at hm; cases hm⟩
theorem holdsL_spec {s : TS} (hn : (s.held.map (·.1)).Nodup) : HSpec (holdsL s) (fun k => mget k s.held) := by
  refine ⟨?_, fun h => ?_⟩
  · unfold holdsL
    rw [List.pairwise_map]
    exact (sortT_rise hn).imp fun h => h
  · unfold holdsL
    rw [List.mem_map]
    constructor
    · rintro ⟨k, hk, rfl⟩
      obtain ⟨v, hv⟩ := mget_key.1 (mem_sortT.1 hk)
      simp only [holdOf, hv, Option.getD_some]
    · intro hg
      refine ⟨h.Key, mem_sortT.2 (mget_key.2 ⟨_, hg⟩), ?_⟩
      simp only [holdOf, hg, Option.getD_some]
/-- a list of records tells what is prepared -/
def recW (x : Txn) (w : Work) : Rec := ⟨2, x, w, false, []⟩
structure PSpec (l : List Rec) (g : K3 → Option Work) : Prop where
  rise : l.Pairwise fun a b => ltK a.Txn.k b.Txn.k
  mem : ∀ q, q ∈ l ↔ ∃ w, g q.Txn.k = some w ∧ q = recW q.Txn w
theorem ltK_irr {a : K3} : ¬ ltK a a := by unfold ltK; omega
theorem ltK_asy {a b : K3} (h : ltK a b) : ¬ ltK b a := by unfold ltK at *; omega
theorem ltK_trans {a b c : K3} (h : ltK a b) (h' : ltK b c) : ltK a c := by unfold ltK at *; omega
theorem k_inj {x y : Txn} (h : x.k = y.k) : x = y := by
  have := congrArg toTx h
  rwa [toTx_k, toTx_k] at this
theorem PSpec.uniq {l l' : List Rec} {g : K3 → Option Work} (h : PSpec l g) (h' : PSpec l' g) : l = l' :=
  rise_eq (lt := fun a b : Rec => ltK a.Txn.k b.Txn.k) (fun _ => ltK_irr) (fun _ _ => ltK_asy) h.rise h'.rise fun a => by rw [h.mem, h'.mem]
theorem PSpec.congr {l : List Rec} {f g : K3 → Option Work} (h : PSpec l f) (e : ∀ k, f k = g k) : PSpec l g := by
  obtain rfl : f = g := funext e
  exact h
theorem sort3_rise {xs : List K3} (h : xs.Nodup) : (sort3 xs).Pairwise ltK := by
  have tr : ∀ a b c : K3, (!(ltOf ordI) b a) = true → (!(ltOf ordI) c b) = true → (!(ltOf ordI) c a) = true := fun a b c h1 h2 => by
    simp only [Bool.not_eq_true', ← Bool.not_eq_true, ltOf_iff] at *
    unfold ltK at *
    omega
  have to : ∀ a b : K3, ((!(ltOf ordI) b a) || (!(ltOf ordI) a b)) = true := fun a b => by
    simp only [Bool.or_eq_true, Bool.not_eq_true', ← Bool.not_eq_true, ltOf_iff]
    unfold ltK
    omega
  have h1 := List.pairwise_mergeSort tr to xs
  have h2 : (xs.mergeSort fun x y => !(ltOf ordI) y x).Nodup := (List.mergeSort_perm _ _).nodup_iff.2 h
  rw [List.nodup_iff_pairwise_ne] at h2
  unfold sort3
  refine (h1.and h2).imp fun {a b} ⟨e1, e2⟩ => ?_
  simp only [Bool.not_eq_true', ← Bool.not_eq_true, ltOf_iff] at e1
  refine Classical.byContradiction fun h3 => e2 (ltK_tot h3 e1)
def gW (s : TS) (k : K3) : Option Work := (mget k s.works).map (·.2)
theorem prepL_spec {s : TS} (hn : (s.works.map (·.1)).Nodup) : PSpec (prepL s) (gW s) := by
  refine ⟨?_, fun q => ?_⟩
  · unfold prepL
    rw [List.pairwise_map]
    exact (sort3_rise hn).imp fun h => h
  · unfold prepL gW
    rw [List.mem_map]
    constructor
    · rintro ⟨k, hk, rfl⟩
      obtain ⟨v, hv⟩ := mget_key.1 (mem_sort3.1 hk)
      refine ⟨v.2, ?_, ?_⟩
      · show (mget (toTx k).k s.works).map _ = _
        rw [k_toTx, hv]; rfl
      · simp only [recOf, recW, hv, Option.getD_some]
    · rintro ⟨w, hg, hq⟩
      cases hm : mget q.Txn.k s.works with
      | none => rw [hm] at hg; cases hg
      | some v =>
        rw [hm] at hg
        cases hg
        refine ⟨q.Txn.k, mem_sort3.2 (mget_key.2 ⟨_, hm⟩), ?_⟩
        rw [hq]
        simp only [recOf, recW, hm, Option.getD_some, toTx_k]
end Go.Proofs.YtjgjcakeimkkdaaGreatDoor

set_option linter.unusedVariables false
set_option linter.unusedSimpArgs false
namespace Go.Proofs.YtjgjcakeimkkdaaGreatDoor
open Go Go.Sx Go.Proofs
/-- the held keys behind one more, or one less (put) -/
def holdL (k : ByteArray) (r : Int) : Bool → List Hold → List Hold
  | put, [] => if put = true then [] else [⟨k, r⟩]
  | put, h :: t => (if put = false ∧ SLt k h.Key then [⟨k, r⟩] else []) ++ ((if h.Key = k then [] else [h]) ++ holdL k r (put || decide (SLt k h.Key)) t)
theorem holdL_mem {k : ByteArray} {r : Int} {h : Hold} : ∀ {l : List Hold} {put : Bool}, h ∈ holdL k r put l ↔ (h ∈ l ∧ h.Key ≠ k) ∨ (put = false ∧ h = ⟨k, r⟩)
  | [], put => by cases put <;> simp [holdL]
  | a :: t, put => by
    have ih := holdL_mem (k := k) (r := r) (h := h) (l := t) (put := put || decide (SLt k a.Key))
    have e1 : h ∈ (if a.Key = k then ([] : List Hold) else [a]) ↔ h = a ∧ a.Key ≠ k := by by_cases hk : a.Key = k <;> simp [hk]
    simp only [holdL, List.mem_append, ih, e1, List.mem_cons]
    cases put with
    | true =>
      simp only [Bool.true_or, Bool.true_eq_false, false_and, if_false, List.not_mem_nil, false_or, or_false]
      constructor
      · rintro (⟨rfl, h2⟩ | ⟨h1, h2⟩)
        · exact ⟨.inl rfl, h2⟩
        · exact ⟨.inr h1, h2⟩
      · rintro ⟨rfl | h1, h2⟩
        · exact .inl ⟨rfl, h2⟩
        · exact .inr ⟨h1, h2⟩
    | false =>
      by_cases hs : SLt k a.Key
      · simp only [hs, decide_true, Bool.false_or, true_and, and_true, if_true, List.mem_singleton, Bool.true_eq_false, false_and, or_false]
        constructor
        · rintro (h | ⟨rfl, h2⟩ | ⟨h1, h2⟩)
          · exact .inr h
          · exact .inl ⟨.inl rfl, h2⟩
          · exact .inl ⟨.inr h1, h2⟩
        · rintro (⟨rfl | h1, h2⟩ | h)
          · exact .inr (.inl ⟨rfl, h2⟩)
          · exact .inr (.inr ⟨h1, h2⟩)
          · exact .inl h
      · simp only [hs, decide_false, Bool.false_or, and_false, if_false, List.not_mem_nil, false_or, true_and]
        constructor
        · rintro (⟨rfl, h2⟩ | ⟨h1, h2⟩ | h)
          · exact .inl ⟨.inl rfl, h2⟩
          · exact .inl ⟨.inr h1, h2⟩
          · exact .inr h
        · rintro (⟨rfl | h1, h2⟩ | h)
          · exact .inl ⟨rfl, h2⟩
          · exact .inr (.inl ⟨h1, h2⟩)
          · exact .inr (.inr h)
theorem holdL_rise {k : ByteArray} {r : Int} : ∀ {l : List Hold} {put : Bool}, l.Pairwise (fun a b => SLt a.Key b.Key) → (holdL k r put l).Pairwise (fun a b => SLt a.Key b.Key)
  | [], put, _ => by cases put <;> simp [holdL]
  | a :: t, put, h => by
    rw [List.pairwise_cons] at h
    have ih := fun p => holdL_rise (k := k) (r := r) (l := t) (put := p) h.2
    have hm := fun p x => holdL_mem (k := k) (r := r) (h := x) (l := t) (put := p)
    have hin : ∀ p, (p = false → ¬ SLt k a.Key) → ((if a.Key = k then ([] : List Hold) else [a]) ++ holdL k r p t).Pairwise (fun a b => SLt a.Key b.Key) := fun p hp => by
      by_cases hk : a.Key = k
      · rw [if_pos hk]; exact ih p
      · rw [if_neg hk, List.singleton_append, List.pairwise_cons]
        refine ⟨fun x hx => ?_, ih p⟩
        rcases (hm p x).1 hx with ⟨h1, _⟩ | ⟨h1, rfl⟩
        · exact h.1 x h1
        · rcases slt_tri (s := a.Key) (t := k) with h2 | h2 | h2
          · exact h2
          · exact absurd h2 hk
          · exact absurd h2 (hp h1)
    simp only [holdL]
    by_cases hc : put = false ∧ SLt k a.Key
    · rw [if_pos hc, List.singleton_append, List.pairwise_cons]
      refine ⟨fun x hx => ?_, hin _ (by simp [hc.2])⟩
      rw [List.mem_append] at hx
      rcases hx with hx | hx
      · by_cases hk : a.Key = k
        · rw [if_pos hk] at hx; cases hx
        · rw [if_neg hk, List.mem_singleton] at hx; subst hx; exact hc.2
      · rcases (hm _ x).1 hx with ⟨h1, _⟩ | ⟨h1, rfl⟩
        · exact slt_trans hc.2 (h.1 x h1)
        · simp [hc.2] at h1
    · rw [if_neg hc, List.nil_append]
      refine hin _ fun hp hs => ?_
      simp only [Bool.or_eq_false_iff] at hp
      exact hc ⟨hp.1, hs⟩
theorem HSpec.hold {l : List Hold} {f : ByteArray → Option Int} (h : HSpec l f) (k : ByteArray) (r : Int) (put : Bool) : HSpec (holdL k r put l) (fun k' => if k' = k then (if put = true then none else some r) else f k') := by
  refine ⟨holdL_rise h.rise, fun x => ?_⟩
  rw [holdL_mem, h.mem]
  obtain ⟨xk, xr⟩ := x
  by_cases e : xk = k
  · subst e
    cases put <;> simp [eq_comm]
  · simp [e]
theorem HSpec.filter {l : List Hold} {f : ByteArray → Option Int} (h : HSpec l f) (p : ByteArray → Bool) : HSpec (l.filter fun x => p x.Key) (fun k => if p k = true then f k else none) := by
  refine ⟨h.rise.sublist List.filter_sublist, fun x => ?_⟩
  rw [List.mem_filter, h.mem]
  by_cases e : p x.Key = true <;> simp [e]
/-- the robot's keys given back -/
def dropR (r : Int) (ks : List ByteArray) (l : List Hold) : List Hold := ks.foldl (fun l k => if (findH l k).isSome = true ∧ (match findH l k with | some h => h.Robot | none => 0) = r then holdL k 0 true l else l) l
def takeR (r : Int) (ks : List ByteArray) (l : List Hold) : List Hold := ks.foldl (fun l k => holdL k r false l) l
theorem mdel_nodup {κ ν : Type} [DecidableEq κ] {m : List (κ × ν)} {k : κ} (h : (m.map (·.1)).Nodup) : ((mdel k m).map (·.1)).Nodup := h.sublist ((mdel_sub k m).map _)
theorem dropR_spec {r : Int} : ∀ {ks : List ByteArray} {l : List Hold} {a : List (ByteArray × Int)}, HSpec l (fun k => mget k a) → (a.map (·.1)).Nodup → HSpec (dropR r ks l) (fun k => mget k (dropAll r ks a)) ∧ ((dropAll r ks a).map (·.1)).Nodup
  | [], l, a, h, hn => ⟨h, hn⟩
  | k :: ks, l, a, h, hn => by
    have hf := h.find k
    unfold dropR dropAll
    rw [List.foldl_cons, List.foldl_cons]
    have hc : ((findH l k).isSome = true ∧ (match findH l k with | some h => h.Robot | none => 0) = r) ↔ ((mget k a).isSome = true ∧ (mget k a).getD 0 = r) := by
      rw [hf]
      cases mget k a with
      | none => simp
      | some v => simp
    by_cases hq : (mget k a).isSome = true ∧ (mget k a).getD 0 = r
    · rw [if_pos hq, if_pos (hc.2 hq)]
      exact dropR_spec ((h.hold k 0 true).congr fun k' => by rw [mget_mdel k k' hn]; by_cases e : k' = k <;> simp [e]) (mdel_nodup hn)
    · rw [if_neg hq, if_neg fun h => hq (hc.1 h)]
      exact dropR_spec h hn
theorem takeR_spec {r : Int} : ∀ {ks : List ByteArray} {l : List Hold} {a : List (ByteArray × Int)}, HSpec l (fun k => mget k a) → (a.map (·.1)).Nodup → HSpec (takeR r ks l) (fun k => mget k (takeAll r ks a)) ∧ ((takeAll r ks a).map (·.1)).Nodup
  | [], l, a, h, hn => ⟨h, hn⟩
  | k :: ks, l, a, h, hn => by
    unfold takeR takeAll
    rw [List.foldl_cons, List.foldl_cons]
    exact takeR_spec ((h.hold k r false).congr fun k' => by rw [mget_mset k k']; by_cases e : k' = k <;> simp [e]) (mset_nodup hn)
theorem PSpec.get {l : List Rec} {g : K3 → Option Work} (h : PSpec l g) {i : Nat} (hi : i < l.length) : g l[i].Txn.k = some l[i].Work ∧ l[i] = recW l[i].Txn l[i].Work := by
  obtain ⟨w, h1, h2⟩ := (h.mem l[i]).1 (List.getElem_mem hi)
  have : w = l[i].Work := by rw [h2]; rfl
  subst this
  exact ⟨h1, h2⟩
theorem PSpec.none {l : List Rec} {g : K3 → Option Work} (h : PSpec l g) {x : Txn} (hx : ∀ q ∈ l, q.Txn ≠ x) : g x.k = none := by
  cases hg : g x.k with
  | none => rfl
  | some w => exact absurd rfl (hx (recW x w) ((h.mem _).2 ⟨w, hg, rfl⟩))
theorem PSpec.ins {l : List Rec} {g : K3 → Option Work} (h : PSpec l g) {x : Txn} {w : Work} {i : Nat} (hx : g x.k = Option.none) (hi : i ≤ l.length) (h1 : ∀ q ∈ l.take i, ltK q.Txn.k x.k) (h2 : ∀ hl : i < l.length, ¬ ltK l[i].Txn.k x.k) :
    PSpec (l.take i ++ recW x w :: l.drop i) (fun k => if k = x.k then some w else g k) := by
  have hr := h.rise
  rw [← List.take_append_drop i l, List.pairwise_append] at hr
  obtain ⟨r1, r2, r3⟩ := hr
  have hgt : ∀ q ∈ l.drop i, ltK x.k q.Txn.k := fun q hq => by
    have hne : ∀ q ∈ l, q.Txn.k ≠ x.k := fun q hq e => by
      obtain ⟨w', h3, _⟩ := (h.mem q).1 hq
      rw [e, hx] at h3; cases h3
    have hil : i < l.length := by
      refine Classical.byContradiction fun hc => ?_
      rw [List.drop_of_length_le (by omega)] at hq
      cases hq
    have h0 : ltK x.k l[i].Txn.k := Classical.byContradiction fun hc => hne _ (List.getElem_mem hil) (ltK_tot (h2 hil) hc)
    rw [List.drop_eq_getElem_cons hil] at hq r2
    rw [List.pairwise_cons] at r2
    rcases List.mem_cons.1 hq with rfl | hq
    · exact h0
    · exact ltK_trans h0 (r2.1 q hq)
  refine ⟨?_, fun q => ?_⟩
  · rw [List.pairwise_append, List.pairwise_cons]
    refine ⟨r1, ⟨hgt, r2⟩, fun a ha b hb => ?_⟩
    rcases List.mem_cons.1 hb with rfl | hb
    · exact h1 a ha
    · exact r3 a ha b hb
  · have hsp : q ∈ l ↔ q ∈ l.take i ∨ q ∈ l.drop i := by rw [← List.mem_append, List.take_append_drop]
    rw [List.mem_append, List.mem_cons]
    by_cases e : q.Txn.k = x.k
    · have e' := k_inj e
      have hno : q ∉ l := fun hq => by
        obtain ⟨w', h3, _⟩ := (h.mem q).1 hq
        rw [e, hx] at h3; cases h3
      simp only [e, if_true, Option.some.injEq]
      constructor
      · rintro (hq | rfl | hq)
        · exact absurd (hsp.2 (.inl hq)) hno
        · exact ⟨w, rfl, rfl⟩
        · exact absurd (hsp.2 (.inr hq)) hno
      · rintro ⟨w', rfl, hq⟩
        rw [e'] at hq
        exact .inr (.inl hq)
    · simp only [e, if_false]
      rw [← h.mem q, hsp]
      constructor
      · rintro (hq | rfl | hq)
        · exact .inl hq
        · exact absurd rfl e
        · exact .inr hq
      · rintro (hq | hq)
        · exact .inl hq
        · exact .inr (.inr hq)
theorem PSpec.era {l : List Rec} {g : K3 → Option Work} (h : PSpec l g) {x : Txn} {i : Nat} (hi : i < l.length) (hx : l[i].Txn = x) :
    PSpec (l.take i ++ l.drop (i + 1)) (fun k => if k = x.k then Option.none else g k) := by
  have hr := h.rise
  have hl : l = l.take i ++ l[i] :: l.drop (i + 1) := by rw [← List.drop_eq_getElem_cons hi, List.take_append_drop]
  rw [hl, List.pairwise_append, List.pairwise_cons] at hr
  obtain ⟨r1, ⟨r2, r4⟩, r3⟩ := hr
  refine ⟨?_, fun q => ?_⟩
  · rw [List.pairwise_append]
    exact ⟨r1, r4, fun a ha b hb => r3 a ha b (List.mem_cons_of_mem _ hb)⟩
  · have hsp : q ∈ l ↔ q ∈ l.take i ∨ q = l[i] ∨ q ∈ l.drop (i + 1) := by
      conv => lhs; rw [hl]
      rw [List.mem_append, List.mem_cons]
    rw [List.mem_append]
    by_cases e : q.Txn.k = x.k
    · simp only [e, if_true]
      constructor
      · rintro (hq | hq)
        · have := r3 q hq l[i] (List.mem_cons_self ..)
          rw [hx, e] at this
          exact absurd this ltK_irr
        · have := r2 q hq
          rw [hx, e] at this
          exact absurd this ltK_irr
      · rintro ⟨w, hw, _⟩; cases hw
    · simp only [e, if_false]
      rw [← h.mem q, hsp]
      constructor
      · rintro (hq | hq)
        · exact .inl hq
        · exact .inr (.inr hq)
      · rintro (hq | rfl | hq)
        · exact .inl hq
        · rw [hx] at e; exact absurd rfl e
        · exact .inr hq
/-- a key stands twice just if compacting makes it shorter -/
theorem dupT_iff {l : List ByteArray} : dupT l ↔ ¬ l.Nodup := by
  have tr : ∀ a b c : List UInt8, leB a b = true → leB b c = true → leB a c = true := fun a b c h1 h2 => by
    simp only [leB, decide_eq_true_eq] at *
    exact List.le_trans h1 h2
  have to : ∀ a b : List UInt8, (leB a b || leB b a) = true := fun a b => by
    simp only [leB, Bool.or_eq_true, decide_eq_true_eq]
    exact List.le_total a b
  have hs := List.pairwise_mergeSort tr to (l.map fun s => s.data.toList)
  have hp := List.mergeSort_perm (l.map fun s => s.data.toList) leB
  have hm : (sortT l).map (fun s => s.data.toList) = (l.map fun s => s.data.toList).mergeSort leB := by
    unfold sortT
    rw [List.map_map]
    exact (List.map_congr_left fun s _ => (by simp [sb] : ((fun s : ByteArray => s.data.toList) ∘ sb) s = s)).trans (List.map_id' _)
  unfold dupT compT
  rw [List.length_map, hm]
  have hnd : l.Nodup ↔ ((l.map fun s => s.data.toList).mergeSort leB).Nodup := by
    rw [hp.nodup_iff, List.nodup_iff_pairwise_ne, List.nodup_iff_pairwise_ne, List.pairwise_map]
    constructor
    · exact fun h => h.imp fun h e => h (text_ext e)
    · exact fun h => h.imp fun h e => h (by rw [e])
  have hlen : l.length = ((l.map fun s => s.data.toList).mergeSort leB).length := by rw [hp.length_eq, List.length_map]
  rw [hnd, hlen]
  generalize (l.map fun s => s.data.toList).mergeSort leB = z at *
  unfold Lib.compact Lib.compactUpTo
  rw [List.length_map]
  have hle := List.length_filter_le (Lib.keeps z.toArray) (List.range z.length)
  rw [List.length_range] at hle
  have hiff : ((List.range z.length).filter (Lib.keeps z.toArray)).length = z.length ↔ ∀ j < z.length, Lib.keeps z.toArray j = true := by
    constructor
    · intro h j hj
      have h2 := List.length_filter_eq_length_iff.1 (h.trans List.length_range.symm)
      exact h2 j (List.mem_range.2 hj)
    · intro h
      exact (List.length_filter_eq_length_iff.2 fun j hj => h j (List.mem_range.1 hj)).trans List.length_range
  have hkey : (∀ j < z.length, Lib.keeps z.toArray j = true) ↔ z.Nodup := by
    have hget : ∀ j (hj : j < z.length), z.toArray[j]! = z[j] := fun j hj => by rw [getElem!_pos z.toArray j (by simpa using hj)]; simp
    constructor
    · intro h
      rw [List.nodup_iff_pairwise_ne, List.pairwise_iff_getElem]
      intro i j hi hj hij e
      have hk := h j hj
      unfold Lib.keeps at hk
      rcases of_decide_eq_true hk with h0 | h0
      · omega
      · rw [hget j hj, hget (j - 1) (by omega)] at h0
        rw [List.pairwise_iff_getElem] at hs
        have h1 := hs (j - 1) j (by omega) hj (by omega)
        simp only [leB, decide_eq_true_eq] at h1
        have h2 : z[i] ≤ z[j - 1]'(by omega) := by
          rcases Nat.eq_or_lt_of_le (show i ≤ j - 1 by omega) with e2 | e2
          · subst e2; exact List.le_refl _
          · have := hs i (j - 1) hi (by omega) e2
            simpa only [leB, decide_eq_true_eq] using this
        rw [e] at h2
        exact h0 (List.le_antisymm h2 h1)
    · intro h j hj
      unfold Lib.keeps
      refine decide_eq_true ?_
      by_cases h0 : j = 0
      · exact .inl h0
      · right
        rw [hget j hj, hget (j - 1) (by omega)]
        intro e
        rw [List.nodup_iff_pairwise_ne, List.pairwise_iff_getElem] at h
        exact h (j - 1) j (by omega) hj (by omega) e.symm
  rw [← hkey, ← hiff]
  omega
end Go.Proofs.YtjgjcakeimkkdaaGreatDoor
