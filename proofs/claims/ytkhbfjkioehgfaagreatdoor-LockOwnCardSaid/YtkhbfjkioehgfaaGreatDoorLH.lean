/- Apply, walked. -/
import Derived.Test.YtkhbfjkioehgfaaGreatDoorLG
set_option linter.unusedVariables false
set_option linter.unusedSimpArgs false
namespace Go.Proofs.YtkhbfjkioehgfaaGreatDoor
open Go Go.Sx Go.Proofs
def unlockAll (ks : List ByteArray) (l : List (ByteArray × Txn)) : List (ByteArray × Txn) := ks.foldl (fun l k => mdel k l) l
theorem unlockAll_snoc {ks : List ByteArray} {k : ByteArray} {l : List (ByteArray × Txn)} : unlockAll (ks ++ [k]) l = mdel k (unlockAll ks l) := by simp [unlockAll]
def dropAll (r : Int) (ks : List ByteArray) (l : List (ByteArray × Int)) : List (ByteArray × Int) := ks.foldl (fun l k => if (mget k l).isSome = true ∧ (mget k l).getD 0 = r then mdel k l else l) l
theorem dropAll_snoc {r : Int} {ks : List ByteArray} {k : ByteArray} {l : List (ByteArray × Int)} : dropAll r (ks ++ [k]) l = if (mget k (dropAll r ks l)).isSome = true ∧ (mget k (dropAll r ks l)).getD 0 = r then mdel k (dropAll r ks l) else dropAll r ks l := by unfold dropAll; rw [List.foldl_append]; rfl
def takeAll (r : Int) (ks : List ByteArray) (l : List (ByteArray × Int)) : List (ByteArray × Int) := ks.foldl (fun l k => mset k r l) l
theorem takeAll_snoc {r : Int} {ks : List ByteArray} {k : ByteArray} {l : List (ByteArray × Int)} : takeAll r (ks ++ [k]) l = mset k r (takeAll r ks l) := by simp [takeAll]
def applyE (s : TS) (x : Txn) : Int := if (mget x.k s.works).isSome = true then 0 else 4
def applyW (s : TS) (x : Txn) (yes : Bool) (w : Work) : TS := ⟨if yes = true then takeAll w.Robot w.Take (dropAll w.Robot w.Drop s.held) else s.held, unlockAll w.ks s.locked, mdel x.k s.works⟩
def applyT (s : TS) (x : Txn) (yes : Bool) : TS := if (mget x.k s.works).isSome = true then applyW s x yes ((mget x.k s.works).getD zCW).2 else s
set_option maxHeartbeats 4000000 in
theorem apply_spec {W0 : World} {H : Heap} {p : Nat} {s : TS} {x : Txn} {yes : Bool} (hwn : ((mget x.k s.works).getD zCW).2.ks.length * 16 ≤ cap47) :
    Ct Tryz.prog 12 #[.pointer (some ⟨p, 0, none⟩), .agg x.cv.toArray, .bool yes] W0 H [tabO H p s] (fun r H' B => r = I (applyE s x) ∧ B = [tabO H' p (applyT s x yes)]) := by
  refine Ct.go (vs := [.pointer (some ⟨p, 0, none⟩), .agg x.cv.toArray, .bool yes]) fun R => ?_
  obtain ⟨x1, x2, x3⟩ := x
  refine ex_open (A := tabO H p s) (σ := Nat × Nat × Nat) (B := fun a => [tRow p a.1 a.2.1 a.2.2, hMap H a.1 s, lMap H a.2.1 s, wMap H a.2.2 s]) (p := fun _ => True) (by repeat (first | exact Has.here | apply Has.there)) (fun h ⟨hb, lb, wb, hbig⟩ => ⟨(hb, lb, wb), trivial, hbig⟩) fun ⟨hb, lb, wb⟩ _ => ?_
  dsimp only
  refine ex_know (A := wMap H wb s) (by repeat (first | exact Has.here | apply Has.there)) (fun h ho => mapO_know ho) fun hkw => ?_
  have hrd := wks_read hkw.1 (x1, x2, x3)
  refine walk ?_
  refine ops_box rfl rfl fun p4 _ => ?_
  refine walk ?_
  refine ex_any 11 [wMap H wb s, tRow p hb lb wb, row p4 27 [I x1, I x2, I x3]] ?_
  (first | refine gny_p 0 rfl rfl rfl ?_ | refine gny_ld 0 rfl rfl rfl rfl ?_ | refine gny_ldH 0 rfl rfl rfl ‹HRow _ _ 0 _› rfl ?_ | refine gny_T 0 rfl rfl rfl ?_ | refine gny_F 0 rfl rfl rfl ?_ | refine gny_B 0 rfl rfl rfl ?_ | refine gny_skip 0 rfl rfl ?_ | refine gny_sp 0 rfl rfl rfl ?_ | refine gny_sB 0 rfl rfl rfl ?_ | refine gny_sld 0 rfl rfl rfl rfl ?_ | refine gny_sldH 0 rfl rfl rfl ‹HRow _ _ 0 _› rfl ?_ | refine gny_ldN 0 rfl rfl rfl rfl ?_ | refine gny_bld 0 rfl rfl rfl ?_); (first | refine gny_p 1 rfl rfl rfl ?_ | refine gny_ld 1 rfl rfl rfl rfl ?_ | refine gny_ldH 1 rfl rfl rfl ‹HRow _ _ 0 _› rfl ?_ | refine gny_T 1 rfl rfl rfl ?_ | refine gny_F 1 rfl rfl rfl ?_ | refine gny_B 1 rfl rfl rfl ?_ | refine gny_skip 1 rfl rfl ?_ | refine gny_sp 1 rfl rfl rfl ?_ | refine gny_sB 1 rfl rfl rfl ?_ | refine gny_sld 1 rfl rfl rfl rfl ?_ | refine gny_sldH 1 rfl rfl rfl ‹HRow _ _ 0 _› rfl ?_ | refine gny_ldN 1 rfl rfl rfl rfl ?_ | refine gny_bld 1 rfl rfl rfl ?_); (first | refine gny_p 2 rfl rfl rfl ?_ | refine gny_ld 2 rfl rfl rfl rfl ?_ | refine gny_ldH 2 rfl rfl rfl ‹HRow _ _ 0 _› rfl ?_ | refine gny_T 2 rfl rfl rfl ?_ | refine gny_F 2 rfl rfl rfl ?_ | refine gny_B 2 rfl rfl rfl ?_ | refine gny_skip 2 rfl rfl ?_ | refine gny_sp 2 rfl rfl rfl ?_ | refine gny_sB 2 rfl rfl rfl ?_ | refine gny_sld 2 rfl rfl rfl rfl ?_ | refine gny_sldH 2 rfl rfl rfl ‹HRow _ _ 0 _› rfl ?_ | refine gny_ldN 2 rfl rfl rfl rfl ?_ | refine gny_bld 2 rfl rfl rfl ?_); (first | refine gny_p 3 rfl rfl rfl ?_ | refine gny_ld 3 rfl rfl rfl rfl ?_ | refine gny_ldH 3 rfl rfl rfl ‹HRow _ _ 0 _› rfl ?_ | refine gny_T 3 rfl rfl rfl ?_ | refine gny_F 3 rfl rfl rfl ?_ | refine gny_B 3 rfl rfl rfl ?_ | refine gny_skip 3 rfl rfl ?_ | refine gny_sp 3 rfl rfl rfl ?_ | refine gny_sB 3 rfl rfl rfl ?_ | refine gny_sld 3 rfl rfl rfl rfl ?_ | refine gny_sldH 3 rfl rfl rfl ‹HRow _ _ 0 _› rfl ?_ | refine gny_ldN 3 rfl rfl rfl rfl ?_ | refine gny_bld 3 rfl rfl rfl ?_); (first | refine gny_p 4 rfl rfl rfl ?_ | refine gny_ld 4 rfl rfl rfl rfl ?_ | refine gny_ldH 4 rfl rfl rfl ‹HRow _ _ 0 _› rfl ?_ | refine gny_T 4 rfl rfl rfl ?_ | refine gny_F 4 rfl rfl rfl ?_ | refine gny_B 4 rfl rfl rfl ?_ | refine gny_skip 4 rfl rfl ?_ | refine gny_sp 4 rfl rfl rfl ?_ | refine gny_sB 4 rfl rfl rfl ?_ | refine gny_sld 4 rfl rfl rfl rfl ?_ | refine gny_sldH 4 rfl rfl rfl ‹HRow _ _ 0 _› rfl ?_ | refine gny_ldN 4 rfl rfl rfl rfl ?_ | refine gny_bld 4 rfl rfl rfl ?_)
  refine gny_lkA2 (RV := rCW) (ag := true) (z := zCW) 5 rfl rfl rfl (by repeat (first | exact Has.here | apply Has.there)) ?_
  have hE : applyE s ⟨x1, x2, x3⟩ = if (mget (x1, x2, x3) s.works).isSome = true then 0 else 4 := rfl
  have hT : applyT s ⟨x1, x2, x3⟩ yes = if (mget (x1, x2, x3) s.works).isSome = true then applyW s ⟨x1, x2, x3⟩ yes ((mget (x1, x2, x3) s.works).getD zCW).2 else s := rfl
  change ((mget (x1, x2, x3) s.works).getD zCW).2.ks.length * 16 ≤ cap47 at hwn
  rw [hE, hT]
  clear hE hT
  generalize (mget (x1, x2, x3) s.works).getD zCW = q at hrd hwn ⊢
  obtain ⟨qc, w⟩ := q
  dsimp only at hrd hwn
  obtain ⟨q1, q2, rfl, hrob, hs1, hs2⟩ := hrd
  obtain ⟨b1, c1, rfl, _, _⟩ := hs1.1.shape
  obtain ⟨b2, c2, rfl, _, _⟩ := hs2.1.shape
  dsimp only
  (first | refine gny_p 6 rfl rfl rfl ?_ | refine gny_ld 6 rfl rfl rfl rfl ?_ | refine gny_ldH 6 rfl rfl rfl ‹HRow _ _ 0 _› rfl ?_ | refine gny_T 6 rfl rfl rfl ?_ | refine gny_F 6 rfl rfl rfl ?_ | refine gny_B 6 rfl rfl rfl ?_ | refine gny_skip 6 rfl rfl ?_ | refine gny_sp 6 rfl rfl rfl ?_ | refine gny_sB 6 rfl rfl rfl ?_ | refine gny_sld 6 rfl rfl rfl rfl ?_ | refine gny_sldH 6 rfl rfl rfl ‹HRow _ _ 0 _› rfl ?_ | refine gny_ldN 6 rfl rfl rfl rfl ?_ | refine gny_bld 6 rfl rfl rfl ?_)
  refine gny_ext 7 rfl rfl rfl rfl ?_
  refine gny_ext 8 rfl rfl rfl rfl ?_
  refine gny_alloc 9 rfl rfl fun p7 _ => ?_
  refine any_sta 10 rfl rfl rfl rfl (by simp) (show _ = w.cv (.slice b1 w.Take.length c1) (.slice b2 w.Drop.length c2) from rfl) ⟨(by (repeat (first | exact Sub.refl _ | exact Sub.nil _ | (apply sub_pick; (repeat (first | exact Has.here | apply Has.there)); skip) | apply Sub.drop))), ?_⟩
  refine any_rest rfl ?_
  rw [show (mget (x1, x2, x3) s.works).isSome = decide ((mget (x1, x2, x3) s.works).isSome = true) by simp]
  refine walk ?_
  refine ex_if rfl (fun hin => ?_) (fun hin => ?_)
  · refine walk ?_
    have hin' : ¬ (mget (x1, x2, x3) s.works).isSome = true := hin
    refine finB [tabO H p s] ?_ (hs := ?_)
    · exact ⟨by simp [hin'], by simp [hin']⟩
    · refine Sub.trans ?_ (tab_fold (hb := hb) (lb := lb) (wb := wb))
      (repeat (first | exact Sub.refl _ | exact Sub.nil _ | (apply sub_pick; (repeat (first | exact Has.here | apply Has.there)); skip) | apply Sub.drop))
  have hin' : (mget (x1, x2, x3) s.works).isSome = true := Classical.byContradiction hin
  refine walk ?_
  refine ex_any 5 [tRow p hb lb wb, row p4 27 [I x1, I x2, I x3]] ?_
  (first | refine gny_p 0 rfl rfl rfl ?_ | refine gny_ld 0 rfl rfl rfl rfl ?_ | refine gny_ldH 0 rfl rfl rfl ‹HRow _ _ 0 _› rfl ?_ | refine gny_T 0 rfl rfl rfl ?_ | refine gny_F 0 rfl rfl rfl ?_ | refine gny_B 0 rfl rfl rfl ?_ | refine gny_skip 0 rfl rfl ?_ | refine gny_sp 0 rfl rfl rfl ?_ | refine gny_sB 0 rfl rfl rfl ?_ | refine gny_sld 0 rfl rfl rfl rfl ?_ | refine gny_sldH 0 rfl rfl rfl ‹HRow _ _ 0 _› rfl ?_ | refine gny_ldN 0 rfl rfl rfl rfl ?_ | refine gny_bld 0 rfl rfl rfl ?_); (first | refine gny_p 1 rfl rfl rfl ?_ | refine gny_ld 1 rfl rfl rfl rfl ?_ | refine gny_ldH 1 rfl rfl rfl ‹HRow _ _ 0 _› rfl ?_ | refine gny_T 1 rfl rfl rfl ?_ | refine gny_F 1 rfl rfl rfl ?_ | refine gny_B 1 rfl rfl rfl ?_ | refine gny_skip 1 rfl rfl ?_ | refine gny_sp 1 rfl rfl rfl ?_ | refine gny_sB 1 rfl rfl rfl ?_ | refine gny_sld 1 rfl rfl rfl rfl ?_ | refine gny_sldH 1 rfl rfl rfl ‹HRow _ _ 0 _› rfl ?_ | refine gny_ldN 1 rfl rfl rfl rfl ?_ | refine gny_bld 1 rfl rfl rfl ?_); (first | refine gny_p 2 rfl rfl rfl ?_ | refine gny_ld 2 rfl rfl rfl rfl ?_ | refine gny_ldH 2 rfl rfl rfl ‹HRow _ _ 0 _› rfl ?_ | refine gny_T 2 rfl rfl rfl ?_ | refine gny_F 2 rfl rfl rfl ?_ | refine gny_B 2 rfl rfl rfl ?_ | refine gny_skip 2 rfl rfl ?_ | refine gny_sp 2 rfl rfl rfl ?_ | refine gny_sB 2 rfl rfl rfl ?_ | refine gny_sld 2 rfl rfl rfl rfl ?_ | refine gny_sldH 2 rfl rfl rfl ‹HRow _ _ 0 _› rfl ?_ | refine gny_ldN 2 rfl rfl rfl rfl ?_ | refine gny_bld 2 rfl rfl rfl ?_); (first | refine gny_p 3 rfl rfl rfl ?_ | refine gny_ld 3 rfl rfl rfl rfl ?_ | refine gny_ldH 3 rfl rfl rfl ‹HRow _ _ 0 _› rfl ?_ | refine gny_T 3 rfl rfl rfl ?_ | refine gny_F 3 rfl rfl rfl ?_ | refine gny_B 3 rfl rfl rfl ?_ | refine gny_skip 3 rfl rfl ?_ | refine gny_sp 3 rfl rfl rfl ?_ | refine gny_sB 3 rfl rfl rfl ?_ | refine gny_sld 3 rfl rfl rfl rfl ?_ | refine gny_sldH 3 rfl rfl rfl ‹HRow _ _ 0 _› rfl ?_ | refine gny_ldN 3 rfl rfl rfl rfl ?_ | refine gny_bld 3 rfl rfl rfl ?_); (first | refine gny_p 4 rfl rfl rfl ?_ | refine gny_ld 4 rfl rfl rfl rfl ?_ | refine gny_ldH 4 rfl rfl rfl ‹HRow _ _ 0 _› rfl ?_ | refine gny_T 4 rfl rfl rfl ?_ | refine gny_F 4 rfl rfl rfl ?_ | refine gny_B 4 rfl rfl rfl ?_ | refine gny_skip 4 rfl rfl ?_ | refine gny_sp 4 rfl rfl rfl ?_ | refine gny_sB 4 rfl rfl rfl ?_ | refine gny_sld 4 rfl rfl rfl rfl ?_ | refine gny_sldH 4 rfl rfl rfl ‹HRow _ _ 0 _› rfl ?_ | refine gny_ldN 4 rfl rfl rfl rfl ?_ | refine gny_bld 4 rfl rfl rfl ?_)
  refine any_rest rfl ?_
  refine ops_delete (ek := ek3) rfl (by repeat (first | exact Has.here | apply Has.there)) ?_
  refine walk ?_
  refine ops_bsN rfl rfl fun pb _ => ?_
  refine ops_frzR .here fun H1 hl1 hr1 => ?_
  have hwn' : (w.Take.length + w.Drop.length) * 16 ≤ cap47 := by simpa [Work.ks] using hwn
  have hsr : SlR (rSl rStr 1 16) 1 H1 (.slice (some ⟨pb, 0, none⟩) 2 2) [w.Take, w.Drop] := slr_of_hrow (R := rSl rStr 1 16) (xs := [w.Take, w.Drop]) hr1 (show RL (rSl rStr 1 16) H1 [.slice b1 w.Take.length c1, .slice b2 w.Drop.length c2] [w.Take, w.Drop] from ⟨[_], [_], rfl, ⟨_, rfl, hs1.mono hl1⟩, ⟨[_], [], rfl, ⟨_, rfl, hs2.mono hl1⟩, rfl⟩⟩) (by simp) (by omega)
  have hcat := concat_spec (W0 := W0) hsr (by simpa [sumLen] using hwn')
  rw [show [w.Take, w.Drop].flatten = w.ks by simp [Work.ks]] at hcat
  refine ops_call rfl rfl hcat fun r1 H2 B hl2 ⟨eB, eH⟩ => ?_
  subst eB eH
  refine ops_freeze r1 fun H3 hl3 hsl => ?_
  obtain ⟨bk, ck, rfl, hck, hdk⟩ := hsl.1.shape
  have hl03 : H.le H3 := hl1.trans (hl2.trans hl3)
  refine walk ?_
  refine ex_loop (σ := Nat) (fun k => k ≤ w.ks.length) (fun k => [(0, .pointer (some ⟨p, 0, none⟩)), (2, .bool yes), (7, .pointer (some ⟨p7, 0, none⟩)), (38, .slice bk w.ks.length ck), (39, I w.ks.length), (40, I k)]) (fun _ => H3)
    (fun k => mapO Value.string rTxn true H lb (unlockAll (w.ks.take k) s.locked) :: row p7 30 (w.cv (.slice b1 w.Take.length c1) (.slice b2 w.Drop.length c2)) :: tRow p hb lb wb :: mapO ek3 rCW true H wb (mdel (x1, x2, x3) s.works) :: hMap H hb s :: R) (fun k => w.ks.length - k) 0 (Nat.zero_le _) fun k hk0 K hL => ?_
  refine walk ?_
  refine ex_if rfl (fun hk => ?_) (fun hk => ?_)
  · have hk1 : k < w.ks.length := by omega
    have ht := List.take_succ_eq_append_getElem hk1
    refine walk ?_
    refine ops_ixp rfl rfl hsl.1 hk1 fun b o c hr hc => ?_
    obtain ⟨rfl, hsz⟩ := hc
    refine walk ?_
    refine ops_delete (ek := Value.string) rfl (by repeat (first | exact Has.here | apply Has.there)) ?_
    refine walk ?_
    have hse : unlockAll (w.ks.take (k + 1)) s.locked = mdel w.ks[k] (unlockAll (w.ks.take k) s.locked) := by rw [ht, unlockAll_snoc]
    rw [← hse]
    exact out_next hL (k + 1) (by omega)
  clear hL
  obtain rfl : k = w.ks.length := by omega
  rw [List.take_length]
  cases yes with
  | false =>
    refine walk ?_
    refine finB [tabO H3 p (applyW s ⟨x1, x2, x3⟩ false w)] ?_ (hs := ?_)
    · exact ⟨by simp [hin'], by simp [hin']⟩
    · refine Sub.trans ?_ (Sub.trans (tab_fold (H := H) (s := applyW s ⟨x1, x2, x3⟩ false w) (hb := hb) (lb := lb) (wb := wb)) (tab_up hl03))
      (repeat (first | exact Sub.refl _ | exact Sub.nil _ | (apply sub_pick; (repeat (first | exact Has.here | apply Has.there)); skip) | apply Sub.drop))
  | true =>
    refine walk ?_
    refine ex_loop (σ := Nat) (fun k => k ≤ w.Drop.length) (fun k => [(0, .pointer (some ⟨p, 0, none⟩)), (7, .pointer (some ⟨p7, 0, none⟩)), (53, .slice b2 w.Drop.length c2), (54, I w.Drop.length), (55, I k)]) (fun _ => H3)
      (fun k => mapO Value.string rInt false H hb (dropAll w.Robot (w.Drop.take k) s.held) :: row p7 30 (w.cv (.slice b1 w.Take.length c1) (.slice b2 w.Drop.length c2)) :: tRow p hb lb wb :: mapO ek3 rCW true H wb (mdel (x1, x2, x3) s.works) :: mapO Value.string rTxn true H lb (unlockAll w.ks s.locked) :: R) (fun k => w.Drop.length - k) 0 (Nat.zero_le _) fun k hk0 K hL => ?_
    refine walk ?_
    refine ex_if rfl (fun hk => ?_) (fun hk => ?_)
    · have hk1 : k < w.Drop.length := by omega
      have ht := List.take_succ_eq_append_getElem hk1
      have hse := dropAll_snoc (r := w.Robot) (ks := w.Drop.take k) (k := w.Drop[k]) (l := s.held)
      rw [← ht] at hse
      refine walk ?_
      refine ops_ixp rfl rfl (hs2.mono hl03).1 hk1 fun b o c hr hc => ?_
      obtain ⟨rfl, hsz⟩ := hc
      refine walk ?_
      refine ops_lkA2 (RV := rInt) (ag := false) (z := 0) rfl rfl (by repeat (first | exact Has.here | apply Has.there)) ?_
      rw [show (mget w.Drop[k] (dropAll w.Robot (w.Drop.take k) s.held)).isSome = decide ((mget w.Drop[k] (dropAll w.Robot (w.Drop.take k) s.held)).isSome = true) by simp]
      refine walkG ?_
      refine ex_if rfl (fun hq => ?_) (fun hq => ?_)
      · rw [if_pos hq] at hse
        refine walk ?_
        refine ops_delete (ek := Value.string) rfl (by repeat (first | exact Has.here | apply Has.there)) ?_
        refine walk ?_
        rw [← hse]
        exact out_next hL (k + 1) (by omega)
      · rw [if_neg hq] at hse
        refine walk ?_
        rw [← hse]
        exact out_next hL (k + 1) (by omega)
    clear hL
    obtain rfl : k = w.Drop.length := by omega
    rw [List.take_length]
    refine walk ?_
    refine ex_loop (σ := Nat) (fun k => k ≤ w.Take.length) (fun k => [(0, .pointer (some ⟨p, 0, none⟩)), (7, .pointer (some ⟨p7, 0, none⟩)), (82, .slice b1 w.Take.length c1), (83, I w.Take.length), (84, I k)]) (fun _ => H3)
      (fun k => mapO Value.string rInt false H hb (takeAll w.Robot (w.Take.take k) (dropAll w.Robot w.Drop s.held)) :: row p7 30 (w.cv (.slice b1 w.Take.length c1) (.slice b2 w.Drop.length c2)) :: tRow p hb lb wb :: mapO ek3 rCW true H wb (mdel (x1, x2, x3) s.works) :: mapO Value.string rTxn true H lb (unlockAll w.ks s.locked) :: R) (fun k => w.Take.length - k) 0 (Nat.zero_le _) fun k hk0 K hL => ?_
    refine walk ?_
    refine ex_if rfl (fun hk => ?_) (fun hk => ?_)
    · have hk1 : k < w.Take.length := by omega
      have ht := List.take_succ_eq_append_getElem hk1
      have hse := takeAll_snoc (r := w.Robot) (ks := w.Take.take k) (k := w.Take[k]) (l := dropAll w.Robot w.Drop s.held)
      rw [← ht] at hse
      refine walk ?_
      refine ops_ixp rfl rfl (hs1.mono hl03).1 hk1 fun b o c hr hc => ?_
      obtain ⟨rfl, hsz⟩ := hc
      refine walk ?_
      refine ex_any 7 [tRow p hb lb wb, row p7 30 (w.cv (.slice b1 w.Take.length c1) (.slice b2 w.Drop.length c2))] ?_
      (first | refine gny_p 0 rfl rfl rfl ?_ | refine gny_ld 0 rfl rfl rfl rfl ?_ | refine gny_ldH 0 rfl rfl rfl ‹HRow _ _ 0 _› rfl ?_ | refine gny_T 0 rfl rfl rfl ?_ | refine gny_F 0 rfl rfl rfl ?_ | refine gny_B 0 rfl rfl rfl ?_ | refine gny_skip 0 rfl rfl ?_ | refine gny_sp 0 rfl rfl rfl ?_ | refine gny_sB 0 rfl rfl rfl ?_ | refine gny_sld 0 rfl rfl rfl rfl ?_ | refine gny_sldH 0 rfl rfl rfl ‹HRow _ _ 0 _› rfl ?_ | refine gny_ldN 0 rfl rfl rfl rfl ?_ | refine gny_bld 0 rfl rfl rfl ?_); (first | refine gny_p 1 rfl rfl rfl ?_ | refine gny_ld 1 rfl rfl rfl rfl ?_ | refine gny_ldH 1 rfl rfl rfl ‹HRow _ _ 0 _› rfl ?_ | refine gny_T 1 rfl rfl rfl ?_ | refine gny_F 1 rfl rfl rfl ?_ | refine gny_B 1 rfl rfl rfl ?_ | refine gny_skip 1 rfl rfl ?_ | refine gny_sp 1 rfl rfl rfl ?_ | refine gny_sB 1 rfl rfl rfl ?_ | refine gny_sld 1 rfl rfl rfl rfl ?_ | refine gny_sldH 1 rfl rfl rfl ‹HRow _ _ 0 _› rfl ?_ | refine gny_ldN 1 rfl rfl rfl rfl ?_ | refine gny_bld 1 rfl rfl rfl ?_); (first | refine gny_p 2 rfl rfl rfl ?_ | refine gny_ld 2 rfl rfl rfl rfl ?_ | refine gny_ldH 2 rfl rfl rfl ‹HRow _ _ 0 _› rfl ?_ | refine gny_T 2 rfl rfl rfl ?_ | refine gny_F 2 rfl rfl rfl ?_ | refine gny_B 2 rfl rfl rfl ?_ | refine gny_skip 2 rfl rfl ?_ | refine gny_sp 2 rfl rfl rfl ?_ | refine gny_sB 2 rfl rfl rfl ?_ | refine gny_sld 2 rfl rfl rfl rfl ?_ | refine gny_sldH 2 rfl rfl rfl ‹HRow _ _ 0 _› rfl ?_ | refine gny_ldN 2 rfl rfl rfl rfl ?_ | refine gny_bld 2 rfl rfl rfl ?_); (first | refine gny_p 3 rfl rfl rfl ?_ | refine gny_ld 3 rfl rfl rfl rfl ?_ | refine gny_ldH 3 rfl rfl rfl ‹HRow _ _ 0 _› rfl ?_ | refine gny_T 3 rfl rfl rfl ?_ | refine gny_F 3 rfl rfl rfl ?_ | refine gny_B 3 rfl rfl rfl ?_ | refine gny_skip 3 rfl rfl ?_ | refine gny_sp 3 rfl rfl rfl ?_ | refine gny_sB 3 rfl rfl rfl ?_ | refine gny_sld 3 rfl rfl rfl rfl ?_ | refine gny_sldH 3 rfl rfl rfl ‹HRow _ _ 0 _› rfl ?_ | refine gny_ldN 3 rfl rfl rfl rfl ?_ | refine gny_bld 3 rfl rfl rfl ?_); (first | refine gny_p 4 rfl rfl rfl ?_ | refine gny_ld 4 rfl rfl rfl rfl ?_ | refine gny_ldH 4 rfl rfl rfl ‹HRow _ _ 0 _› rfl ?_ | refine gny_T 4 rfl rfl rfl ?_ | refine gny_F 4 rfl rfl rfl ?_ | refine gny_B 4 rfl rfl rfl ?_ | refine gny_skip 4 rfl rfl ?_ | refine gny_sp 4 rfl rfl rfl ?_ | refine gny_sB 4 rfl rfl rfl ?_ | refine gny_sld 4 rfl rfl rfl rfl ?_ | refine gny_sldH 4 rfl rfl rfl ‹HRow _ _ 0 _› rfl ?_ | refine gny_ldN 4 rfl rfl rfl rfl ?_ | refine gny_bld 4 rfl rfl rfl ?_); (first | refine gny_p 5 rfl rfl rfl ?_ | refine gny_ld 5 rfl rfl rfl rfl ?_ | refine gny_ldH 5 rfl rfl rfl ‹HRow _ _ 0 _› rfl ?_ | refine gny_T 5 rfl rfl rfl ?_ | refine gny_F 5 rfl rfl rfl ?_ | refine gny_B 5 rfl rfl rfl ?_ | refine gny_skip 5 rfl rfl ?_ | refine gny_sp 5 rfl rfl rfl ?_ | refine gny_sB 5 rfl rfl rfl ?_ | refine gny_sld 5 rfl rfl rfl rfl ?_ | refine gny_sldH 5 rfl rfl rfl ‹HRow _ _ 0 _› rfl ?_ | refine gny_ldN 5 rfl rfl rfl rfl ?_ | refine gny_bld 5 rfl rfl rfl ?_); (first | refine gny_p 6 rfl rfl rfl ?_ | refine gny_ld 6 rfl rfl rfl rfl ?_ | refine gny_ldH 6 rfl rfl rfl ‹HRow _ _ 0 _› rfl ?_ | refine gny_T 6 rfl rfl rfl ?_ | refine gny_F 6 rfl rfl rfl ?_ | refine gny_B 6 rfl rfl rfl ?_ | refine gny_skip 6 rfl rfl ?_ | refine gny_sp 6 rfl rfl rfl ?_ | refine gny_sB 6 rfl rfl rfl ?_ | refine gny_sld 6 rfl rfl rfl rfl ?_ | refine gny_sldH 6 rfl rfl rfl ‹HRow _ _ 0 _› rfl ?_ | refine gny_ldN 6 rfl rfl rfl rfl ?_ | refine gny_bld 6 rfl rfl rfl ?_)
      refine any_rest rfl ?_
      refine ops_update (RV := rInt) (ag := false) (cs := [I w.Robot]) (u := w.Robot) rfl rfl ⟨rfl, hrob⟩ (by repeat (first | exact Has.here | apply Has.there)) ?_
      refine walk ?_
      rw [← hse]
      exact out_next hL (k + 1) (by omega)
    clear hL
    obtain rfl : k = w.Take.length := by omega
    rw [List.take_length]
    refine walk ?_
    refine finB [tabO H3 p (applyW s ⟨x1, x2, x3⟩ true w)] ?_ (hs := ?_)
    · exact ⟨by simp [hin'], by simp [hin']⟩
    · refine Sub.trans ?_ (Sub.trans (tab_fold (H := H) (s := applyW s ⟨x1, x2, x3⟩ true w) (hb := hb) (lb := lb) (wb := wb)) (tab_up hl03))
      (repeat (first | exact Sub.refl _ | exact Sub.nil _ | (apply sub_pick; (repeat (first | exact Has.here | apply Has.there)); skip) | apply Sub.drop))
end Go.Proofs.YtkhbfjkioehgfaaGreatDoor
