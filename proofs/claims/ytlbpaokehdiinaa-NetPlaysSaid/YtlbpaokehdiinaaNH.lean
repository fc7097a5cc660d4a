/- A message that is handed in is owned; what is spoilt is given up. -/
import Derived.Test.YtlbpaokehdiinaaNG
set_option linter.unusedVariables false
set_option linter.unusedSimpArgs false
namespace Go.Proofs.Ytlbpaokehdiinaa
open Go Go.Sx Go.Proofs
theorem cloneSO_spec {W0 : World} {H : Heap} {x : Option Addr × Nat} {xs : List ByteArray} (hb : xs.length * 16 ≤ cap47) :
    Ct Try.prog 31 #[sl x xs] W0 H [ownS rStr 1 16 9 H (sl x xs) xs] (fun r H' B => B = [ownS rStr 1 16 9 H r xs, ownS rStr 1 16 9 H (sl x xs) xs] ∧ H' = H) := by
  refine Ct.go fun R => ?_
  obtain ⟨b0, c0⟩ := x
  refine walk ?_
  refine ex_if rfl (fun h => ?_) (fun h => ?_)
  · subst h
    refine walk ?_
    refine out_know .here (p := xs.length = 0) (fun h ho => ?_) fun h0 => ?_
    · obtain ⟨cs, _, ho⟩ := ho
      obtain ⟨_, ho⟩ := ho
      rcases ho with ⟨h, _⟩ | ⟨b, cap, sp, h, _⟩
      · exact h
      · cases h
    obtain rfl : xs = [] := List.eq_nil_of_length_eq_zero h0
    refine finB [ownS rStr 1 16 9 H (.slice none 0 0) [], ownS rStr 1 16 9 H (.slice none 0 c0) []] ?_ (hs := ownS_nil)
    exact ⟨rfl, rfl⟩
  · refine walk ?_
    refine ops_mk0 (w := 16) rStr rfl fun b => ?_
    refine walk ?_
    refine ops_appSO rfl rfl (by simpa using hb) fun base cap => ?_
    refine walk ?_
    refine finB [ownS rStr 1 16 9 H (.slice base ([].length + xs.length) cap) ([] ++ xs), ownS rStr 1 16 9 H (.slice b0 xs.length c0) xs] ?_
    exact ⟨rfl, rfl⟩
theorem cloneIO_spec {W0 : World} {H : Heap} {x : Option Addr × Nat} {xs : List Int} (hb : xs.length * 8 ≤ cap47) :
    Ct Try.prog 32 #[sl x xs] W0 H [ownS rInt 1 8 3 H (sl x xs) xs] (fun r H' B => B = [ownS rInt 1 8 3 H r xs, ownS rInt 1 8 3 H (sl x xs) xs] ∧ H' = H) := by
  refine Ct.go fun R => ?_
  obtain ⟨b0, c0⟩ := x
  refine walk ?_
  refine ex_if rfl (fun h => ?_) (fun h => ?_)
  · subst h
    refine walk ?_
    refine out_know .here (p := xs.length = 0) (fun h ho => ?_) fun h0 => ?_
    · obtain ⟨cs, _, ho⟩ := ho
      obtain ⟨_, ho⟩ := ho
      rcases ho with ⟨h, _⟩ | ⟨b, cap, sp, h, _⟩
      · exact h
      · cases h
    obtain rfl : xs = [] := List.eq_nil_of_length_eq_zero h0
    refine finB [ownS rInt 1 8 3 H (.slice none 0 0) [], ownS rInt 1 8 3 H (.slice none 0 c0) []] ?_ (hs := ownS_nil)
    exact ⟨rfl, rfl⟩
  · refine walk ?_
    refine ops_mk0 (w := 8) rInt rfl fun b => ?_
    refine walk ?_
    refine ops_appSO rfl rfl (by simpa using hb) fun base cap => ?_
    refine walk ?_
    refine finB [ownS rInt 1 8 3 H (.slice base ([].length + xs.length) cap) ([] ++ xs), ownS rInt 1 8 3 H (.slice b0 xs.length c0) xs] ?_
    exact ⟨rfl, rfl⟩
def capM (m : Message) : Prop := m.Work.Take.length * 16 ≤ cap47 ∧ m.Work.Drop.length * 16 ≤ cap47 ∧ m.Call.Route.Cells.length * 8 ≤ cap47 ∧ m.Reply.Route.Cells.length * 8 ≤ cap47
theorem ownO_spec {W0 : World} {H : Heap} {s1 s2 s3 s4 : Option Addr × Nat} {m : Message} (hm : capM m) :
    Ct Try.prog 20 #[.agg (cvM s1 s2 s3 s4 m).toArray] W0 H (ownM H s1 s2 s3 s4 m) (fun r H' B => ∃ t1 t2 t3 t4, r = .agg (cvM t1 t2 t3 t4 m).toArray ∧ B = ownM H t1 t2 t3 t4 m ++ ownM H s1 s2 s3 s4 m ∧ H' = H) := by
  refine Ct.go fun R => ?_
  obtain ⟨h1, h2, h3, h4⟩ := hm
  refine walk ?_
  refine ops_box rfl rfl fun p1 _ => ?_
  refine ops_alloc rfl fun p2 _ => ?_
  refine walk ?_
  refine ex_any 10 [row p1 42 (cvM s1 s2 s3 s4 m)] ?_
  (first | refine any_p 0 rfl rfl ?_ | refine any_ld 0 rfl rfl rfl ?_ | refine any_ldN 0 rfl rfl rfl ?_); (first | refine any_p 1 rfl rfl ?_ | refine any_ld 1 rfl rfl rfl ?_ | refine any_ldN 1 rfl rfl rfl ?_); (first | refine any_p 2 rfl rfl ?_ | refine any_ld 2 rfl rfl rfl ?_ | refine any_ldN 2 rfl rfl rfl ?_); (first | refine any_p 4 rfl rfl ?_ | refine any_ld 4 rfl rfl rfl ?_ | refine any_ldN 4 rfl rfl rfl ?_); (first | refine any_p 5 rfl rfl ?_ | refine any_ld 5 rfl rfl rfl ?_ | refine any_ldN 5 rfl rfl rfl ?_); (first | refine any_p 6 rfl rfl ?_ | refine any_ld 6 rfl rfl rfl ?_ | refine any_ldN 6 rfl rfl rfl ?_)
  refine any_call 3 rfl rfl (cloneSO_spec h1) fun r1 H1 B hl1 ⟨eB, eH⟩ => ?_
  subst eB eH
  refine ⟨(by (repeat (first | exact Sub.refl _ | exact Sub.nil _ | (apply sub_pick; (repeat (first | exact Has.here | apply Has.there)); skip) | apply Sub.drop))), ?_⟩
  (first | refine any_p 8 rfl rfl ?_ | refine any_ld 8 rfl rfl rfl ?_ | refine any_ldN 8 rfl rfl rfl ?_); (first | refine any_p 9 rfl rfl ?_ | refine any_ld 9 rfl rfl rfl ?_ | refine any_ldN 9 rfl rfl rfl ?_)
  refine any_call 7 rfl rfl (cloneSO_spec h2) fun r2 H2 B hl2 ⟨eB, eH⟩ => ?_
  subst eB eH
  refine ⟨(by (repeat (first | exact Sub.refl _ | exact Sub.nil _ | (apply sub_pick; (repeat (first | exact Has.here | apply Has.there)); skip) | apply Sub.drop))), ?_⟩
  refine any_rest rfl ?_
  refine ops_shape r1 fun d1 e1 e _ _ _ => ?_
  subst e
  refine ops_shape r2 fun d2 e2 e _ _ _ => ?_
  subst e
  refine walk ?_
  refine ops_call rfl rfl (cloneIO_spec h3) fun r3 H3 B hl3 ⟨eB, eH⟩ => ?_
  subst eB eH
  refine ops_shape r3 fun d3 e3 e _ _ _ => ?_
  subst e
  refine walk ?_
  refine ops_call rfl rfl (cloneIO_spec h4) fun r4 H4 B hl4 ⟨eB, eH⟩ => ?_
  subst eB eH
  refine ops_shape r4 fun d4 e4 e _ _ _ => ?_
  subst e
  refine walk ?_
  refine finB (ownM _ (d1, e1) (d2, e2) (d3, e3) (d4, e4) m ++ ownM _ s1 s2 s3 s4 m) ?_
  exact ⟨_, _, _, _, rfl, rfl, rfl⟩
theorem ownM_up {H H' : Heap} {s1 s2 s3 s4 : Option Addr × Nat} {m : Message} {L : List HProp} (hl : H.le H') : Sub (ownM H s1 s2 s3 s4 m ++ L) (ownM H' s1 s2 s3 s4 m ++ L) :=
  (ownS_up hl).trans (Sub.cons ((ownS_up hl).trans (Sub.cons ((ownS_up hl).trans (Sub.cons (ownS_up hl))))))
theorem sendO_spec {W0 : World} {H H0 : Heap} {p : Value} {s1 s2 s3 s4 : Option Addr × Nat} {ms : List Message} {m : Message} (hl : H0.le H) (hm : capM m) (hok : okM m) (hlt : ms.length < 64) :
    Ct Try.prog 9 #[p, .agg (cvM s1 s2 s3 s4 m).toArray] W0 H (netO H0 p ms :: ownM H s1 s2 s3 s4 m) (fun r H' B => r = I 0 ∧ B = netO H' p (ms ++ [m]) :: ownM H' s1 s2 s3 s4 m) := by
  refine Ct.go fun R => ?_
  refine ex_open .here (fun h => netO_open hl) fun ⟨b, base, cap⟩ ⟨hp, h1, h2, h3⟩ => ?_
  simp only at hp h1 h2 h3
  subst hp
  dsimp only
  obtain ⟨f1, f2, f3, ⟨f4, f5, f6⟩, f7, f8, f9, f10, f11, f12, f13, f14⟩ := hok
  refine walk ?_
  refine ops_box rfl rfl fun p1 _ => ?_
  refine walk ?_
  refine ex_any 9 [row b 65 [.slice base ms.length cap], row p1 42 (cvM s1 s2 s3 s4 m)] ?_
  (first | refine any_p 0 rfl rfl ?_ | refine any_ld 0 rfl rfl rfl ?_ | refine any_ldN 0 rfl rfl rfl ?_); (first | refine any_p 1 rfl rfl ?_ | refine any_ld 1 rfl rfl rfl ?_ | refine any_ldN 1 rfl rfl rfl ?_); (first | refine any_p 2 rfl rfl ?_ | refine any_ld 2 rfl rfl rfl ?_ | refine any_ldN 2 rfl rfl rfl ?_); (first | refine any_p 3 rfl rfl ?_ | refine any_ld 3 rfl rfl rfl ?_ | refine any_ldN 3 rfl rfl rfl ?_); (first | refine any_p 4 rfl rfl ?_ | refine any_ld 4 rfl rfl rfl ?_ | refine any_ldN 4 rfl rfl rfl ?_); (first | refine any_p 5 rfl rfl ?_ | refine any_ld 5 rfl rfl rfl ?_ | refine any_ldN 5 rfl rfl rfl ?_)
  refine any_call 6 rfl rfl (ownO_spec hm) fun r1 H1 B hl1 ⟨t1, t2, t3, t4, er, eB, eH⟩ => ?_
  subst er eB eH
  refine ⟨(by (repeat (first | exact Sub.refl _ | exact Sub.nil _ | (apply sub_pick; (repeat (first | exact Has.here | apply Has.there)); skip) | apply Sub.drop))), ?_⟩
  refine any_freeze (sl t1 m.Work.Take) fun H1 g1 q1 => ?_
  refine any_freeze (sl t2 m.Work.Drop) fun H2 g2 q2 => ?_
  refine any_freeze (sl t3 m.Call.Route.Cells) fun H3 g3 q3 => ?_
  refine any_freeze (sl t4 m.Reply.Route.Cells) fun H4 g4 q4 => ?_
  refine any_app1 7 8 (y := m) rfl rfl rfl ⟨_, _, _, _, rfl, f1, f2, f3, f4, f5, f6, f7, q1.mono (g2.trans (g3.trans g4)), q2.mono (g3.trans g4), f8, f9, f10, f11, q3.mono g4, f12, f13, f14, q4⟩ (by simp only [cap47]; omega) fun b2 c2 => ⟨(by (repeat (first | exact Sub.refl _ | exact Sub.nil _ | (apply sub_pick; (repeat (first | exact Has.here | apply Has.there)); skip) | apply Sub.drop))), ?_⟩
  refine any_rest rfl ?_
  refine walk ?_
  refine finB (netO H4 (.pointer (some ⟨b, 0, none⟩)) (ms ++ [m]) :: ownM H4 s1 s2 s3 s4 m) ?_ (hs := ?_)
  · exact ⟨rfl, rfl⟩
  · refine Sub.trans ?_ (Sub.cons (ownM_up (g1.trans (g2.trans (g3.trans g4)))))
    refine Sub.trans ?_ (netO_shut' (s := .slice b2 (ms.length + 1) c2))
    (repeat (first | exact Sub.refl _ | exact Sub.nil _ | (apply sub_pick; (repeat (first | exact Has.here | apply Has.there)); skip) | apply Sub.drop))
theorem spoil_spec {W0 : World} {H HS : Heap} {s1 s2 s3 s4 : Option Addr × Nat} {m : Message} :
    Ct Try.prog 14 #[.agg (cvM s1 s2 s3 s4 m).toArray] W0 H (ownM HS s1 s2 s3 s4 m) (fun r H' B => B = [] ∧ H' = H) := by
  refine Ct.go fun R => ?_
  have hq : rStr HS [.string ⟨#[63]⟩] ⟨#[63]⟩ := ⟨rfl, by decide⟩
  have hi1 : rInt HS [I (-1)] (-1) := ⟨rfl, by unfold fits; omega⟩
  have hi2 : rInt HS [I (-2)] (-2) := ⟨rfl, by unfold fits; omega⟩
  refine ex_shape (sl s1 m.Work.Take) fun _ _ _ q1 q1' _ => ?_
  refine ex_shape (sl s2 m.Work.Drop) fun _ _ _ q2 q2' _ => ?_
  refine ex_shape (sl s3 m.Call.Route.Cells) fun _ _ _ q3 q3' _ => ?_
  refine ex_shape (sl s4 m.Reply.Route.Cells) fun _ _ _ q4 q4' _ => ?_
  refine walk ?_
  refine ops_box rfl rfl fun p1 _ => ?_
  refine walk ?_
  refine ex_loop (σ := Nat × List ByteArray) (fun s => s.1 ≤ m.Work.Take.length ∧ s.2.length = m.Work.Take.length) (fun s => [(1, .pointer (some ⟨p1, 0, none⟩)), (9, I m.Work.Take.length), (10, I s.1)]) (fun _ => H) (fun s => ownS rStr 1 16 9 HS (sl s1 m.Work.Take) s.2 :: ownS rStr 1 16 9 HS (sl s2 m.Work.Drop) m.Work.Drop :: ownS rInt 1 8 3 HS (sl s3 m.Call.Route.Cells) m.Call.Route.Cells :: ownS rInt 1 8 3 HS (sl s4 m.Reply.Route.Cells) m.Reply.Route.Cells :: row p1 42 (cvM s1 s2 s3 s4 m) :: R) (fun s => m.Work.Take.length - s.1) (0, m.Work.Take) ⟨Nat.zero_le _, rfl⟩ fun ⟨k, ws⟩ ⟨hk0, hws⟩ K hL => ?_
  simp only at hk0 hws
  dsimp only
  refine walk ?_
  refine ex_if rfl (fun hk => ?_) (fun hk => ?_)
  · refine walk ?_
    refine ops_stS rfl rfl rfl hq (by omega : k < ws.length) ?_
    refine walk ?_
    exact out_next hL (k + 1, ws.set k ⟨#[63]⟩) ⟨by simp only; omega, by simpa using hws⟩
  clear hL hk
  refine walk ?_
  refine ex_loop (σ := Nat × List ByteArray) (fun s => s.1 ≤ m.Work.Drop.length ∧ s.2.length = m.Work.Drop.length) (fun s => [(1, .pointer (some ⟨p1, 0, none⟩)), (22, I m.Work.Drop.length), (23, I s.1)]) (fun _ => H) (fun s => ownS rStr 1 16 9 HS (sl s2 m.Work.Drop) s.2 :: ownS rInt 1 8 3 HS (sl s3 m.Call.Route.Cells) m.Call.Route.Cells :: ownS rInt 1 8 3 HS (sl s4 m.Reply.Route.Cells) m.Reply.Route.Cells :: row p1 42 (cvM s1 s2 s3 s4 m) :: R) (fun s => m.Work.Drop.length - s.1) (0, m.Work.Drop) ⟨Nat.zero_le _, rfl⟩ fun ⟨k, ws⟩ ⟨hk0, hws⟩ K hL => ?_
  simp only at hk0 hws
  dsimp only
  refine walk ?_
  refine ex_if rfl (fun hk => ?_) (fun hk => ?_)
  · refine walk ?_
    refine ops_stS rfl rfl rfl hq (by omega : k < ws.length) ?_
    refine walk ?_
    exact out_next hL (k + 1, ws.set k ⟨#[63]⟩) ⟨by simp only; omega, by simpa using hws⟩
  clear hL hk
  refine walk ?_
  refine ex_loop (σ := Nat × List Int) (fun s => s.1 ≤ m.Call.Route.Cells.length ∧ s.2.length = m.Call.Route.Cells.length) (fun s => [(1, .pointer (some ⟨p1, 0, none⟩)), (36, I m.Call.Route.Cells.length), (37, I s.1)]) (fun _ => H) (fun s => ownS rInt 1 8 3 HS (sl s3 m.Call.Route.Cells) s.2 :: ownS rInt 1 8 3 HS (sl s4 m.Reply.Route.Cells) m.Reply.Route.Cells :: row p1 42 (cvM s1 s2 s3 s4 m) :: R) (fun s => m.Call.Route.Cells.length - s.1) (0, m.Call.Route.Cells) ⟨Nat.zero_le _, rfl⟩ fun ⟨k, ws⟩ ⟨hk0, hws⟩ K hL => ?_
  simp only at hk0 hws
  dsimp only
  refine walk ?_
  refine ex_if rfl (fun hk => ?_) (fun hk => ?_)
  · refine walk ?_
    refine ops_stS rfl rfl rfl hi1 (by omega : k < ws.length) ?_
    refine walk ?_
    exact out_next hL (k + 1, ws.set k (-1)) ⟨by simp only; omega, by simpa using hws⟩
  clear hL hk
  refine walk ?_
  refine ex_loop (σ := Nat × List Int) (fun s => s.1 ≤ m.Reply.Route.Cells.length ∧ s.2.length = m.Reply.Route.Cells.length) (fun s => [(1, .pointer (some ⟨p1, 0, none⟩)), (51, I m.Reply.Route.Cells.length), (52, I s.1)]) (fun _ => H) (fun s => ownS rInt 1 8 3 HS (sl s4 m.Reply.Route.Cells) s.2 :: row p1 42 (cvM s1 s2 s3 s4 m) :: R) (fun s => m.Reply.Route.Cells.length - s.1) (0, m.Reply.Route.Cells) ⟨Nat.zero_le _, rfl⟩ fun ⟨k, ws⟩ ⟨hk0, hws⟩ K hL => ?_
  simp only at hk0 hws
  dsimp only
  refine walk ?_
  refine ex_if rfl (fun hk => ?_) (fun hk => ?_)
  · refine walk ?_
    refine ops_stS rfl rfl rfl hi2 (by omega : k < ws.length) ?_
    refine walk ?_
    exact out_next hL (k + 1, ws.set k (-2)) ⟨by simp only; omega, by simpa using hws⟩
  clear hL hk
  refine walk ?_
  refine endn0 ?_
  exact ⟨rfl, rfl⟩
def toM (n : Int) : Message := { zMessage with To := n }
theorem toM_reads {H : Heap} {n : Int} (h : fits n) : rMessage H [I 0, I n, I 0, I 0, I 0, I 0, I 0, nilS, nilS, .bool false, I 0, I 0, I 0, I 0, nilS, I 0, I 0, I 0, nilS] (toM n) :=
  ⟨nilS, nilS, nilS, nilS, rfl, fits0, h, fits0, fits0, fits0, fits0, fits0, SlB.nil, SlB.nil, fits0, fits0, fits0, fits0, SlB.nil, fits0, fits0, fits0, SlB.nil⟩
theorem awake_spec {W0 : World} {H : Heap} : Ct Try.prog 8 #[] W0 H [] (fun r H' B => r = .bool true ∧ B = []) := by
  refine Ct.go (vs := []) fun R => ?_
  refine walk ?_
  refine ops_call (vs := []) rfl rfl new_spec fun r1 H1 B hl1 ⟨eB, eH⟩ => ?_
  subst eB eH
  refine ops_know .here (fun h => netO_ptr) fun ⟨b, e⟩ => ?_
  subst e
  refine walk ?_
  refine ops_call rfl rfl (send_yes (ms := []) (.refl _) (toM_reads (n := 1) (by unfold fits; omega)) (by simp)) fun r2 H2 B hl2 ⟨er, eB⟩ => ?_
  subst er eB
  refine walk ?_
  refine ops_call rfl rfl (send_yes (ms := [toM 1]) (.refl _) (toM_reads (n := 2) (by unfold fits; omega)) (by simp)) fun r3 H3 B hl3 ⟨er, eB⟩ => ?_
  subst er eB
  refine walk ?_
  refine ops_call rfl rfl (len_spec (ms := [toM 1, toM 2]) (.refl _)) fun r4 H4 B hl4 ⟨er, eB, eH⟩ => ?_
  subst er eB eH
  simp only [List.nil_append, List.cons_append, List.length_cons, List.length_nil]
  refine walk ?_
  refine ops_call rfl rfl (deliver_yes (ms := [toM 1, toM 2]) (j := 1) (.refl _) (by simp)) fun r5 H5 B hl5 ⟨⟨t1, t2, t3, t4, er, eB⟩, eH⟩ => ?_
  subst er eB eH
  refine walk ?_
  refine ops_alloc rfl fun p1 _ => ?_
  refine walk ?_
  refine ops_call rfl rfl (deliver_no (ms := del [toM 1, toM 2] 1) (i := 1) (.refl _) (by simp [inR, del])) fun r6 H6 B hl6 ⟨⟨u1, u2, u3, u4, er, eB⟩, eH⟩ => ?_
  subst er eB eH
  refine walk ?_
  refine ops_alloc rfl fun p2 _ => ?_
  simp only [List.getElem_cons_succ, List.getElem_cons_zero, toM]
  refine walk ?_
  refine fin0 ?_
  exact ⟨rfl, rfl⟩
end Go.Proofs.Ytlbpaokehdiinaa
