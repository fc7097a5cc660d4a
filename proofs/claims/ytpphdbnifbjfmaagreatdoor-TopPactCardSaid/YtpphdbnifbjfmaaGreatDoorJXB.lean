/- The net of a world. -/
import Derived.Test.YtpphdbnifbjfmaaGreatDoorJKC
import Derived.Test.YtpphdbnifbjfmaaGreatDoorJKD
import Derived.Test.YtpphdbnifbjfmaaGreatDoorJLP
set_option linter.unusedVariables false
set_option linter.unusedSimpArgs false
namespace Go.Proofs.YtpphdbnifbjfmaaGreatDoor.Net
open Go Go.Sx Go.Proofs
theorem cloneS_spec {W0 : World} {H : Heap} {v : Value} {xs : List ByteArray} (h0 : SlB rStr 1 16 H v xs) :
    Ct Tryz.prog 26 #[v] W0 H [] (fun r H' B => B = [ownS rStr 1 16 9 H r xs] ∧ H' = H) := by
  refine Ct.go fun R => ?_
  obtain ⟨b0, c0, rfl, hc0, hd0⟩ := h0.1.shape
  refine walk ?_
  refine ex_if rfl (fun h => ?_) (fun h => ?_)
  · subst h
    refine walk ?_
    obtain rfl : xs = [] := by
      obtain ⟨⟨cs, ⟨b, c, e, _, hl, _, h⟩, _⟩, _⟩ := h0
      cases e
      rcases h with h | ⟨b, off, h, _⟩
      · exact List.eq_nil_of_length_eq_zero h
      · cases h
    refine finB [ownS rStr 1 16 9 H (.slice none 0 0) []] ?_ (hs := ownS_nil)
    exact ⟨rfl, rfl⟩
  · refine walk ?_
    refine ops_mk0 (w := 16) rStr rfl fun b => ?_
    refine walk ?_
    refine ops_appS rfl rfl h0.1 (by simpa using h0.2) fun base cap => ?_
    refine walk ?_
    refine finB [_] ?_
    exact ⟨rfl, rfl⟩
theorem cloneI_spec {W0 : World} {H : Heap} {v : Value} {xs : List Int} (h0 : SlB rInt 1 8 H v xs) :
    Ct Tryz.prog 27 #[v] W0 H [] (fun r H' B => B = [ownS rInt 1 8 3 H r xs] ∧ H' = H) := by
  refine Ct.go fun R => ?_
  obtain ⟨b0, c0, rfl, hc0, hd0⟩ := h0.1.shape
  refine walk ?_
  refine ex_if rfl (fun h => ?_) (fun h => ?_)
  · subst h
    refine walk ?_
    obtain rfl : xs = [] := by
      obtain ⟨⟨cs, ⟨b, c, e, _, hl, _, h⟩, _⟩, _⟩ := h0
      cases e
      rcases h with h | ⟨b, off, h, _⟩
      · exact List.eq_nil_of_length_eq_zero h
      · cases h
    refine finB [ownS rInt 1 8 3 H (.slice none 0 0) []] ?_ (hs := ownS_nil)
    exact ⟨rfl, rfl⟩
  · refine walk ?_
    refine ops_mk0 (w := 8) rInt rfl fun b => ?_
    refine walk ?_
    refine ops_appS rfl rfl h0.1 (by simpa using h0.2) fun base cap => ?_
    refine walk ?_
    refine finB [_] ?_
    exact ⟨rfl, rfl⟩
abbrev sl (x : Option Addr × Nat) {α : Type} (l : List α) : Value := .slice x.1 l.length x.2
abbrev ownM (H : Heap) (s1 s2 s3 s4 : Option Addr × Nat) (m : Message) : List HProp :=
  [ownS rStr 1 16 9 H (sl s1 m.Work.Take) m.Work.Take, ownS rStr 1 16 9 H (sl s2 m.Work.Drop) m.Work.Drop, ownS rInt 1 8 3 H (sl s3 m.Call.Route.Cells) m.Call.Route.Cells, ownS rInt 1 8 3 H (sl s4 m.Reply.Route.Cells) m.Reply.Route.Cells]
abbrev cvM (s1 s2 s3 s4 : Option Addr × Nat) (m : Message) : List Value := m.cv (sl s1 m.Work.Take) (sl s2 m.Work.Drop) (sl s3 m.Call.Route.Cells) (sl s4 m.Reply.Route.Cells)
def okM (m : Message) : Prop := fits m.From ∧ fits m.To ∧ fits m.Kind ∧ (fits m.Txn.Node ∧ fits m.Txn.Life ∧ fits m.Txn.Count) ∧ fits m.Work.Robot ∧ fits m.ID ∧ fits m.Call.Verb ∧ fits m.Call.Epoch ∧ fits m.Call.Route.Start ∧ fits m.Reply.Code ∧ fits m.Reply.Epoch ∧ fits m.Reply.Route.Start
theorem own_spec {W0 : World} {H : Heap} {c : List Value} {m : Message} (h0 : rMessage H c m) :
    Ct Tryz.prog 49 #[.agg c.toArray] W0 H [] (fun r H' B => ∃ s1 s2 s3 s4, r = .agg (cvM s1 s2 s3 s4 m).toArray ∧ B = ownM H s1 s2 s3 s4 m ∧ H' = H) := by
  refine Ct.go fun R => ?_
  obtain ⟨s1, s2, s3, s4, rfl, f1, f2, f3, f4, f5, f6, f7, h1, h2, f8, f9, f10, f11, h3, f12, f13, f14, h4⟩ := h0
  refine walk ?_
  refine ops_box rfl rfl fun p1 _ => ?_
  refine ops_alloc rfl fun p2 _ => ?_
  refine walk ?_
  refine ex_any 10 [row p1 81 (m.cv s1 s2 s3 s4)] ?_
  (first | refine any_p 0 rfl rfl ?_ | refine any_ld 0 rfl rfl rfl ?_ | refine any_ldN 0 rfl rfl rfl ?_); (first | refine any_p 1 rfl rfl ?_ | refine any_ld 1 rfl rfl rfl ?_ | refine any_ldN 1 rfl rfl rfl ?_); (first | refine any_p 2 rfl rfl ?_ | refine any_ld 2 rfl rfl rfl ?_ | refine any_ldN 2 rfl rfl rfl ?_); (first | refine any_p 4 rfl rfl ?_ | refine any_ld 4 rfl rfl rfl ?_ | refine any_ldN 4 rfl rfl rfl ?_); (first | refine any_p 5 rfl rfl ?_ | refine any_ld 5 rfl rfl rfl ?_ | refine any_ldN 5 rfl rfl rfl ?_); (first | refine any_p 6 rfl rfl ?_ | refine any_ld 6 rfl rfl rfl ?_ | refine any_ldN 6 rfl rfl rfl ?_)
  refine any_call 3 rfl rfl (cloneS_spec h1) fun r1 H1 B hl1 ⟨eB, eH⟩ => ?_
  subst eB eH
  refine ⟨subA, ?_⟩
  (first | refine any_p 8 rfl rfl ?_ | refine any_ld 8 rfl rfl rfl ?_ | refine any_ldN 8 rfl rfl rfl ?_); (first | refine any_p 9 rfl rfl ?_ | refine any_ld 9 rfl rfl rfl ?_ | refine any_ldN 9 rfl rfl rfl ?_)
  refine any_call 7 rfl rfl (cloneS_spec h2) fun r2 H2 B hl2 ⟨eB, eH⟩ => ?_
  subst eB eH
  refine ⟨subA, ?_⟩
  refine any_rest rfl ?_
  refine ops_shape r1 fun d1 e1 e _ _ _ => ?_
  subst e
  refine ops_shape r2 fun d2 e2 e _ _ _ => ?_
  subst e
  refine walk ?_
  refine ops_call rfl rfl (cloneI_spec h3) fun r3 H3 B hl3 ⟨eB, eH⟩ => ?_
  subst eB eH
  refine ops_shape r3 fun d3 e3 e _ _ _ => ?_
  subst e
  refine walk ?_
  refine ops_call rfl rfl (cloneI_spec h4) fun r4 H4 B hl4 ⟨eB, eH⟩ => ?_
  subst eB eH
  refine ops_shape r4 fun d4 e4 e _ _ _ => ?_
  subst e
  refine walk ?_
  refine finB (ownM _ (d1, e1) (d2, e2) (d3, e3) (d4, e4) m) ?_
  exact ⟨_, _, _, _, rfl, rfl, rfl⟩
def netO (H : Heap) (p : Value) (ms : List Message) : HProp := fun h => ∃ b s, p = .pointer (some ⟨b, 0, none⟩) ∧ big [row b 102 [s], ownS rMessage 19 216 81 H s ms] h
theorem netO_open {H H' : Heap} {p : Value} {ms : List Message} {h : Heap} (hl : H.le H') (ho : netO H p ms h) : ∃ x : Nat × Option Addr × Nat, (p = .pointer (some ⟨x.1, 0, none⟩) ∧ ms.length ≤ x.2.2 ∧ x.2.2 ≤ 9223372036854775807 ∧ ms.length * 216 ≤ cap47) ∧
    big [row x.1 102 [.slice x.2.1 ms.length x.2.2], ownS rMessage 19 216 81 H' (.slice x.2.1 ms.length x.2.2) ms] h := by
  obtain ⟨b, s, hp, hb⟩ := ho
  obtain ⟨h1, h2, a, ⟨h3, h4, c, d, e, l1, l2⟩, f, l3, l4⟩ := hb
  obtain ⟨base, cap, rfl, k1, k2⟩ := ownS_shape c
  refine ⟨(b, base, cap), ⟨hp, k1, k2, ownS_small c⟩, h1, h2, a, ⟨h3, h4, ?_, d, e, l1, l2⟩, f, l3, l4⟩
  obtain ⟨cs, ⟨u, v⟩, w⟩ := c
  exact ⟨cs, ⟨u.mono hl, v⟩, w⟩
theorem netO_shut {H : Heap} {b : Nat} {s : Value} {ms : List Message} {L : List HProp} : Sub (row b 102 [s] :: ownS rMessage 19 216 81 H s ms :: L) (netO H (.pointer (some ⟨b, 0, none⟩)) ms :: L) :=
  sub_shut (B := [row b 102 [s], ownS rMessage 19 216 81 H s ms]) fun x hx => ⟨b, s, rfl, hx⟩
theorem netO_shut' {H : Heap} {b : Nat} {s : Value} {ms : List Message} {L : List HProp} : Sub (ownS rMessage 19 216 81 H s ms :: row b 102 [s] :: L) (netO H (.pointer (some ⟨b, 0, none⟩)) ms :: L) :=
  Sub.trans (fun _ => big_swap) netO_shut
theorem new_spec {W0 : World} {H : Heap} : Ct Tryz.prog 11 #[] W0 H [] (fun r H' B => B = [netO H r []] ∧ H' = H) := by
  refine Ct.go (vs := []) fun R => ?_
  refine walk ?_
  refine ops_box rfl rfl fun b _ => ?_
  refine walk ?_
  refine finB [netO H (.pointer (some ⟨b, 0, none⟩)) []] ?_ (hs := (ownS_nil.trans netO_shut'))
  exact ⟨rfl, rfl⟩
theorem len_spec {W0 : World} {H H0 : Heap} {p : Value} {ms : List Message} (hl : H0.le H) : Ct Tryz.prog 24 #[p] W0 H [netO H0 p ms] (fun r H' B => r = I ms.length ∧ B = [netO H p ms] ∧ H' = H) := by
  refine Ct.go fun R => ?_
  refine ex_open .here (fun h => netO_open hl) fun ⟨b, base, cap⟩ ⟨hp, h1, h2, h3⟩ => ?_
  simp only at hp h1 h2 h3
  subst hp
  dsimp only
  refine walk ?_
  refine finB [netO H (.pointer (some ⟨b, 0, none⟩)) ms] ?_ (hs := netO_shut)
  exact ⟨rfl, rfl, rfl⟩
theorem send_yes {W0 : World} {H H0 : Heap} {p : Value} {c : List Value} {ms : List Message} {m : Message} (hl : H0.le H) (h0 : rMessage H c m) (hlt : ms.length < 64) :
    Ct Tryz.prog 33 #[p, .agg c.toArray] W0 H [netO H0 p ms] (fun r H' B => r = I 0 ∧ B = [netO H' p (ms ++ [m])]) := by
  refine Ct.go fun R => ?_
  refine ex_open .here (fun h => netO_open hl) fun ⟨b, base, cap⟩ ⟨hp, h1, h2, h3⟩ => ?_
  simp only at hp h1 h2 h3
  subst hp
  dsimp only
  refine walk ?_
  have hc := h0
  obtain ⟨s1, s2, s3, s4, rfl, f1, f2, f3, f4, f5, f6, f7, k1, k2, f8, f9, f10, f11, k3, f12, f13, f14, k4⟩ := h0
  refine ops_box rfl rfl fun p1 _ => ?_
  refine walk ?_
  refine ex_any 9 [row b 102 [.slice base ms.length cap], row p1 81 (m.cv s1 s2 s3 s4)] ?_
  (first | refine any_p 0 rfl rfl ?_ | refine any_ld 0 rfl rfl rfl ?_ | refine any_ldN 0 rfl rfl rfl ?_); (first | refine any_p 1 rfl rfl ?_ | refine any_ld 1 rfl rfl rfl ?_ | refine any_ldN 1 rfl rfl rfl ?_); (first | refine any_p 2 rfl rfl ?_ | refine any_ld 2 rfl rfl rfl ?_ | refine any_ldN 2 rfl rfl rfl ?_); (first | refine any_p 3 rfl rfl ?_ | refine any_ld 3 rfl rfl rfl ?_ | refine any_ldN 3 rfl rfl rfl ?_); (first | refine any_p 4 rfl rfl ?_ | refine any_ld 4 rfl rfl rfl ?_ | refine any_ldN 4 rfl rfl rfl ?_); (first | refine any_p 5 rfl rfl ?_ | refine any_ld 5 rfl rfl rfl ?_ | refine any_ldN 5 rfl rfl rfl ?_)
  refine any_call 6 rfl rfl (own_spec hc) fun r1 H1 B hl1 ⟨t1, t2, t3, t4, er, eB, eH⟩ => ?_
  subst er eB eH
  refine ⟨subA, ?_⟩
  refine any_freeze (sl t1 m.Work.Take) fun H1 g1 q1 => ?_
  refine any_freeze (sl t2 m.Work.Drop) fun H2 g2 q2 => ?_
  refine any_freeze (sl t3 m.Call.Route.Cells) fun H3 g3 q3 => ?_
  refine any_freeze (sl t4 m.Reply.Route.Cells) fun H4 g4 q4 => ?_
  refine any_app1 7 8 (y := m) rfl rfl rfl ⟨_, _, _, _, rfl, f1, f2, f3, f4, f5, f6, f7, q1.mono (g2.trans (g3.trans g4)), q2.mono (g3.trans g4), f8, f9, f10, f11, q3.mono g4, f12, f13, f14, q4⟩ (by simp only [cap47]; omega) fun b2 c2 => ⟨subA, ?_⟩
  refine any_rest rfl ?_
  refine walk ?_
  refine finB [netO H4 (.pointer (some ⟨b, 0, none⟩)) (ms ++ [m])] ?_ (hs := (fun _ h => netO_shut' _ (Sub.cons subA _ h)))
  exact ⟨rfl, rfl⟩
theorem send_no {W0 : World} {H H0 : Heap} {p : Value} {c : List Value} {ms : List Message} {m : Message} (hl : H0.le H) (h0 : rMessage H c m) (hlt : ¬ ms.length < 64) :
    Ct Tryz.prog 33 #[p, .agg c.toArray] W0 H [netO H0 p ms] (fun r H' B => r = I 5 ∧ B = [netO H p ms] ∧ H' = H) := by
  refine Ct.go fun R => ?_
  refine ex_open .here (fun h => netO_open hl) fun ⟨b, base, cap⟩ ⟨hp, h1, h2, h3⟩ => ?_
  simp only at hp h1 h2 h3
  subst hp
  dsimp only
  refine walk ?_
  refine ops_box rfl rfl fun p1 _ => ?_
  refine walk ?_
  refine finB [netO H (.pointer (some ⟨b, 0, none⟩)) ms] ?_ (hs := (fun _ h => netO_shut _ (Sub.drop (Sub.refl _) _ h)))
  exact ⟨rfl, rfl, rfl⟩
def msgPost (H' : Heap) (m : Message) (v : Value) (b : List HProp) (r : Value) (B : List HProp) : Prop := ∃ s1 s2 s3 s4, r = .tuple #[.agg (cvM s1 s2 s3 s4 m).toArray, v] ∧ B = ownM H' s1 s2 s3 s4 m ++ b
abbrev nl : Option Addr × Nat := (none, 0)
def inR (ms : List Message) (i : Int) : Prop := 0 ≤ i ∧ i < ms.length
theorem ownM_zero {H : Heap} {L : List HProp} : Sub L (ownM H nl nl nl nl zMessage ++ L) := ((ownS_nil.trans (Sub.cons ownS_nil)).trans (Sub.cons (Sub.cons ownS_nil))).trans (Sub.cons (Sub.cons (Sub.cons ownS_nil)))
theorem at_no {W0 : World} {H H0 : Heap} {p : Value} {ms : List Message} {i : Int} (hl : H0.le H) (hi : ¬ inR ms i) :
    Ct Tryz.prog 34 #[p, I i] W0 H [netO H0 p ms] (fun r H' B => msgPost H zMessage (.bool false) [netO H p ms] r B ∧ H' = H) := by
  refine Ct.go fun R => ?_
  refine ex_open .here (fun h => netO_open hl) fun ⟨b, base, cap⟩ ⟨hp, h1, h2, h3⟩ => ?_
  simp only at hp h1 h2 h3
  subst hp
  dsimp only
  unfold inR at hi
  refine walk ?_
  refine ops_alloc rfl fun p1 _ => ?_
  by_cases h0 : i < 0
  all_goals
    refine walk ?_
    refine finB (ownM H nl nl nl nl zMessage ++ [netO H (.pointer (some ⟨b, 0, none⟩)) ms]) ?_ (hs := (fun _ h => ?_))
    · exact ⟨⟨_, _, _, _, rfl, rfl⟩, rfl⟩
    · rw [List.append_assoc]; exact ownM_zero _ (netO_shut _ (Sub.drop (Sub.refl _) _ h))
theorem at_yes {W0 : World} {H H0 : Heap} {p : Value} {ms : List Message} {j : Nat} (hl : H0.le H) (hj : j < ms.length) :
    Ct Tryz.prog 34 #[p, I j] W0 H [netO H0 p ms] (fun r H' B => msgPost H ms[j] (.bool true) [netO H p ms] r B ∧ H' = H) := by
  refine Ct.go fun R => ?_
  refine ex_open .here (fun h => netO_open hl) fun ⟨b, base, cap⟩ ⟨hp, h1, h2, h3⟩ => ?_
  simp only at hp h1 h2 h3
  subst hp
  dsimp only
  refine walk ?_
  refine ops_alloc rfl fun p1 _ => ?_
  refine walk ?_
  refine ops_ixo rfl rfl rfl hj fun c hc => ?_
  refine ops_call rfl rfl (own_spec hc) fun r1 H1 B hl1 ⟨t1, t2, t3, t4, er, eB, eH⟩ => ?_
  subst er eB eH
  refine walk ?_
  refine finB (ownM H1 t1 t2 t3 t4 ms[j] ++ [netO H1 (.pointer (some ⟨b, 0, none⟩)) ms]) ?_ (hs := (fun _ h => ?_))
  · exact ⟨⟨_, _, _, _, rfl, rfl⟩, rfl⟩
  · rw [List.append_assoc]; exact (Sub.cons (Sub.cons (Sub.cons (Sub.cons ((Sub.drop (Sub.refl _)).trans netO_shut))))) _ h
theorem delete_spec {W0 : World} {H : Heap} {b n cap k : Nat} {cs sp : List Value} (hk : k < n) (h1 : n ≤ cap) (h2 : cap ≤ 9223372036854775807) (h3 : cs.length = n * 19) (h4 : (cs ++ sp).length = cap * 19) (h5 : cs.all (·.oneCell') = true) :
    Ct Tryz.prog 35 #[.slice (some ⟨b, 0, none⟩) n cap, I k, I (k + 1 : Int)] W0 H [row b 81 (cs ++ sp)]
      (fun r H' B => r = .slice (some ⟨b, 0, none⟩) (n - 1) cap ∧ B = [own 81 19 (.slice (some ⟨b, 0, none⟩) (n - 1) cap) (n - 1) (cs.take (k * 19) ++ cs.drop ((k + 1) * 19))] ∧ H' = H) := by
  refine Ct.go fun R => ?_
  have hspl : sp.length = cap * 19 - n * 19 := by rw [List.length_append] at h4; omega
  have hfin : ∀ zs : List Value, zs.length = 19 → Sub (row b 81 (cs.take (k * 19) ++ cs.drop ((k + 1) * 19) ++ zs ++ sp) :: R) ([own 81 19 (.slice (some ⟨b, 0, none⟩) (n - 1) cap) (n - 1) (cs.take (k * 19) ++ cs.drop ((k + 1) * 19))] ++ R) := by
    intro zs hz
    rw [List.append_assoc]
    refine own_shut ?_ (by omega) h2 ?_
    · rw [List.length_append, List.length_take, List.length_drop, h3]; omega
    · simp only [List.length_append, List.length_take, List.length_drop, h3, hz, hspl]; omega
  by_cases hlast : k + 1 < cap
  · refine walk ?_
    refine ex_any 6 [] ?_
    (first | refine any_p 0 rfl rfl ?_ | refine any_ld 0 rfl rfl rfl ?_ | refine any_ldN 0 rfl rfl rfl ?_); (first | refine any_p 1 rfl rfl ?_ | refine any_ld 1 rfl rfl rfl ?_ | refine any_ldN 1 rfl rfl rfl ?_); (first | refine any_p 2 rfl rfl ?_ | refine any_ld 2 rfl rfl rfl ?_ | refine any_ldN 2 rfl rfl rfl ?_); (first | refine any_p 3 rfl rfl ?_ | refine any_ld 3 rfl rfl rfl ?_ | refine any_ldN 3 rfl rfl rfl ?_); (first | refine any_p 4 rfl rfl ?_ | refine any_ld 4 rfl rfl rfl ?_ | refine any_ldN 4 rfl rfl rfl ?_); (first | refine any_p 5 rfl rfl ?_ | refine any_ld 5 rfl rfl rfl ?_ | refine any_ldN 5 rfl rfl rfl ?_)
    refine any_rest rfl ?_
    refine ops_w rfl rfl (op_appendIn (m := k) (k := n - (k + 1)) (mk := n - 1) (cs' := cs.take (k * 19) ++ cs.drop ((k + 1) * 19) ++ cs.drop ((n - 1) * 19) ++ sp) (news := cs.drop ((k + 1) * 19)) rfl rfl (by repeat (first | exact Has.here | apply Has.there)) (src_row (sz := 19) (c := cap - (k + 1)) (by repeat (first | exact Has.here | apply Has.there)) (off := 0 + (k + 1) * 19) (fun j v hj => ?_) ?_ ?_) (by omega) ?_ (by omega) ?_ ?_)
    · rw [List.getElem?_drop] at hj
      rw [Nat.zero_add, List.getElem?_append_left (List.getElem?_eq_some_iff.1 hj).1]; exact hj
    · rw [List.length_drop, h3]; omega
    · simp only [List.all_eq_true] at h5 ⊢; exact fun x hx => h5 x (List.mem_of_mem_drop hx)
    · rw [List.length_drop, h3, Nat.zero_add, List.take_append_of_le_length (by omega), List.drop_append_of_le_length (by omega), ← List.append_assoc]
      congr 3
      omega
    · rw [List.length_drop, List.length_append, h3]; omega
    refine walk ?_
    refine ops_n (op_clear (m := 1) (cap := cap - (n - 1)) (off := 0 + (n - 1) * 19) (congrArg (fun z => some (Value.slice (some ⟨b, 0 + (n - 1) * 19, none⟩) z (cap - (n - 1)))) (show n - (n - 1) = 1 by omega)) (by repeat (first | exact Has.here | apply Has.there)) ?_ (by decide +kernel) fun zs hz => ?_)
    · simp only [List.length_append, List.length_take, List.length_drop, h3, hspl]; omega
    refine walk ?_
    refine finB [own 81 19 (.slice (some ⟨b, 0, none⟩) (n - 1) cap) (n - 1) (cs.take (k * 19) ++ cs.drop ((k + 1) * 19))] ?_ (hs := ?_)
    · exact ⟨rfl, rfl, rfl⟩
    refine Sub.trans ?_ (hfin zs hz)
    have e : (cs.take (k * 19) ++ cs.drop ((k + 1) * 19)).length = (n - 1) * 19 := by rw [List.length_append, List.length_take, List.length_drop, h3]; omega
    have e2 : (cs.drop ((n - 1) * 19)).length = 19 := by rw [List.length_drop, h3]; omega
    rw [show (cs.take (k * 19) ++ cs.drop ((k + 1) * 19) ++ cs.drop ((n - 1) * 19) ++ sp).take (0 + (n - 1) * 19) = cs.take (k * 19) ++ cs.drop ((k + 1) * 19) by
        rw [Nat.zero_add, ← e, List.append_assoc, List.take_left],
      show (cs.take (k * 19) ++ cs.drop ((k + 1) * 19) ++ cs.drop ((n - 1) * 19) ++ sp).drop (0 + (n - 1) * 19 + 1 * 19) = sp by
        rw [show 0 + (n - 1) * 19 + 1 * 19 = (cs.take (k * 19) ++ cs.drop ((k + 1) * 19) ++ cs.drop ((n - 1) * 19)).length by rw [List.length_append, e, e2]; omega, List.drop_left]]
    exact Sub.refl _
  · have hn : k + 1 = n := by omega
    have hc : n = cap := by omega
    subst hc
    subst hn
    refine walk ?_
    refine ex_any 6 [] ?_
    (first | refine any_p 0 rfl rfl ?_ | refine any_ld 0 rfl rfl rfl ?_ | refine any_ldN 0 rfl rfl rfl ?_); (first | refine any_p 1 rfl rfl ?_ | refine any_ld 1 rfl rfl rfl ?_ | refine any_ldN 1 rfl rfl rfl ?_); (first | refine any_p 2 rfl rfl ?_ | refine any_ld 2 rfl rfl rfl ?_ | refine any_ldN 2 rfl rfl rfl ?_); (first | refine any_p 3 rfl rfl ?_ | refine any_ld 3 rfl rfl rfl ?_ | refine any_ldN 3 rfl rfl rfl ?_); (first | refine any_p 4 rfl rfl ?_ | refine any_ld 4 rfl rfl rfl ?_ | refine any_ldN 4 rfl rfl rfl ?_)
    refine any_pure 5 rfl (op_slice (l := ((k : Int) + 1)) (h := ((k + 1 : Nat) : Int)) rfl rfl rfl (by omega) (by omega) (by omega)) ?_ (by decide +kernel) (fun _ _ _ h => h) (.refl _) subA rfl
    refine any_rest rfl ?_
    refine ops_w rfl rfl (op_appendIn (m := k) (k := 0) (mk := k) (cs' := cs ++ sp) (news := []) rfl (congrArg some (show slc (some ⟨b, 0, none⟩) (k + 1) (k + 1) (k + 1) 19 = .slice (some ⟨b, 0, none⟩) 0 0 by simp [slc])) (by repeat (first | exact Has.here | apply Has.there)) src_none rfl ?_ (by omega) ?_ ?_)
    · simp
    · simp only [List.length_nil, List.length_append, h3]; omega
    refine walk ?_
    refine ops_n (op_clear (m := 1) (cap := 1) (off := 0 + k * 19) (congrArg some (show Value.slice (some ⟨b, 0 + k * 19, none⟩) (k + 1 - k) (k + 1 - k) = .slice (some ⟨b, 0 + k * 19, none⟩) 1 1 by rw [show k + 1 - k = 1 by omega])) (by repeat (first | exact Has.here | apply Has.there)) ?_ (by decide +kernel) fun zs hz => ?_)
    · simp only [List.length_append, h3]; omega
    refine walk ?_
    refine finB [own 81 19 (.slice (some ⟨b, 0, none⟩) (k + 1 - 1) (k + 1)) (k + 1 - 1) (cs.take (k * 19) ++ cs.drop ((k + 1) * 19))] ?_ (hs := ?_)
    · exact ⟨rfl, rfl, rfl⟩
    refine Sub.trans ?_ (hfin zs hz)
    have e0 : sp = [] := List.eq_nil_of_length_eq_zero (by rw [hspl]; omega)
    subst e0
    have e1 : (cs ++ []).take (0 + k * 19) = cs.take (k * 19) := by simp
    have e2 : (cs ++ []).drop (0 + k * 19 + 1 * 19) = [] := List.drop_eq_nil_of_le (by simp [h3]; omega)
    have e3 : cs.drop ((k + 1) * 19) = [] := List.drop_eq_nil_of_le (by simp [h3])
    rw [e1, e2, e3]
    simp only [List.append_nil]
    exact Sub.refl _
def del (ms : List Message) (k : Nat) : List Message := ms.take k ++ ms.drop (k + 1)
theorem del_len {ms : List Message} {k : Nat} (hk : k < ms.length) : (del ms k).length = ms.length - 1 := by simp [del]; omega
theorem netO_ptr {H : Heap} {p : Value} {ms : List Message} {h : Heap} (ho : netO H p ms h) : ∃ b, p = .pointer (some ⟨b, 0, none⟩) := by obtain ⟨b, _, h, _⟩ := ho; exact ⟨b, h⟩
theorem deliver_no {W0 : World} {H H0 : Heap} {p : Value} {ms : List Message} {i : Int} (hl : H0.le H) (hi : ¬ inR ms i) :
    Ct Tryz.prog 17 #[p, I i] W0 H [netO H0 p ms] (fun r H' B => msgPost H zMessage (I 4) [netO H p ms] r B ∧ H' = H) := by
  refine Ct.go fun R => ?_
  refine walk ?_
  refine ops_alloc rfl fun p1 _ => ?_
  refine walk ?_
  refine ops_call rfl rfl (at_no hl hi) fun r1 H1 B hl1 ⟨⟨t1, t2, t3, t4, er, eB⟩, eH⟩ => ?_
  subst er eB eH
  refine walk ?_
  refine ops_alloc rfl fun p2 _ => ?_
  refine walk ?_
  refine finB (ownM H1 t1 t2 t3 t4 zMessage ++ [netO H1 p ms]) ?_
  exact ⟨⟨_, _, _, _, rfl, rfl⟩, rfl⟩
theorem deliver_yes {W0 : World} {H H0 : Heap} {p : Value} {ms : List Message} {j : Nat} (hl : H0.le H) (hj : j < ms.length) :
    Ct Tryz.prog 17 #[p, I j] W0 H [netO H0 p ms] (fun r H' B => msgPost H ms[j] (I 0) [netO H p (del ms j)] r B ∧ H' = H) := by
  refine Ct.go fun R => ?_
  refine ex_know .here (fun h => netO_ptr) fun ⟨b0, hp0⟩ => ?_
  subst hp0
  refine walk ?_
  refine ops_alloc rfl fun p1 _ => ?_
  refine walk ?_
  refine ops_call rfl rfl (at_yes hl hj) fun r1 H1 B hl1 ⟨⟨t1, t2, t3, t4, er, eB⟩, eH⟩ => ?_
  subst er eB eH
  refine walk ?_
  refine ops_alloc rfl fun p2 _ => ?_
  refine walk ?_
  refine ops_open (A := netO H1 (.pointer (some ⟨b0, 0, none⟩)) ms) (by repeat (first | exact Has.here | apply Has.there)) (fun h => netO_open (.refl _)) fun ⟨b, base, cap⟩ ⟨hp, h1, h2, h3⟩ => ?_
  simp only at hp h1 h2 h3
  cases hp
  dsimp only
  refine ops_rowS (.slice base ms.length cap) (by omega) fun b2 cap2 cs sp e q1 q2 q3 q4 q5 q6 => ?_
  cases e
  refine walk ?_
  refine ops_call rfl rfl (delete_spec hj q1 q2 q3 q4 q5.one) fun r2 H2 B hl2 hB => ?_
  obtain ⟨er, eB, eH⟩ := hB
  subst er eB eH
  refine walk ?_
  refine finB (ownM H2 t1 t2 t3 t4 ms[j] ++ [netO H2 (.pointer (some ⟨b0, 0, none⟩)) (del ms j)]) ?_ (hs := ?_)
  · exact ⟨⟨_, _, _, _, rfl, rfl⟩, rfl⟩
  · have hd : RL rMessage H2 (cs.take (j * 19) ++ cs.drop ((j + 1) * 19)) (del ms j) := (q5.take (by omega)).app (q5.drop (by omega))
    have hk : Sub (own 81 19 (.slice (some ⟨b2, 0, none⟩) (ms.length - 1) cap) (ms.length - 1) (cs.take (j * 19) ++ cs.drop ((j + 1) * 19)) :: row b0 102 [.slice (some ⟨b2, 0, none⟩) (ms.length - 1) cap] :: R) (netO H2 (.pointer (some ⟨b0, 0, none⟩)) (del ms j) :: R) := by
      rw [← del_len hj]
      exact (ownS_mk hd (by rw [del_len hj]; simp only [cap47] at q6 ⊢; omega)).trans netO_shut'
    rw [List.append_assoc]
    refine Sub.trans ?_ (Sub.cons (Sub.cons (Sub.cons (Sub.cons hk))))
    exact subA
theorem drop_no {W0 : World} {H H0 : Heap} {p : Value} {ms : List Message} {i : Int} (hl : H0.le H) (hi : ¬ inR ms i) :
    Ct Tryz.prog 20 #[p, I i] W0 H [netO H0 p ms] (fun r H' B => r = I 4 ∧ B = [netO H p ms] ∧ H' = H) := by
  refine Ct.go fun R => ?_
  refine walk ?_
  refine ops_call rfl rfl (deliver_no hl hi) fun r1 H1 B hl1 ⟨⟨t1, t2, t3, t4, er, eB⟩, eH⟩ => ?_
  subst er eB eH
  refine walk ?_
  refine ops_alloc rfl fun p2 _ => ?_
  refine walk ?_
  refine finB [netO H1 p ms] ?_
  exact ⟨rfl, rfl, rfl⟩
theorem drop_yes {W0 : World} {H H0 : Heap} {p : Value} {ms : List Message} {j : Nat} (hl : H0.le H) (hj : j < ms.length) :
    Ct Tryz.prog 20 #[p, I j] W0 H [netO H0 p ms] (fun r H' B => r = I 0 ∧ B = [netO H p (del ms j)] ∧ H' = H) := by
  refine Ct.go fun R => ?_
  refine walk ?_
  refine ops_call rfl rfl (deliver_yes hl hj) fun r1 H1 B hl1 ⟨⟨t1, t2, t3, t4, er, eB⟩, eH⟩ => ?_
  subst er eB eH
  refine walk ?_
  refine ops_alloc rfl fun p2 _ => ?_
  refine walk ?_
  refine finB [netO H1 p (del ms j)] ?_
  exact ⟨rfl, rfl, rfl⟩
theorem copy_no {W0 : World} {H H0 : Heap} {p : Value} {ms : List Message} {i : Int} (hl : H0.le H) (hi : ¬ inR ms i) :
    Ct Tryz.prog 21 #[p, I i] W0 H [netO H0 p ms] (fun r H' B => r = I 4 ∧ B = [netO H p ms] ∧ H' = H) := by
  refine Ct.go fun R => ?_
  refine walk ?_
  refine ops_call rfl rfl (at_no hl hi) fun r1 H1 B hl1 ⟨⟨t1, t2, t3, t4, er, eB⟩, eH⟩ => ?_
  subst er eB eH
  refine walk ?_
  refine ops_alloc rfl fun p2 _ => ?_
  refine walk ?_
  refine finB [netO H1 p ms] ?_
  exact ⟨rfl, rfl, rfl⟩
theorem ops_frzM {P : Program} {n : Nat} {W0 : World} {Q : Exit → Act → World → Prop} {F : Slots} {H H0 : Heap} {L L1 L2 L3 L4 : List HProp} {ops : Array Oper} {rest : List Oper} {k : List Fr} (t1 t2 t3 t4 : Option Addr × Nat) (m : Message)
    [h1 : HasS L (sl t1 m.Work.Take) ByteArray rStr 1 16 9 H0 m.Work.Take L1] [h2 : HasS L1 (sl t2 m.Work.Drop) ByteArray rStr 1 16 9 H0 m.Work.Drop L2] [h3 : HasS L2 (sl t3 m.Call.Route.Cells) Int rInt 1 8 3 H0 m.Call.Route.Cells L3] [h4 : HasS L3 (sl t4 m.Reply.Route.Cells) Int rInt 1 8 3 H0 m.Reply.Route.Cells L4] (hm : okM m)
    (h : ∀ H', H.le H' → rMessage H' (cvM t1 t2 t3 t4 m) m → Ops P n W0 Q F H' L4 false ops rest k) (hl : H0.le H := by repeat (first | exact Go.Sx.Heap.le.refl _ | assumption | refine Go.Sx.Heap.le.trans ?_ ‹Go.Sx.Heap.le _ _›)) : Ops P n W0 Q F H L false ops rest k := by
  obtain ⟨f1, f2, f3, ⟨f4, f5, f6⟩, f7, f8, f9, f10, f11, f12, f13, f14⟩ := hm
  refine ops_freeze (sl t1 m.Work.Take) fun H1 g1 q1 => ?_
  refine ops_freeze (sl t2 m.Work.Drop) fun H2 g2 q2 => ?_
  refine ops_freeze (sl t3 m.Call.Route.Cells) fun H3 g3 q3 => ?_
  refine ops_freeze (sl t4 m.Reply.Route.Cells) fun H4 g4 q4 => ?_
  exact h H4 (g1.trans (g2.trans (g3.trans g4))) ⟨_, _, _, _, rfl, f1, f2, f3, f4, f5, f6, f7, q1.mono (g2.trans (g3.trans g4)), q2.mono (g3.trans g4), f8, f9, f10, f11, q3.mono g4, f12, f13, f14, q4⟩
theorem rMessage_ok {H : Heap} {c : List Value} {m : Message} (h : rMessage H c m) : okM m := by
  obtain ⟨_, _, _, _, _, f1, f2, f3, f4, f5, f6, f7, h1, h2, f8, f9, f10, f11, h3, f12, f13, f14, h4⟩ := h
  exact ⟨f1, f2, f3, ⟨f4, f5, f6⟩, f7, f8, f9, f10, f11, f12, f13, f14⟩
theorem netO_ok {H : Heap} {p : Value} {ms : List Message} {h : Heap} (ho : netO H p ms h) : ∀ m ∈ ms, okM m := by
  obtain ⟨b, s, _, hb⟩ := ho
  obtain ⟨_, _, _, ⟨_, _, ⟨cs, ⟨hr, _⟩, _⟩, _⟩, _⟩ := hb
  exact RL.all (fun _ _ _ h => rMessage_ok h) hr
theorem copy_yes {W0 : World} {H H0 : Heap} {p : Value} {ms : List Message} {j : Nat} (hl : H0.le H) (hj : j < ms.length) (hlt : ms.length < 64) :
    Ct Tryz.prog 21 #[p, I j] W0 H [netO H0 p ms] (fun r H' B => r = I 0 ∧ B = [netO H' p (ms ++ [ms[j]])]) := by
  refine Ct.go fun R => ?_
  refine ex_know .here (fun h => netO_ok) fun hok => ?_
  refine walk ?_
  refine ops_call rfl rfl (at_yes hl hj) fun r1 H1 B hl1 ⟨⟨t1, t2, t3, t4, er, eB⟩, eH⟩ => ?_
  subst er eB eH
  refine walk ?_
  refine ops_alloc rfl fun p2 _ => ?_
  refine ops_frzM t1 t2 t3 t4 ms[j] (hok _ (List.getElem_mem _)) fun H2 hl2 hm => ?_
  refine walk ?_
  refine ops_call rfl rfl (send_yes hl2 hm hlt) fun r2 H3 B hl3 ⟨er, eB⟩ => ?_
  subst er eB
  refine walk ?_
  refine finB [netO H3 p (ms ++ [ms[j]])] ?_
  exact ⟨rfl, rfl⟩
theorem copy_full {W0 : World} {H H0 : Heap} {p : Value} {ms : List Message} {j : Nat} (hl : H0.le H) (hj : j < ms.length) (hlt : ¬ ms.length < 64) :
    Ct Tryz.prog 21 #[p, I j] W0 H [netO H0 p ms] (fun r H' B => r = I 5 ∧ B = [netO H' p ms]) := by
  refine Ct.go fun R => ?_
  refine ex_know .here (fun h => netO_ok) fun hok => ?_
  refine walk ?_
  refine ops_call rfl rfl (at_yes hl hj) fun r1 H1 B hl1 ⟨⟨t1, t2, t3, t4, er, eB⟩, eH⟩ => ?_
  subst er eB eH
  refine walk ?_
  refine ops_alloc rfl fun p2 _ => ?_
  refine ops_frzM t1 t2 t3 t4 ms[j] (hok _ (List.getElem_mem _)) fun H2 hl2 hm => ?_
  refine walk ?_
  refine ops_call rfl rfl (send_no hl2 hm hlt) fun r2 H3 B hl3 ⟨er, eB, eH⟩ => ?_
  subst er eB eH
  refine walk ?_
  refine finB [netO H3 p ms] ?_
  exact ⟨rfl, rfl⟩
theorem indexFunc_spec {W0 : World} {H HS : Heap} {v : Value} {xs : List Message} {f : FuncId} {cap : List Value} {a : HProp} {p : Message → Bool} [hf : TFn Tryz.prog f] (hl : HS.le H) (hask : Asks Tryz.prog W0 H rMessage f cap (fun c => .agg c.toArray) [a] p) :
    Ct Tryz.prog 86 #[v, .func (.func f) #[] cap.toArray] W0 H [ownS rMessage 19 216 81 HS v xs, a]
      (fun r H' B => B = [ownS rMessage 19 216 81 HS v xs, a] ∧ H' = H ∧ ∃ j, j ≤ xs.length ∧ (∀ i (h : i < xs.length), i < j → p xs[i] = false) ∧ ((j = xs.length ∧ r = I (-1)) ∨ (∃ h : j < xs.length, p xs[j] = true ∧ r = I j))) := by
  refine Ct.go fun R => ?_
  refine ex_shape v fun base cp e q1 q2 q3 => ?_
  subst e
  refine walk ?_
  refine ex_loop (fun k => k ≤ xs.length ∧ ∀ i (h : i < xs.length), i < k → p xs[i] = false) (fun k => [(0, .slice base xs.length cp), (1, .func (.func f) #[] cap.toArray), (7, I xs.length), (8, I k)]) (fun _ => H) (fun _ => ownS rMessage 19 216 81 HS (.slice base xs.length cp) xs :: a :: R) (fun k => xs.length - k) 0 ⟨Nat.zero_le _, fun i _ h => by omega⟩ fun k ⟨hk0, hno⟩ K hL => ?_
  refine walk ?_
  refine ex_if rfl (fun hk => ?_) (fun hk => ?_)
  · have hk1 : k < xs.length := by omega
    refine walk ?_
    refine ops_ixo rfl rfl rfl hk1 fun c hc => ?_
    refine ops_callv rfl rfl rfl (hask c _ (RdOk.mono hl hc)) fun r H' B hl' ⟨er, eB, eH⟩ => ?_
    subst er eB eH
    refine walk ?_
    refine ex_ifb rfl Iff.rfl (fun hp => ?_) (fun hp => ?_)
    · refine walk ?_
      refine finB [ownS rMessage 19 216 81 HS (.slice base xs.length cp) xs, a] ?_
      exact ⟨rfl, rfl, k, hk0, hno, .inr ⟨hk1, hp, rfl⟩⟩
    · refine walk ?_
      refine out_next hL (k + 1) ⟨by omega, fun i h hi => ?_⟩
      rcases Nat.lt_or_ge i k with h' | h'
      · exact hno i h h'
      · obtain rfl : i = k := by omega
        simpa using hp
  · refine walk ?_
    refine finB [ownS rMessage 19 216 81 HS (.slice base xs.length cp) xs, a] ?_
    exact ⟨rfl, rfl, xs.length, Nat.le_refl _, fun i h hi => hno i h (by omega), .inl ⟨rfl, rfl⟩⟩
theorem deleteFunc_spec {W0 : World} {H HS : Heap} {v : Value} {xs : List Message} {f : FuncId} {cap : List Value} {a : HProp} {p : Message → Bool} [hf : TFn Tryz.prog f] (hl : HS.le H) (hask : Asks Tryz.prog W0 H rMessage f cap (fun c => .agg c.toArray) [a] p) :
    Ct Tryz.prog 64 #[v, .func (.func f) #[] cap.toArray] W0 H [ownS rMessage 19 216 81 HS v xs, a] (fun r H' B => B = [ownS rMessage 19 216 81 HS r (xs.filter fun x => !p x), a] ∧ H' = H) := by
  refine Ct.go fun R => ?_
  refine walk ?_
  refine ops_call rfl rfl (indexFunc_spec (v := v) (xs := xs) hl hask) fun r1 H1 B hl1 ⟨eB, eH, j, hj, hno, hcase⟩ => ?_
  subst eB eH
  rcases hcase with ⟨rfl, rfl⟩ | ⟨hj1, hpj, rfl⟩
  · refine walk ?_
    refine finB [ownS rMessage 19 216 81 HS v xs, a] ?_
    refine ⟨?_, rfl⟩
    rw [List.filter_eq_self.2 fun x hx => ?_]
    obtain ⟨i, hi, rfl⟩ := List.getElem_of_mem hx
    simp [hno i hi hi]
  refine ops_rowS v (by omega) fun b cp cs sp e g1 g2 g3 g4 hr hsm => ?_
  subst e
  refine walk ?_
  have hfj : (xs.take (j + 1)).filter (fun x => !p x) = xs.take j := by
    rw [List.take_succ_eq_append_getElem hj1, List.filter_append, List.filter_eq_self.2 fun x hx => ?_]
    · simp [hpj]
    · obtain ⟨i, hi, rfl⟩ := List.getElem_of_mem hx
      simp only [List.length_take] at hi
      simp [List.getElem_take, hno i (by omega) (by omega)]
  have hmj : (j + 1) * 19 ≤ cs.length := by rw [g3]; exact Nat.mul_le_mul_right _ hj1
  refine ex_loop (σ := Nat × Nat × List Value × List Value) (fun s => s.1 ≤ xs.length ∧ RL rMessage HS s.2.2.1 ((xs.take s.1).filter fun x => !p x) ∧ s.2.1 = ((xs.take s.1).filter fun x => !p x).length ∧ s.2.1 < s.1 ∧ s.2.2.2.length = (s.1 - s.2.1) * 19 ∧ s.2.2.2.all (·.oneCell') = true)
    (fun s => [(0, .slice (some ⟨b, 0, none⟩) xs.length cp), (1, .func (.func f) #[] cap.toArray), (5, I s.2.1), (6, I s.1)]) (fun _ => H1) (fun s => row b 81 (s.2.2.1 ++ s.2.2.2 ++ cs.drop (s.1 * 19) ++ sp) :: a :: R) (fun s => xs.length - s.1) (j + 1, j, cs.take (j * 19), (cs.drop (j * 19)).take 19) ?h0 (hs0 := ?hs) fun ⟨k, i, A, J⟩ ⟨hk0, hA, hi, hik, hJ, hJ1⟩ K hL => ?_
  case h0 =>
    refine ⟨hj1, ?_, ?_, Nat.lt_succ_self _, ?_, ?_⟩
    · simp only; rw [hfj]; exact hr.take hj
    · simp only; rw [hfj]; simp; omega
    · simp only [List.length_take, List.length_drop]; omega
    · have h5 := hr.one
      simp only [List.all_eq_true] at h5 ⊢
      exact fun x hx => h5 x (List.mem_of_mem_drop (List.mem_of_mem_take hx))
  case hs =>
    dsimp only
    have e : cs.take (j * 19) ++ (cs.drop (j * 19)).take 19 ++ cs.drop ((j + 1) * 19) = cs := by
      rw [show (j + 1) * 19 = j * 19 + 19 by omega, ← List.drop_drop, List.append_assoc, List.take_append_drop, List.take_append_drop]
    rw [e]
    exact subA
  simp only at hk0 hA hi hik hJ hJ1
  dsimp only
  have hAl := hA.len
  rw [← hi] at hAl
  have hAJ : (A ++ J).length = k * 19 := by rw [List.length_append, hAl, hJ, ← Nat.add_mul]; congr 1; omega
  refine walk ?_
  refine ex_if rfl (fun hk => ?_) (fun hk => ?_)
  · have hk1 : k < xs.length := by omega
    obtain ⟨c, r, hcr, hc⟩ := hr.get hk1
    have hcl : c.length = 19 := RdOk.len hc
    have hr' : cs.drop ((k + 1) * 19) = r := by
      rw [show (k + 1) * 19 = k * 19 + 19 by omega, ← List.drop_drop, hcr, ← hcl, List.drop_left]
    have hft : (xs.take (k + 1)).filter (fun x => !p x) = (xs.take k).filter (fun x => !p x) ++ [xs[k]].filter (fun x => !p x) := by
      rw [List.take_succ_eq_append_getElem hk1, List.filter_append]
    refine walk ?_
    refine ops_ldat (us := c) rfl rfl (fun o u ho => ?_) hcl ?_
    · rw [hcr, show 0 + k * 19 + o = (A ++ J).length + o by rw [hAJ]; omega, List.append_assoc (A ++ J), List.getElem?_append_right (by omega)]
      rw [show (A ++ J).length + o - (A ++ J).length = o by omega, List.append_assoc, List.getElem?_append_left (List.getElem?_eq_some_iff.1 ho).1]
      exact ho
    refine ops_alloc rfl fun p7 _ => ?_
    refine ops_stall rfl hcl rfl (RdOk.one hc) ?_
    refine walk ?_
    refine ops_ldall rfl rfl hcl ?_
    refine ops_callv rfl rfl rfl (hask c _ (RdOk.mono hl hc)) fun r2 H2 B hl2 ⟨er, eB, eH⟩ => ?_
    subst er eB eH
    refine walk ?_
    refine ex_ifb rfl Iff.rfl (fun hp => ?_) (fun hp => ?_)
    · refine walk ?_
      refine ops_ldall rfl rfl hcl ?_
      refine walk ?_
      refine ops_n (op_storeAt (b := b) (off := 0 + i * 19) (vs := c) (cs := A ++ J ++ cs.drop (k * 19) ++ sp) rfl rfl rfl hcl (RdOk.one hc) (by repeat (first | exact Has.here | apply Has.there)) ?_ ?_)
      · rw [List.length_append, List.length_append, hAJ, hcl]; have : (i + 1) * 19 ≤ k * 19 := Nat.mul_le_mul_right _ hik; omega
      refine walk ?_
      refine out_next hL (k + 1, i + 1, A ++ c, J.drop 19 ++ c) ⟨by simp only; omega, ?_, ?_, by simp only; omega, ?_, ?_⟩ (hs := ?_)
      · simp only; rw [hft]; simp only [hp, List.filter_cons, List.filter_nil, if_true]; exact hA.snoc hc
      · simp only; rw [hft, List.length_append, ← hi]; simp [hp]
      · simp only [List.length_append, List.length_drop, hJ, hcl]; have : k + 1 - (i + 1) = k - i := by omega
        rw [this]; have : 1 * 19 ≤ (k - i) * 19 := Nat.mul_le_mul_right _ (by omega); omega
      · simp only [List.all_append, Bool.and_eq_true]
        refine ⟨?_, RdOk.one hc⟩
        simp only [List.all_eq_true] at hJ1 ⊢
        exact fun x hx => hJ1 x (List.mem_of_mem_drop hx)
      · dsimp only
        have hJs : 19 ≤ J.length := by rw [hJ]; have : 1 * 19 ≤ (k - i) * 19 := Nat.mul_le_mul_right _ (by omega); omega
        have e : (A ++ J ++ cs.drop (k * 19) ++ sp).take (0 + i * 19) ++ c ++ (A ++ J ++ cs.drop (k * 19) ++ sp).drop (0 + i * 19 + c.length) = A ++ c ++ (J.drop 19 ++ c) ++ cs.drop ((k + 1) * 19) ++ sp := by
          rw [hr', hcr, hcl, Nat.zero_add, ← hAl]
          simp only [List.append_assoc]
          rw [List.take_left, ← List.drop_drop, List.drop_left, List.drop_append_of_le_length hJs]
        rw [e]
        exact subA
    · refine walk ?_
      refine out_next hL (k + 1, i, A, J ++ c) ⟨by simp only; omega, ?_, ?_, by simp only; omega, ?_, ?_⟩ (hs := ?_)
      · simp only; rw [hft]; simp at hp; simp [hp]; exact hA
      · simp only; rw [hft]; simp at hp; simp [hp, hi]
      · simp only [List.length_append, hJ, hcl]; rw [show k + 1 - i = (k - i) + 1 by omega, Nat.add_mul]
      · simp only [List.all_append, Bool.and_eq_true]; exact ⟨hJ1, RdOk.one hc⟩
      · dsimp only
        have e : A ++ (J ++ c) ++ cs.drop ((k + 1) * 19) ++ sp = A ++ J ++ cs.drop (k * 19) ++ sp := by rw [hr', hcr]; simp [List.append_assoc]
        rw [e]
        exact subA
  · have hke : k = xs.length := by omega
    subst hke
    rw [List.take_length] at hA hi
    have hd0 : cs.drop (xs.length * 19) = [] := List.drop_eq_nil_of_le (by omega)
    rw [hd0, List.append_nil]
    refine walk ?_
    refine ops_n (op_clear (b := b) (m := xs.length - i) (cap := cp - i) (off := 0 + i * 19) (cs := A ++ J ++ sp) rfl (by repeat (first | exact Has.here | apply Has.there)) ?_ (by decide +kernel) fun zs hz => ?_)
    · rw [List.length_append, hAJ, Nat.zero_add, ← Nat.add_mul]; have : (i + (xs.length - i)) * 19 = xs.length * 19 := by congr 1; omega
      omega
    refine walk ?_
    refine finB [ownS rMessage 19 216 81 HS (.slice (some ⟨b, 0, none⟩) i cp) (xs.filter fun x => !p x), a] ?_ (hs := ?_)
    · exact ⟨rfl, rfl⟩
    have e : (A ++ J ++ sp).take (0 + i * 19) ++ zs ++ (A ++ J ++ sp).drop (0 + i * 19 + (xs.length - i) * 19) = A ++ (zs ++ sp) := by
      have e2 : 0 + i * 19 + (xs.length - i) * 19 = (A ++ J).length := by rw [hAJ, Nat.zero_add, ← Nat.add_mul]; congr 1; omega
      rw [e2, List.drop_left, Nat.zero_add, ← hAl, List.append_assoc A, List.take_left, List.append_assoc]
    rw [e]
    have hle : (xs.filter fun x => !p x).length ≤ xs.length := List.length_filter_le _ _
    refine Sub.trans (own_shut (m := i) (cap := cp) hAl (by omega) g2 ?_) ?_
    · rw [List.length_append, List.length_append, hAl, hz, ← Nat.add_assoc, ← Nat.add_mul]
      rw [show i + (xs.length - i) = xs.length by omega]
      rw [List.length_append, g3] at g4; exact g4
    · rw [hi]
      exact (ownS_mk hA (Nat.le_trans (Nat.mul_le_mul_right _ hle) hsm)).trans subA
def clr (to : Int) (ms : List Message) : List Message := ms.filter fun m => !decide (m.To = to)
theorem clr_len {to : Int} {ms : List Message} : (clr to ms).length ≤ ms.length := List.length_filter_le _ _
theorem clearF_spec {W0 : World} {H : Heap} {c : List Value} {m : Message} {b : Nat} {to : Int} (h0 : rMessage H c m) :
    Ct Tryz.prog 65 #[.agg c.toArray, .pointer (some ⟨b, 0, none⟩)] W0 H [row b 3 [I to]] (fun r H' B => r = .bool (decide (m.To = to)) ∧ B = [row b 3 [I to]] ∧ H' = H) := by
  refine Ct.go fun R => ?_
  obtain ⟨s1, s2, s3, s4, rfl, _⟩ := h0
  refine walk ?_
  refine ops_box rfl rfl fun p1 _ => ?_
  refine walk ?_
  refine finB [row b 3 [I to]] ?_
  exact ⟨rfl, rfl, rfl⟩
theorem clear_spec {W0 : World} {H H0 : Heap} {p : Value} {ms : List Message} {to : Int} (hl : H0.le H) :
    Ct Tryz.prog 43 #[p, I to] W0 H [netO H0 p ms] (fun r H' B => r = I ((ms.length - (clr to ms).length : Nat) : Int) ∧ B = [netO H p (clr to ms)] ∧ H' = H) := by
  refine Ct.go fun R => ?_
  refine ex_open .here (fun h => netO_open hl) fun ⟨b, base, cap⟩ ⟨hp, h1, h2, h3⟩ => ?_
  simp only at hp h1 h2 h3
  subst hp
  dsimp only
  refine walk ?_
  refine ops_box rfl rfl fun p3 _ => ?_
  refine walk ?_
  refine ops_call rfl rfl (deleteFunc_spec (xs := ms) (f := 65) (cap := [.pointer (some ⟨p3, 0, none⟩)]) (a := row p3 3 [I to]) (p := fun m => decide (m.To = to)) (.refl _) fun c x hx => clearF_spec hx) fun r1 H1 B hl1 ⟨eB, eH⟩ => ?_
  subst eB eH
  refine ops_shape r1 fun d1 e1 e q1 q2 q3 => ?_
  subst e
  have hls : (clr to ms).length ≤ ms.length := clr_len
  have hf : (ms.filter fun x => !decide (x.To = to)) = clr to ms := rfl
  rw [hf] at *
  refine walk ?_
  rw [show ((ms.length : Int) - ((clr to ms).length : Int)) = ((ms.length - (clr to ms).length : Nat) : Int) by omega]
  refine walk ?_
  refine finB [netO H1 (.pointer (some ⟨b, 0, none⟩)) (clr to ms)] ?_ (hs := ?_)
  · exact ⟨rfl, rfl, rfl⟩
  · refine Sub.trans ?_ (netO_shut' (s := .slice d1 (clr to ms).length e1))
    exact subA
theorem netO_up {H H' : Heap} {p : Value} {ms : List Message} {L : List HProp} (hl : H.le H') : Sub (netO H p ms :: L) (netO H' p ms :: L) := fun h ⟨h1, h2, ho, q, d, l1, l2⟩ => by
  obtain ⟨x, ⟨hp, _⟩, hb⟩ := netO_open hl ho
  exact ⟨h1, h2, ⟨x.1, _, hp, hb⟩, q, d, l1, l2⟩
end Go.Proofs.YtpphdbnifbjfmaaGreatDoor.Net
