/- The net: what Deliver, Drop and Copy do. -/
import Derived.Test.YtlbpaokehdiinaaND
set_option linter.unusedVariables false
set_option linter.unusedSimpArgs false
namespace Go.Proofs.Ytlbpaokehdiinaa
open Go Go.Sx Go.Proofs
/-- the list without the k-th -/
def del (ms : List Message) (k : Nat) : List Message := ms.take k ++ ms.drop (k + 1)
theorem del_len {ms : List Message} {k : Nat} (hk : k < ms.length) : (del ms k).length = ms.length - 1 := by simp [del]; omega
theorem netO_ptr {H : Heap} {p : Value} {ms : List Message} {h : Heap} (ho : netO H p ms h) : ∃ b, p = .pointer (some ⟨b, 0, none⟩) := by obtain ⟨b, _, h, _⟩ := ho; exact ⟨b, h⟩
theorem deliver_no {W0 : World} {H H0 : Heap} {p : Value} {ms : List Message} {i : Int} (hl : H0.le H) (hi : ¬ inR ms i) :
    Ct Try.prog 12 #[p, I i] W0 H [netO H0 p ms] (fun r H' B => msgPost H zMessage (I 4) [netO H p ms] r B ∧ H' = H) := by
  refine Ct.go fun R => ?_
  refine walk ?_
  refine ops_alloc rfl fun p1 _ => ?_
  refine walk ?_
  refine ops_call rfl rfl (at_no hl hi) fun r1 H1 B hl1 ⟨⟨t1, t2, t3, t4, er, eB⟩, eH⟩ => ?_
  subst er eB eH
  refine walk ?_
  refine ops_alloc rfl fun p2 _ => ?_
  refine walk ?_
  refine finB (ownM H1 t1 t2 t3 t4 zMessage ++ [netO H1 p ms]) ?_
  exact ⟨⟨_, _, _, _, rfl, rfl⟩, rfl⟩
theorem deliver_yes {W0 : World} {H H0 : Heap} {p : Value} {ms : List Message} {j : Nat} (hl : H0.le H) (hj : j < ms.length) :
    Ct Try.prog 12 #[p, I j] W0 H [netO H0 p ms] (fun r H' B => msgPost H ms[j] (I 0) [netO H p (del ms j)] r B ∧ H' = H) := by
  refine Ct.go fun R => ?_
  refine ex_know .here (fun h => netO_ptr) fun ⟨b0, hp0⟩ => ?_
  subst hp0
  refine walk ?_
  refine ops_alloc rfl fun p1 _ => ?_
  refine walk ?_
  refine ops_call rfl rfl (at_yes hl hj) fun r1 H1 B hl1 ⟨⟨t1, t2, t3, t4, er, eB⟩, eH⟩ => ?_
  subst er eB eH
  refine walk ?_
  refine ops_alloc rfl fun p2 _ => ?_
  refine walk ?_
  refine ops_open (A := netO H1 (.pointer (some ⟨b0, 0, none⟩)) ms) (by repeat (first | exact Has.here | apply Has.there)) (fun h => netO_open (.refl _)) fun ⟨b, base, cap⟩ ⟨hp, h1, h2, h3⟩ => ?_
  simp only at hp h1 h2 h3
  cases hp
  dsimp only
  refine ops_rowS (.slice base ms.length cap) (by omega) fun b2 cap2 cs sp e q1 q2 q3 q4 q5 q6 => ?_
  cases e
  refine walk ?_
  refine ops_call rfl rfl (delete_spec hj q1 q2 q3 q4 q5.one) fun r2 H2 B hl2 hB => ?_
  obtain ⟨er, eB, eH⟩ := hB
  subst er eB eH
  refine walk ?_
  refine finB (ownM H2 t1 t2 t3 t4 ms[j] ++ [netO H2 (.pointer (some ⟨b0, 0, none⟩)) (del ms j)]) ?_ (hs := ?_)
  · exact ⟨⟨_, _, _, _, rfl, rfl⟩, rfl⟩
  · have hd : RL rMessage H2 (cs.take (j * 19) ++ cs.drop ((j + 1) * 19)) (del ms j) := (q5.take (by omega)).app (q5.drop (by omega))
    have hk : Sub (own 42 19 (.slice (some ⟨b2, 0, none⟩) (ms.length - 1) cap) (ms.length - 1) (cs.take (j * 19) ++ cs.drop ((j + 1) * 19)) :: row b0 65 [.slice (some ⟨b2, 0, none⟩) (ms.length - 1) cap] :: R) (netO H2 (.pointer (some ⟨b0, 0, none⟩)) (del ms j) :: R) := by
      rw [← del_len hj]
      exact (ownS_mk hd (by rw [del_len hj]; simp only [cap47] at q6 ⊢; omega)).trans netO_shut'
    rw [List.append_assoc]
    refine Sub.trans ?_ (Sub.cons (Sub.cons (Sub.cons (Sub.cons hk))))
    (repeat (first | exact Sub.refl _ | exact Sub.nil _ | (apply sub_pick; (repeat (first | exact Has.here | apply Has.there)); skip) | apply Sub.drop))
theorem drop_no {W0 : World} {H H0 : Heap} {p : Value} {ms : List Message} {i : Int} (hl : H0.le H) (hi : ¬ inR ms i) :
    Ct Try.prog 18 #[p, I i] W0 H [netO H0 p ms] (fun r H' B => r = I 4 ∧ B = [netO H p ms] ∧ H' = H) := by
  refine Ct.go fun R => ?_
  refine walk ?_
  refine ops_call rfl rfl (deliver_no hl hi) fun r1 H1 B hl1 ⟨⟨t1, t2, t3, t4, er, eB⟩, eH⟩ => ?_
  subst er eB eH
  refine walk ?_
  refine ops_alloc rfl fun p2 _ => ?_
  refine walk ?_
  refine finB [netO H1 p ms] ?_
  exact ⟨rfl, rfl, rfl⟩
theorem drop_yes {W0 : World} {H H0 : Heap} {p : Value} {ms : List Message} {j : Nat} (hl : H0.le H) (hj : j < ms.length) :
    Ct Try.prog 18 #[p, I j] W0 H [netO H0 p ms] (fun r H' B => r = I 0 ∧ B = [netO H p (del ms j)] ∧ H' = H) := by
  refine Ct.go fun R => ?_
  refine walk ?_
  refine ops_call rfl rfl (deliver_yes hl hj) fun r1 H1 B hl1 ⟨⟨t1, t2, t3, t4, er, eB⟩, eH⟩ => ?_
  subst er eB eH
  refine walk ?_
  refine ops_alloc rfl fun p2 _ => ?_
  refine walk ?_
  refine finB [netO H1 p (del ms j)] ?_
  exact ⟨rfl, rfl, rfl⟩
theorem copy_no {W0 : World} {H H0 : Heap} {p : Value} {ms : List Message} {i : Int} (hl : H0.le H) (hi : ¬ inR ms i) :
    Ct Try.prog 10 #[p, I i] W0 H [netO H0 p ms] (fun r H' B => r = I 4 ∧ B = [netO H p ms] ∧ H' = H) := by
  refine Ct.go fun R => ?_
  refine walk ?_
  refine ops_call rfl rfl (at_no hl hi) fun r1 H1 B hl1 ⟨⟨t1, t2, t3, t4, er, eB⟩, eH⟩ => ?_
  subst er eB eH
  refine walk ?_
  refine ops_alloc rfl fun p2 _ => ?_
  refine walk ?_
  refine finB [netO H1 p ms] ?_
  exact ⟨rfl, rfl, rfl⟩
/-- an owned message, only read from now on -/
theorem ops_frzM {P : Program} {n : Nat} {W0 : World} {Q : Exit → Act → World → Prop} {F : Slots} {H H0 : Heap} {L L1 L2 L3 L4 : List HProp} {ops : Array Oper} {rest : List Oper} {k : List Fr} (t1 t2 t3 t4 : Option Addr × Nat) (m : Message)
    [h1 : HasS L (sl t1 m.Work.Take) ByteArray rStr 1 16 9 H0 m.Work.Take L1] [h2 : HasS L1 (sl t2 m.Work.Drop) ByteArray rStr 1 16 9 H0 m.Work.Drop L2] [h3 : HasS L2 (sl t3 m.Call.Route.Cells) Int rInt 1 8 3 H0 m.Call.Route.Cells L3] [h4 : HasS L3 (sl t4 m.Reply.Route.Cells) Int rInt 1 8 3 H0 m.Reply.Route.Cells L4] (hm : okM m)
    (h : ∀ H', H.le H' → rMessage H' (cvM t1 t2 t3 t4 m) m → Ops P n W0 Q F H' L4 false ops rest k) (hl : H0.le H := by repeat (first | exact Go.Sx.Heap.le.refl _ | assumption | refine Go.Sx.Heap.le.trans ?_ ‹Go.Sx.Heap.le _ _›)) : Ops P n W0 Q F H L false ops rest k := by
  obtain ⟨f1, f2, f3, ⟨f4, f5, f6⟩, f7, f8, f9, f10, f11, f12, f13, f14⟩ := hm
  refine ops_freeze (sl t1 m.Work.Take) fun H1 g1 q1 => ?_
  refine ops_freeze (sl t2 m.Work.Drop) fun H2 g2 q2 => ?_
  refine ops_freeze (sl t3 m.Call.Route.Cells) fun H3 g3 q3 => ?_
  refine ops_freeze (sl t4 m.Reply.Route.Cells) fun H4 g4 q4 => ?_
  exact h H4 (g1.trans (g2.trans (g3.trans g4))) ⟨_, _, _, _, rfl, f1, f2, f3, f4, f5, f6, f7, q1.mono (g2.trans (g3.trans g4)), q2.mono (g3.trans g4), f8, f9, f10, f11, q3.mono g4, f12, f13, f14, q4⟩
theorem rMessage_ok {H : Heap} {c : List Value} {m : Message} (h : rMessage H c m) : okM m := by
  obtain ⟨_, _, _, _, _, f1, f2, f3, f4, f5, f6, f7, h1, h2, f8, f9, f10, f11, h3, f12, f13, f14, h4⟩ := h
  exact ⟨f1, f2, f3, ⟨f4, f5, f6⟩, f7, f8, f9, f10, f11, f12, f13, f14⟩
theorem netO_ok {H : Heap} {p : Value} {ms : List Message} {h : Heap} (ho : netO H p ms h) : ∀ m ∈ ms, okM m := by
  obtain ⟨b, s, _, hb⟩ := ho
  obtain ⟨_, _, _, ⟨_, _, ⟨cs, ⟨hr, _⟩, _⟩, _⟩, _⟩ := hb
  exact RL.all (fun _ _ _ h => rMessage_ok h) hr
theorem copy_yes {W0 : World} {H H0 : Heap} {p : Value} {ms : List Message} {j : Nat} (hl : H0.le H) (hj : j < ms.length) (hlt : ms.length < 64) :
    Ct Try.prog 10 #[p, I j] W0 H [netO H0 p ms] (fun r H' B => r = I 0 ∧ B = [netO H' p (ms ++ [ms[j]])]) := by
  refine Ct.go fun R => ?_
  refine ex_know .here (fun h => netO_ok) fun hok => ?_
  refine walk ?_
  refine ops_call rfl rfl (at_yes hl hj) fun r1 H1 B hl1 ⟨⟨t1, t2, t3, t4, er, eB⟩, eH⟩ => ?_
  subst er eB eH
  refine walk ?_
  refine ops_alloc rfl fun p2 _ => ?_
  refine ops_frzM t1 t2 t3 t4 ms[j] (hok _ (List.getElem_mem _)) fun H2 hl2 hm => ?_
  refine walk ?_
  refine ops_call rfl rfl (send_yes hl2 hm hlt) fun r2 H3 B hl3 ⟨er, eB⟩ => ?_
  subst er eB
  refine walk ?_
  refine finB [netO H3 p (ms ++ [ms[j]])] ?_
  exact ⟨rfl, rfl⟩
theorem copy_full {W0 : World} {H H0 : Heap} {p : Value} {ms : List Message} {j : Nat} (hl : H0.le H) (hj : j < ms.length) (hlt : ¬ ms.length < 64) :
    Ct Try.prog 10 #[p, I j] W0 H [netO H0 p ms] (fun r H' B => r = I 5 ∧ B = [netO H' p ms]) := by
  refine Ct.go fun R => ?_
  refine ex_know .here (fun h => netO_ok) fun hok => ?_
  refine walk ?_
  refine ops_call rfl rfl (at_yes hl hj) fun r1 H1 B hl1 ⟨⟨t1, t2, t3, t4, er, eB⟩, eH⟩ => ?_
  subst er eB eH
  refine walk ?_
  refine ops_alloc rfl fun p2 _ => ?_
  refine ops_frzM t1 t2 t3 t4 ms[j] (hok _ (List.getElem_mem _)) fun H2 hl2 hm => ?_
  refine walk ?_
  refine ops_call rfl rfl (send_no hl2 hm hlt) fun r2 H3 B hl3 ⟨er, eB, eH⟩ => ?_
  subst er eB eH
  refine walk ?_
  refine finB [netO H3 p ms] ?_
  exact ⟨rfl, rfl⟩
end Go.Proofs.Ytlbpaokehdiinaa
