/- The net: Clear. -/
import Derived.Test.YtlbpaokehdiinaaNK
set_option linter.unusedVariables false
set_option linter.unusedSimpArgs false
namespace Go.Proofs.Ytlbpaokehdiinaa
open Go Go.Sx Go.Proofs
theorem clearF_spec {W0 : World} {H : Heap} {c : List Value} {m : Message} {b : Nat} {to : Int} (h0 : rMessage H c m) :
    Ct Try.prog 30 #[.agg c.toArray, .pointer (some ⟨b, 0, none⟩)] W0 H [row b 3 [I to]] (fun r H' B => r = .bool (decide (m.To = to)) ∧ B = [row b 3 [I to]] ∧ H' = H) := by
  refine Ct.go fun R => ?_
  obtain ⟨s1, s2, s3, s4, rfl, _⟩ := h0
  refine walk ?_
  refine ops_box rfl rfl fun p1 _ => ?_
  refine walk ?_
  refine finB [row b 3 [I to]] ?_
  exact ⟨rfl, rfl, rfl⟩
theorem clear_spec {W0 : World} {H H0 : Heap} {p : Value} {ms : List Message} {to : Int} (hl : H0.le H) :
    Ct Try.prog 19 #[p, I to] W0 H [netO H0 p ms] (fun r H' B => r = I ((ms.length - (clr to ms).length : Nat) : Int) ∧ B = [netO H p (clr to ms)] ∧ H' = H) := by
  refine Ct.go fun R => ?_
  refine ex_open .here (fun h => netO_open hl) fun ⟨b, base, cap⟩ ⟨hp, h1, h2, h3⟩ => ?_
  simp only at hp h1 h2 h3
  subst hp
  dsimp only
  refine walk ?_
  refine ops_box rfl rfl fun p3 _ => ?_
  refine walk ?_
  refine ops_call rfl rfl (deleteFunc_spec (xs := ms) (f := 30) (cap := [.pointer (some ⟨p3, 0, none⟩)]) (a := row p3 3 [I to]) (p := fun m => decide (m.To = to)) (.refl _) fun c x hx => clearF_spec hx) fun r1 H1 B hl1 ⟨eB, eH⟩ => ?_
  subst eB eH
  refine ops_shape r1 fun d1 e1 e q1 q2 q3 => ?_
  subst e
  have hls : (clr to ms).length ≤ ms.length := clr_len
  have hf : (ms.filter fun x => !decide (x.To = to)) = clr to ms := rfl
  rw [hf] at *
  refine walk ?_
  rw [show ((ms.length : Int) - ((clr to ms).length : Int)) = ((ms.length - (clr to ms).length : Nat) : Int) by omega]
  refine walk ?_
  refine finB [netO H1 (.pointer (some ⟨b, 0, none⟩)) (clr to ms)] ?_ (hs := ?_)
  · exact ⟨rfl, rfl, rfl⟩
  · refine Sub.trans ?_ (netO_shut' (s := .slice d1 (clr to ms).length e1))
    (repeat (first | exact Sub.refl _ | exact Sub.nil _ | (apply sub_pick; (repeat (first | exact Has.here | apply Has.there)); skip) | apply Sub.drop))
end Go.Proofs.Ytlbpaokehdiinaa
