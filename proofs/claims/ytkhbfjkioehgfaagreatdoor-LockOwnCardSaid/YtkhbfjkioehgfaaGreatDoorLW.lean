/- The law's awake. -/
import Derived.Test.YtkhbfjkioehgfaaGreatDoorLU
set_option linter.unusedVariables false
set_option linter.unusedSimpArgs false
namespace Go.Proofs.YtkhbfjkioehgfaaGreatDoor
open Go Go.Sx Go.Proofs
def ka : ByteArray := ⟨#[97]⟩
def kb : ByteArray := ⟨#[98]⟩
theorem ka_kb : ka ≠ kb := by decide
def xa : Txn := ⟨0, 0, 1⟩
def wa : Work := ⟨1, [ka, kb], []⟩
theorem aw1 : prepE ⟨[], [], []⟩ xa wa = 0 := by
  unfold prepE
  rw [if_neg (by decide), if_neg (by rw [dupT_iff]; decide), if_pos (by decide)]
theorem aw2 {cs : List Value} : mget ka (prepT ⟨[], [], []⟩ xa wa cs).locked = some xa := by
  show mget ka (lockAll xa wa.ks []) = _
  decide
theorem aw3 {cs : List Value} : prepE (prepT ⟨[], [], []⟩ xa wa cs) ⟨0, 0, 2⟩ ⟨2, [kb], []⟩ = 140 := by
  unfold prepE
  rw [if_neg (by simp [prepT, mset, mget, Txn.k, xa]), if_neg (by rw [dupT_iff]; decide), if_neg (by
    have h : mget kb (prepT ⟨[], [], []⟩ xa wa cs).locked = some xa := by
      show mget kb (lockAll xa wa.ks []) = _
      decide
    show ¬ wayT _ _ 0 [kb] = true
    simp [wayT, h])]
theorem aw4 {cs : List Value} : mget xa.k (prepT ⟨[], [], []⟩ xa wa cs).works = some (cs, wa) := by
  unfold prepT
  rw [mget_mset, if_pos rfl]
theorem aw5 {cs : List Value} : applyT (prepT ⟨[], [], []⟩ xa wa cs) xa true = ⟨[(ka, 1), (kb, 1)], [], []⟩ := by
  unfold applyT
  rw [aw4]
  show applyW _ xa true wa = _
  unfold applyW
  have h1 : takeAll wa.Robot wa.Take (dropAll wa.Robot wa.Drop (prepT ⟨[], [], []⟩ xa wa cs).held) = [(ka, 1), (kb, 1)] := by
    show takeAll wa.Robot wa.Take (dropAll wa.Robot wa.Drop []) = _
    decide
  have h2 : unlockAll wa.ks (prepT ⟨[], [], []⟩ xa wa cs).locked = [] := by
    show unlockAll wa.ks (lockAll xa wa.ks []) = _
    decide
  have h3 : mdel xa.k (prepT ⟨[], [], []⟩ xa wa cs).works = [] := by
    simp [prepT, mset, mdel]
  rw [if_pos rfl, h1, h2, h3]
theorem aw6 : TsOk ⟨[(ka, 1), (kb, 1)], [], []⟩ := by
  refine ⟨fun q hq => ?_, fun q hq => ?_, by decide, fun q hq => (by cases hq), by decide⟩
  · simp only [List.mem_cons, List.not_mem_nil, or_false] at hq
    rcases hq with rfl | rfl <;> decide
  · simp only [List.mem_cons, List.not_mem_nil, or_false] at hq
    rcases hq with rfl | rfl <;> (unfold fits; decide)
theorem fit_lit : fits 0 ∧ fits 1 ∧ fits 2 := by unfold fits; decide
theorem awake14_spec {W0 : World} {H : Heap} :
    Ct Tryz.prog 9 #[] W0 H [] (fun r H' B => r = .bool true ∧ B = []) := by
  refine Ct.go (vs := []) fun R => ?_
  refine walk ?_
  refine ops_call (vs := []) rfl rfl new_spec fun r1 H1 B hl1 ⟨p, er, eB, eH⟩ => ?_
  subst er eB eH
  refine walk ?_
  refine ops_bsN rfl rfl fun pb _ => ?_
  refine ops_frzR .here fun H2 hl2 hr2 => ?_
  change HRow H2 pb 0 [.string ka, .string kb] at hr2
  have hsr : SlB rStr 1 16 H2 (.slice (some ⟨pb, 0, none⟩) 2 2) [ka, kb] := ⟨slr_of_hrow (R := rStr) (xs := [ka, kb]) hr2 ⟨[_], [_], rfl, ⟨rfl, by decide⟩, ⟨[_], [], rfl, ⟨rfl, by decide⟩, rfl⟩⟩ (by simp) (by decide), by decide⟩
  refine ops_L (L' := tabO H2 p ⟨[], [], []⟩ :: R) ?_ ?_
  · refine Sub.trans ?_ (tab_up hl2)
    (repeat (first | exact Sub.refl _ | exact Sub.nil _ | (apply sub_pick; (repeat (first | exact Has.here | apply Has.there)); skip) | apply Sub.drop))
  refine walk ?_
  have hp1 := prepare_spec (W0 := W0) (H := H2) (p := p) (s := ⟨[], [], []⟩) (x := xa) (w := wa) (cw := [I 1, .slice (some ⟨pb, 0, none⟩) 2 2, nilS]) ⟨fit_lit.1, fit_lit.1, fit_lit.2.1⟩ ⟨_, _, rfl, fit_lit.2.1, hsr, SlB.nil⟩ (by decide)
  refine ops_call rfl rfl hp1 fun r3 H3 B hl3 ⟨er, cs, hcs, eB⟩ => ?_
  subst er eB
  rw [aw1, if_pos rfl]
  refine walk ?_
  refine ops_call rfl rfl (locked_spec (W0 := W0) (H := H3) (p := p) (s := prepT ⟨[], [], []⟩ xa wa cs) (k := ka)) fun r4 H4 B hl4 ⟨er, eB, eH⟩ => ?_
  subst er eB eH
  rw [show lockedV (prepT ⟨[], [], []⟩ xa wa cs) ka = .tuple #[.agg #[I 0, I 0, I 1], .bool true] by unfold lockedV; rw [aw2]; rfl]
  refine walk ?_
  refine ops_alloc rfl fun p2 _ => ?_
  refine walk ?_
  refine ops_bsN rfl rfl fun pc _ => ?_
  refine ops_frzR .here fun H5 hl5 hr5 => ?_
  change HRow H5 pc 0 [.string kb] at hr5
  have hsr5 : SlB rStr 1 16 H5 (.slice (some ⟨pc, 0, none⟩) 1 1) [kb] := ⟨slr_of_hrow (R := rStr) (xs := [kb]) hr5 ⟨[_], [], rfl, ⟨rfl, by decide⟩, rfl⟩ (by simp) (by decide), by decide⟩
  refine ops_L (L' := tabO H5 p (prepT ⟨[], [], []⟩ xa wa cs) :: row p2 27 [I 0, I 0, I 1] :: R) ?_ ?_
  · refine Sub.trans ?_ (tab_up hl5)
    (repeat (first | exact Sub.refl _ | exact Sub.nil _ | (apply sub_pick; (repeat (first | exact Has.here | apply Has.there)); skip) | apply Sub.drop))
  refine walk ?_
  have hp2 := prepare_spec (W0 := W0) (H := H5) (p := p) (s := prepT ⟨[], [], []⟩ xa wa cs) (x := ⟨0, 0, 2⟩) (w := ⟨2, [kb], []⟩) (cw := [I 2, .slice (some ⟨pc, 0, none⟩) 1 1, nilS]) ⟨fit_lit.1, fit_lit.1, fit_lit.2.2⟩ ⟨_, _, rfl, fit_lit.2.2, hsr5, SlB.nil⟩ (by decide)
  refine ops_call rfl rfl hp2 fun r6 H6 B hl6 ⟨er, cs2, hcs2, eB⟩ => ?_
  subst er eB
  rw [aw3, if_neg (by decide)]
  refine walk ?_
  have hap := apply_spec (W0 := W0) (H := H6) (p := p) (s := prepT ⟨[], [], []⟩ xa wa cs) (x := xa) (yes := true) (by rw [aw4]; show wa.ks.length * 16 ≤ cap47; decide)
  refine ops_call rfl rfl hap fun r7 H7 B hl7 ⟨er, eB⟩ => ?_
  subst er eB
  rw [show applyE (prepT ⟨[], [], []⟩ xa wa cs) xa = 0 by unfold applyE; rw [aw4]; rfl, aw5]
  refine walk ?_
  refine ops_call rfl rfl (holds_spec (W0 := W0) (H := H7) (p := p) aw6) fun r8 H8 B hl8 eB => ?_
  subst eB
  have hlen : (holdsL ⟨[(ka, 1), (kb, 1)], [], []⟩).length = 2 := by simp [holdsL, sortT_len]
  refine ops_shape r8 fun d8 e8 e _ _ _ => ?_
  subst e
  rw [hlen]
  refine walk ?_
  refine fin0 ?_
  exact ⟨rfl, rfl⟩
end Go.Proofs.YtkhbfjkioehgfaaGreatDoor
