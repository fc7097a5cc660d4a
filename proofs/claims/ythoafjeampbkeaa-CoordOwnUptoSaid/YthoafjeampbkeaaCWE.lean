/- What CoordOwn's coordinator goes through. No program in sight. -/
import Derived.Test.YthoafjeampbkeaaCWD
set_option linter.unusedVariables false
set_option linter.unusedSimpArgs false
namespace Go.Proofs.Ythoafjeampbkeaa
open Go Go.Sx Go.Proofs
def txI (ws : List (Int × CW)) (i : Nat) : TX := if i < ws.length then ⟨false, 0, ws.map (·.1), ws, ((ws.map (·.1)).take i).map fun p => (p, 1)⟩ else ⟨true, 0, ws.map (·.1), [], []⟩
def StC (node : Int) (ws : List (Int × CW)) (i : Nat) : CS := ⟨node, 1, 1, [((node, 1, 1), txI ws i)]⟩
def xO (node : Int) : Txn := ⟨node, 1, 1⟩
theorem newX0 {node : Int} : newX (s0C node) = xO node := rfl
theorem begin_St {node : Int} {ws : List (Int × CW)} (h : ws ≠ []) : beginS (s0C node) 0 ws = StC node ws 0 := by
  unfold beginS StC txI
  rw [if_neg h, if_pos (List.length_pos_iff.2 h)]
  rfl
def voteC (node p : Int) : Message := { zMessage with From := p, To := node, Kind := 2, Txn := xO node, Yes := true }
theorem St_get {node : Int} {ws : List (Int × CW)} {i : Nat} : mget (xO node).k (StC node ws i).ts = some (txI ws i) := by
  show mget (node, 1, 1) [((node, 1, 1), txI ws i)] = _
  simp [mget]
theorem St_put {node : Int} {ws : List (Int × CW)} {i : Nat} {t : TX} : (StC node ws i).put (xO node).k t = ⟨node, 1, 1, [((node, 1, 1), t)]⟩ := by
  unfold CS.put StC
  show CS.mk node 1 1 (mset (node, 1, 1) t [((node, 1, 1), txI ws i)]) = _
  simp [mset]
theorem hear_St {node : Int} {ws : List (Int × CW)} {i : Nat} (hn : (ws.map (·.1)).Nodup) (hi : i < (ws.map (·.1)).length) : (cHear (StC node ws i) (voteC node (ws.map (·.1))[i])).s = StC node ws (i + 1) := by
  have hl : (ws.map (·.1)).length = ws.length := List.length_map ..
  have hf : forC (StC node ws i) (voteC node (ws.map (·.1))[i]) := ⟨rfl, rfl⟩
  have hiT : (StC node ws i).isT (voteC node (ws.map (·.1))[i]).Txn := by unfold CS.isT; rw [show (voteC node (ws.map (·.1))[i]).Txn.k = (xO node).k from rfl, St_get]; rfl
  have htx : (StC node ws i).tx (voteC node (ws.map (·.1))[i]).Txn = txI ws i := by unfold CS.tx; rw [show (voteC node (ws.map (·.1))[i]).Txn.k = (xO node).k from rfl, St_get]; rfl
  have hti : txI ws i = ⟨false, 0, ws.map (·.1), ws, ((ws.map (·.1)).take i).map fun p => (p, 1)⟩ := by unfold txI; rw [if_pos (by omega)]
  have hp : (StC node ws i).isPart (voteC node (ws.map (·.1))[i]) := ⟨hiT, by rw [htx, hti]; exact List.getElem_mem hi⟩
  have hop : ((StC node ws i).tx (voteC node (ws.map (·.1))[i]).Txn).op = false := by rw [htx, hti]
  have hfr : mget (ws.map (·.1))[i] (((ws.map (·.1)).take i).map fun p => (p, (1 : Int))) = none := by
    rw [mget_none]
    intro hm
    obtain ⟨q, hq, e0⟩ := List.mem_map.1 hm
    obtain ⟨p, hp0, rfl⟩ := List.mem_map.1 hq
    have hm' : (ws.map (·.1))[i] ∈ (ws.map (·.1)).take i := by rw [← e0]; exact hp0
    obtain ⟨j, hj, e⟩ := List.mem_take_iff_getElem.1 hm'
    have := (List.getElem_inj hn).1 e
    omega
  have hh : hear1 (txI ws i) (ws.map (·.1))[i] = ⟨false, 0, ws.map (·.1), ws, ((ws.map (·.1)).take (i + 1)).map fun p => (p, 1)⟩ := by
    unfold hear1
    rw [hti]
    simp only
    rw [mset_fresh hfr, List.take_succ_eq_append_getElem hi, List.map_append]; rfl
  unfold cHear
  rw [if_neg (fun h => h hf), if_neg (fun h => by cases h.1), if_neg (fun h => by cases h.2.2.2), if_pos ⟨rfl, hp, hop⟩, htx]
  rw [show (voteC node (ws.map (·.1))[i]).From = (ws.map (·.1))[i] from rfl, show (voteC node (ws.map (·.1))[i]).Txn = xO node from rfl, hh]
  by_cases ha : i + 1 < ws.length
  · rw [if_pos (by unfold allHeard; simp only [List.length_map, List.length_take]; omega)]
    simp only
    rw [St_put]
    unfold StC txI
    rw [if_pos ha]
  · rw [if_neg (by unfold allHeard; simp only [List.length_map, List.length_take]; omega)]
    simp only
    rw [St_put]
    unfold StC txI openT
    rw [if_neg ha, if_pos (by omega)]
theorem St_all {node : Int} {ws : List (Int × CW)} {i : Nat} : allC (StC node ws i) = [(node, 1, 1)] := by
  unfold allC StC sort3; simp
theorem St_began {ws : List (Int × CW)} {i : Nat} : (txI ws i).began = 0 := by unfold txI; split <;> rfl
theorem St_late {ws : List (Int × CW)} {i : Nat} : ¬ gaveUp (txI ws i) 1 := fun h => by have := h.2.2; rw [St_began] at this; omega
theorem St_step {node : Int} {ws : List (Int × CW)} {i : Nat} : stepS (StC node ws i) 1 = StC node ws i := by
  unfold stepS StC
  simp only [List.filter_cons, List.filter_nil]
  rw [if_pos (by simpa using St_late)]
theorem St_out {node : Int} {ws : List (Int × CW)} {i : Nat} : stepOut (StC node ws i) 1 = againL node (xO node) (txI ws i) := by
  unfold stepOut
  rw [St_all]
  simp only [List.flatMap_cons, List.flatMap_nil, List.append_nil]
  unfold stepOut1
  rw [show ((node, 1, 1) : K3) = (xO node).k from rfl, St_get, Option.getD_some, if_neg St_late]
  rfl
theorem St_open {node : Int} {ws : List (Int × CW)} : openL (StC node ws ws.length) = [recC (xO node) (ws.map (·.1))] := by
  unfold openL
  rw [St_all]
  have hti : txI ws ws.length = ⟨true, 0, ws.map (·.1), [], []⟩ := by unfold txI; rw [if_neg (by omega)]
  simp only [List.filter_cons, List.filter_nil, show ((node, 1, 1) : K3) = (xO node).k from rfl, St_get, Option.getD_some, hti, if_true, List.map_cons, List.map_nil]
  rfl
theorem St_say {node : Int} {ws : List (Int × CW)} : (againL node (xO node) (txI ws ws.length)).length = ws.length := by
  have hti : txI ws ws.length = ⟨true, 0, ws.map (·.1), [], []⟩ := by unfold txI; rw [if_neg (by omega)]
  have hfl : (ws.map (·.1)).filter (fun p => !(TX.hd ⟨true, 0, ws.map (·.1), [], []⟩ p)) = ws.map (·.1) := List.filter_eq_self.2 fun a _ => rfl
  unfold againL
  rw [hti, List.length_map]
  show ((ws.map (·.1)).filter (fun p => !(TX.hd ⟨true, 0, ws.map (·.1), [], []⟩ p))).length = ws.length
  rw [hfl, List.length_map]
theorem St0_say {node : Int} {ws : List (Int × CW)} (h : ws ≠ []) : againL node (xO node) (txI ws 0) = againL node (newX (s0C node)) (beganT 0 ws) := by
  unfold txI
  rw [if_pos (List.length_pos_iff.2 h)]
  rfl
theorem begun_to {node : Int} {ws : List (Int × CW)} (hn : (ws.map (·.1)).Nodup) : (againL node (newX (s0C node)) (beganT 0 ws)).map (·.To) = ws.map (·.1) := by
  rw [again_begun (s := s0C node) hn]
  unfold beginOut pq
  rw [List.map_map, List.map_map]; rfl
theorem begA_of {node : Int} {l : List Work} {vs : List (Int × WV)} (hws : pqV vs = works0 0 l) (hne : vs ≠ []) : BegA (s0C node) 0 l (xO node) (againL node (newX (s0C node)) (beganT 0 (wsV vs))) 0 (beginS (s0C node) 0 (wsV vs)) :=
  ⟨wsV vs, pq_wsV.trans hws, .inr ⟨fun h => hne (by unfold wsV at h; exact List.map_eq_nil_iff.1 h), rfl, rfl, rfl, rfl⟩⟩
theorem begA_nil {node : Int} {l : List Work} {vs : List (Int × WV)} (hws : pqV vs = works0 0 l) (he : vs = []) : BegA (s0C node) 0 l ⟨0, 0, 0⟩ [] 4 (s0C node) :=
  ⟨wsV vs, pq_wsV.trans hws, .inl ⟨by rw [he]; rfl, rfl, rfl, rfl, rfl⟩⟩
theorem vs_nodup {l : List Work} {vs : List (Int × WV)} (hws : pqV vs = works0 0 l) : ((wsV vs).map (·.1)).Nodup := by
  have hwf : (wsV vs).map (·.1) = (works0 0 l).map (·.1) := works0_map (pq_wsV.trans hws)
  rw [hwf, List.nodup_iff_pairwise_ne]
  exact works0_rise.imp fun h e => by omega
end Go.Proofs.Ythoafjeampbkeaa
