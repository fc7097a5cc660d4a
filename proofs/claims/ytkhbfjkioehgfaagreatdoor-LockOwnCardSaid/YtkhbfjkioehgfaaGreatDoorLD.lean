/- The table as an object that is owned; what is asked of it; the reference's small functions. -/
import Derived.Test.YtkhbfjkioehgfaaGreatDoorLC
import Derived.Test.YtkhbfjkioehgfaaGreatDoorKD
set_option linter.unusedVariables false
set_option linter.unusedSimpArgs false
namespace Go.Proofs.YtkhbfjkioehgfaaGreatDoor
open Go Go.Sx Go.Proofs
/-- what a table holds -/
structure TS where
  held : List (ByteArray × Int)
  locked : List (ByteArray × Txn)
  works : List (K3 × CW)
abbrev tRow (p hb lb wb : Nat) : HProp := row p 71 [.map (some hb), .map (some lb), .map (some wb)]
abbrev hMap (H : Heap) (hb : Nat) (s : TS) : HProp := mapO Value.string rInt false H hb s.held
abbrev lMap (H : Heap) (lb : Nat) (s : TS) : HProp := mapO Value.string rTxn true H lb s.locked
abbrev wMap (H : Heap) (wb : Nat) (s : TS) : HProp := mapO ek3 rCW true H wb s.works
/-- a table, owned: what lies in it is s -/
def tabO (H : Heap) (p : Nat) (s : TS) : HProp := fun h => ∃ hb lb wb, big [tRow p hb lb wb, hMap H hb s, lMap H lb s, wMap H wb s] h
theorem tab_fold {H : Heap} {p hb lb wb : Nat} {s : TS} {L : List HProp} : Sub (tRow p hb lb wb :: hMap H hb s :: lMap H lb s :: wMap H wb s :: L) (tabO H p s :: L) :=
  sub_fold (B := [tRow p hb lb wb, hMap H hb s, lMap H lb s, wMap H wb s]) (Sub.refl _) fun h hb' => ⟨hb, lb, wb, hb'⟩
theorem new_spec {W0 : World} {H : Heap} :
    Ct Tryz.prog 8 #[] W0 H [] (fun r H' B => ∃ p, r = .pointer (some ⟨p, 0, none⟩) ∧ B = [tabO H p ⟨[], [], []⟩] ∧ H' = H) := by
  refine Ct.go (vs := []) fun R => ?_
  refine walk ?_
  refine ops_makeMap Value.string rInt false rfl fun b1 _ => ?_
  refine ops_makeMap Value.string rTxn true rfl fun b2 _ => ?_
  refine ops_makeMap ek3 rCW true rfl fun b3 _ => ?_
  refine walk ?_
  refine ops_box rfl rfl fun p _ => ?_
  refine walk ?_
  refine finB [tabO H p ⟨[], [], []⟩] ?_ (hs := ?_)
  · exact ⟨p, rfl, rfl, rfl⟩
  · refine Sub.trans ?_ (tab_fold (hb := b1) (lb := b2) (wb := b3))
    (repeat (first | exact Sub.refl _ | exact Sub.nil _ | (apply sub_pick; (repeat (first | exact Has.here | apply Has.there)); skip) | apply Sub.drop))
theorem tab_up {H H' : Heap} {p : Nat} {s : TS} {L : List HProp} (hl : H.le H') : Sub (tabO H p s :: L) (tabO H' p s :: L) := fun h ⟨h1, h2, ⟨hb, lb, wb, hbig⟩, r⟩ => by
  refine ⟨h1, h2, ⟨hb, lb, wb, ?_⟩, r⟩
  obtain ⟨a1, a2, x1, ⟨b1, b2, x2, ⟨c1, c2, x3, ⟨d1, d2, x4, y4⟩, y3⟩, y2⟩, y1⟩ := hbig
  exact ⟨a1, a2, x1, ⟨b1, b2, (let ⟨es, c, a, e⟩ := x2; ⟨es, c, a.mono hl, e⟩), ⟨c1, c2, (let ⟨es, c, a, e⟩ := x3; ⟨es, c, a.mono hl, e⟩), ⟨d1, d2, (let ⟨es, c, a, e⟩ := x4; ⟨es, c, a.mono hl, e⟩), y4⟩, y3⟩, y2⟩, y1⟩
def holderV (s : TS) (k : ByteArray) : Value := .tuple [I ((mget k s.held).getD 0), .bool (mget k s.held).isSome].toArray
theorem holder_spec {W0 : World} {H : Heap} {p : Nat} {s : TS} {k : ByteArray} :
    Ct Tryz.prog 16 #[.pointer (some ⟨p, 0, none⟩), .string k] W0 H [tabO H p s] (fun r H' B => r = holderV s k ∧ B = [tabO H p s] ∧ H' = H) := by
  refine Ct.go (vs := [.pointer (some ⟨p, 0, none⟩), .string k]) fun R => ?_
  refine ex_open (A := tabO H p s) (σ := Nat × Nat × Nat) (B := fun a => [tRow p a.1 a.2.1 a.2.2, hMap H a.1 s, lMap H a.2.1 s, wMap H a.2.2 s]) (p := fun _ => True) (by repeat (first | exact Has.here | apply Has.there)) (fun h ⟨hb, lb, wb, hbig⟩ => ⟨(hb, lb, wb), trivial, hbig⟩) fun ⟨hb, lb, wb⟩ _ => ?_
  dsimp only
  refine walk ?_
  refine ops_lkA2 (RV := rInt) (ag := false) (z := 0) rfl rfl (by repeat (first | exact Has.here | apply Has.there)) ?_
  refine walk ?_
  refine finB [tabO H p s] ?_ (hs := ?_)
  · exact ⟨rfl, rfl, rfl⟩
  · refine Sub.trans ?_ (tab_fold (hb := hb) (lb := lb) (wb := wb))
    (repeat (first | exact Sub.refl _ | exact Sub.nil _ | (apply sub_pick; (repeat (first | exact Has.here | apply Has.there)); skip) | apply Sub.drop))
def lockedV (s : TS) (k : ByteArray) : Value := .tuple [.agg ((mget k s.locked).getD zTxn).cv.toArray, .bool (mget k s.locked).isSome].toArray
theorem locked_spec {W0 : World} {H : Heap} {p : Nat} {s : TS} {k : ByteArray} :
    Ct Tryz.prog 18 #[.pointer (some ⟨p, 0, none⟩), .string k] W0 H [tabO H p s] (fun r H' B => r = lockedV s k ∧ B = [tabO H p s] ∧ H' = H) := by
  refine Ct.go (vs := [.pointer (some ⟨p, 0, none⟩), .string k]) fun R => ?_
  refine ex_open (A := tabO H p s) (σ := Nat × Nat × Nat) (B := fun a => [tRow p a.1 a.2.1 a.2.2, hMap H a.1 s, lMap H a.2.1 s, wMap H a.2.2 s]) (p := fun _ => True) (by repeat (first | exact Has.here | apply Has.there)) (fun h ⟨hb, lb, wb, hbig⟩ => ⟨(hb, lb, wb), trivial, hbig⟩) fun ⟨hb, lb, wb⟩ _ => ?_
  dsimp only
  refine walk ?_
  refine ops_alloc rfl fun p2 _ => ?_
  refine walk ?_
  refine ops_lkA2 (RV := rTxn) (ag := true) (z := zTxn) rfl rfl (by repeat (first | exact Has.here | apply Has.there)) ?_
  refine walk ?_
  refine ops_alloc rfl fun p3 _ => ?_
  refine walk ?_
  refine finB [tabO H p s] ?_ (hs := ?_)
  · exact ⟨rfl, rfl, rfl⟩
  · refine Sub.trans ?_ (tab_fold (hb := hb) (lb := lb) (wb := wb))
    (repeat (first | exact Sub.refl _ | exact Sub.nil _ | (apply sub_pick; (repeat (first | exact Has.here | apply Has.there)); skip) | apply Sub.drop))
end Go.Proofs.YtkhbfjkioehgfaaGreatDoor
