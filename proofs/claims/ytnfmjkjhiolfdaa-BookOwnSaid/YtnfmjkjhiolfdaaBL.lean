/- The book: what it holds; asked. -/
import Derived.Test.YtnfmjkjhiolfdaaBF
import Derived.Test.YtnfmjkjhiolfdaaBI
import Derived.Test.YtnfmjkjhiolfdaaKC
set_option linter.unusedVariables false
set_option linter.unusedSimpArgs false
namespace Go.Proofs.Ytnfmjkjhiolfdaa
open Go Go.Sx Go.Proofs
instance : TAr Try.prog 59 16 3 := ⟨Try.underlying59⟩
instance : TAr Try.prog 60 16 28 := ⟨Try.underlying60⟩
/-- what a book's cells say -/
structure BkOk (H : Heap) (g : Value) (cs : List Value) (m : Map) (es : List Int) (rs : List Route) : Prop where
  g : rG H g m
  el : es.length = 16
  rl : rs.length = 16
  rr : RL rRoute H cs rs
  ef : ∀ e ∈ es, fits e
theorem BkOk.mono {H H' : Heap} {g : Value} {cs : List Value} {m : Map} {es : List Int} {rs : List Route} (h : BkOk H g cs m es rs) (hl : H.le H') : BkOk H' g cs m es rs := ⟨h.g.mono hl, h.el, h.rl, h.rr.mono hl, h.ef⟩
/-- a book: of each robot its epoch and route -/
def bookO (H : Heap) (p : Value) (m : Map) (es : List Int) (rs : List Route) : HProp := fun h => ∃ x : Nat × Value × List Value, (p = .pointer (some ⟨x.1, 0, none⟩) ∧ BkOk H x.2.1 x.2.2 m es rs) ∧ big [row x.1 68 (x.2.1 :: (es.map I ++ x.2.2))] h
theorem bookO_open {H H' : Heap} {p : Value} {m : Map} {es : List Int} {rs : List Route} {h : Heap} (hl : H.le H') (ho : bookO H p m es rs h) : ∃ x : Nat × Value × List Value, (p = .pointer (some ⟨x.1, 0, none⟩) ∧ BkOk H' x.2.1 x.2.2 m es rs) ∧ big [row x.1 68 (x.2.1 :: (es.map I ++ x.2.2))] h := by
  obtain ⟨x, ⟨e, a⟩, b⟩ := ho; exact ⟨x, ⟨e, a.mono hl⟩, b⟩
theorem bookO_shut {H : Heap} {b : Nat} {g : Value} {cs : List Value} {m : Map} {es : List Int} {rs : List Route} {L : List HProp} (h : BkOk H g cs m es rs) : Sub (row b 68 (g :: (es.map I ++ cs)) :: L) (bookO H (.pointer (some ⟨b, 0, none⟩)) m es rs :: L) :=
  sub_shut (B := [row b 68 (g :: (es.map I ++ cs))]) fun x hx => ⟨(b, g, cs), ⟨rfl, h⟩, hx⟩
theorem bookO_up {H H' : Heap} {p : Value} {m : Map} {es : List Int} {rs : List Route} {L : List HProp} (hl : H.le H') : Sub (bookO H p m es rs :: L) (bookO H' p m es rs :: L) := fun h ⟨h1, h2, a, r⟩ => ⟨h1, h2, bookO_open hl a, r⟩
theorem bookO_ptr {H : Heap} {p : Value} {m : Map} {es : List Int} {rs : List Route} {h : Heap} (ho : bookO H p m es rs h) : ∃ b, p = .pointer (some ⟨b, 0, none⟩) := by obtain ⟨x, ⟨e, _⟩, _⟩ := ho; exact ⟨_, e⟩
theorem bk_e {g : Value} {cs : List Value} {es : List Int} {j : Nat} (hj : j < es.length) : (g :: (es.map I ++ cs))[1 + j * 1]? = some (I es[j]) := by
  rw [Nat.mul_one, Nat.add_comm, List.getElem?_cons_succ, List.getElem?_append_left (by simpa using hj)]
  simp [hj]
theorem bk_r {H : Heap} {g : Value} {cs : List Value} {es : List Int} {rs : List Route} {j : Nat} (he : es.length = 16) (h : RL rRoute H cs rs) (hj : j < rs.length) : ∃ c, At (g :: (es.map I ++ cs)) (17 + j * 2) c ∧ rRoute H c rs[j] := by
  obtain ⟨c, r, e, hc⟩ := h.get hj
  refine ⟨c, fun i v hi => ?_, hc⟩
  have h1 : (g :: (es.map I ++ cs))[17 + j * 2 + i]? = cs[j * 2 + i]? := by
    rw [show 17 + j * 2 + i = (16 + (j * 2 + i)) + 1 by omega, List.getElem?_cons_succ, List.getElem?_append_right (by simp [he])]
    simp [he]
  rw [h1, ← List.getElem?_drop, e, List.getElem?_append_left (List.getElem?_eq_some_iff.1 hi).1]
  exact hi
def zEpochs : List Int := List.replicate 16 0
def zRoutes : List Route := List.replicate 16 zRoute
theorem bNew_spec {W0 : World} {H : Heap} {g : Value} {m : Map} (h : rG H g m) :
    Ct Try.prog 10 #[g] W0 H [] (fun r H' B => B = [bookO H r m zEpochs zRoutes] ∧ H' = H) := by
  refine Ct.go fun R => ?_
  have hg := h
  obtain ⟨⟨b, s, mb, mm, rfl, h1, h2, h3, h4⟩, hgd, hfs⟩ := h
  refine walk ?_
  refine ops_box rfl rfl fun p _ => ?_
  refine walk ?_
  have hz : ∀ n : Nat, RL rRoute H (List.replicate n [I 0, nilS]).flatten (List.replicate n zRoute) := fun n => by
    induction n with
    | zero => rfl
    | succ n ih => exact ⟨[I 0, nilS], _, rfl, zRoute_reads, ih⟩
  have hbk : BkOk H (.pointer (some ⟨b, 0, none⟩)) (List.replicate 16 [I 0, nilS]).flatten m zEpochs zRoutes := ⟨hg, rfl, rfl, hz 16, fun e he => by rw [List.eq_of_mem_replicate he]; exact fits0⟩
  refine finB [bookO H (.pointer (some ⟨p, 0, none⟩)) m zEpochs zRoutes] ?_ (hs := by exact bookO_shut (b := p) hbk)
  exact ⟨rfl, rfl⟩
theorem refused_spec {W0 : World} {H : Heap} {e : Int} :
    Ct Try.prog 27 #[I e] W0 H [] (fun r H' B => r = .agg [I e, I 0, I 0, nilS].toArray ∧ B = [] ∧ H' = H) := by
  refine Ct.go fun R => ?_
  refine walk ?_
  refine ops_alloc rfl fun p _ => ?_
  refine walk ?_
  refine fin0 ?_
  exact ⟨rfl, rfl, rfl⟩
/-- a robot's, or none's -/
def epochOf (es : List Int) (r : Int) : Int := if robI r then es.getD r.toNat 0 else 0
def routeOf (rs : List Route) (r : Int) : Route := if robI r then rs.getD r.toNat zRoute else zRoute
theorem epoch_spec {W0 : World} {H H0 : Heap} {p : Value} {m : Map} {es : List Int} {rs : List Route} {r : Int} (hl : H0.le H) :
    Ct Try.prog 18 #[p, I r] W0 H [bookO H0 p m es rs] (fun v H' B => v = I (epochOf es r) ∧ B = [bookO H p m es rs] ∧ H' = H) := by
  refine Ct.go fun R => ?_
  refine ex_open .here (fun h => bookO_open hl) fun ⟨b, g, cs⟩ ⟨hp, hb⟩ => ?_
  simp only at hp hb
  subst hp
  dsimp only
  refine walk ?_
  refine ops_pcall rfl rfl is_spec ?_
  by_cases hr : robI r
  · obtain ⟨j, rfl⟩ : ∃ j : Nat, r = j := ⟨r.toNat, by simp only [robI] at hr; omega⟩
    rw [decide_eq_true hr]
    have hj : j < 16 := by simp only [robI] at hr; omega
    have hj2 : j < es.length := by rw [hb.el]; exact hj
    refine walk ?_
    refine ops_ldc rfl rfl (bk_e hj2) ?_
    refine walk ?_
    refine finB [bookO H (.pointer (some ⟨b, 0, none⟩)) m es rs] ?_ (hs := bookO_shut hb)
    exact ⟨by unfold epochOf; rw [if_pos hr]; simp [List.getD, hj2], rfl, rfl⟩
  · rw [decide_eq_false hr]
    refine walk ?_
    refine finB [bookO H (.pointer (some ⟨b, 0, none⟩)) m es rs] ?_ (hs := bookO_shut hb)
    exact ⟨by unfold epochOf; rw [if_neg hr], rfl, rfl⟩
theorem routeB_spec {W0 : World} {H H0 : Heap} {p : Value} {m : Map} {es : List Int} {rs : List Route} {r : Int} (hl : H0.le H) :
    Ct Try.prog 15 #[p, I r] W0 H [bookO H0 p m es rs] (fun v H' B => ∃ w, v = .agg [I (routeOf rs r).Start, w].toArray ∧ B = [ownS rInt 1 8 3 H w (routeOf rs r).Cells, bookO H p m es rs] ∧ H' = H) := by
  refine Ct.go fun R => ?_
  refine ex_open .here (fun h => bookO_open hl) fun ⟨b, g, cs⟩ ⟨hp, hb⟩ => ?_
  simp only at hp hb
  subst hp
  dsimp only
  refine walk ?_
  refine ops_alloc rfl fun p4 _ => ?_
  refine walk ?_
  refine ops_pcall rfl rfl is_spec ?_
  by_cases hr : robI r
  · obtain ⟨j, rfl⟩ : ∃ j : Nat, r = j := ⟨r.toNat, by simp only [robI] at hr; omega⟩
    rw [decide_eq_true hr]
    have hj : j < 16 := by simp only [robI] at hr; omega
    have hj2 : j < rs.length := by rw [hb.rl]; exact hj
    have hrt : routeOf rs (j : Int) = rs[j] := by unfold routeOf; rw [if_pos hr]; simp [List.getD, hj2]
    obtain ⟨c, hat, hc⟩ := bk_r (g := g) hb.el hb.rr hj2
    have hlc := RdOk.len (R := rRoute) hc
    rw [hrt]
    refine walk ?_
    refine ops_ldat rfl rfl hat hlc ?_
    refine ops_alloc rfl fun p5 _ => ?_
    obtain ⟨s, rfl, f0, h0⟩ := hc
    obtain ⟨b0, c0, hsb, hc0, hd0⟩ := h0.1.shape
    rw [hsb] at h0 ⊢
    refine walk ?_
    refine ops_call (vs := [.slice b0 rs[j].Cells.length c0]) rfl rfl (cloneI_spec h0) fun r1 H1 B hl1 ⟨eB, eH⟩ => ?_
    subst eB eH
    refine ops_shape r1 fun d1 e1 e _ _ _ => ?_
    subst e
    refine walk ?_
    refine finB [ownS rInt 1 8 3 H1 (.slice d1 rs[j].Cells.length e1) rs[j].Cells, bookO H1 (.pointer (some ⟨b, 0, none⟩)) m es rs] ?_ (hs := Sub.trans (B := ownS rInt 1 8 3 H1 (.slice d1 rs[j].Cells.length e1) rs[j].Cells :: row b 68 (g :: (es.map I ++ cs)) :: R) ?_ (Sub.cons (bookO_shut hb)))
    · exact ⟨_, rfl, rfl, rfl⟩
    · (repeat (first | exact Sub.refl _ | exact Sub.nil _ | (apply sub_pick; (repeat (first | exact Has.here | apply Has.there)); skip) | apply Sub.drop))
  · have hrt : routeOf rs r = zRoute := by unfold routeOf; rw [if_neg hr]
    rw [decide_eq_false hr, hrt]
    refine walk ?_
    refine finB [ownS rInt 1 8 3 H nilS [], bookO H (.pointer (some ⟨b, 0, none⟩)) m es rs] ?_ (hs := Sub.trans (B := row b 68 (g :: (es.map I ++ cs)) :: R) ?_ ((bookO_shut hb).trans ownS_nil))
    · exact ⟨_, rfl, rfl, rfl⟩
    · (repeat (first | exact Sub.refl _ | exact Sub.nil _ | (apply sub_pick; (repeat (first | exact Has.here | apply Has.there)); skip) | apply Sub.drop))
end Go.Proofs.Ytnfmjkjhiolfdaa
