/- What is wrong with a job. -/
import Derived.Test.YtafhinjggdknjaaDoorPE35
import Derived.Test.YtafhinjggdknjaaDoorPGL
import Derived.Test.YtafhinjggdknjaaDoorPLF
set_option linter.unusedVariables false
set_option linter.unusedSimpArgs false
namespace Go.Proofs.YtafhinjggdknjaaDoor
open Go Go.Sx Go.X Go.Proofs
structure RestV where
  ok : Bool
  comes : Int
  far : Int
  passes : Int
  next : Int
def toV : Option PRest → RestV
  | none => ⟨false, 0, 0, 0, 0⟩
  | some x => ⟨true, x.comes, x.far, x.passes, x.next⟩
def zRV : RestV := ⟨false, 0, 0, 0, 0⟩
def RestV.cv (x : RestV) : List Value := [.bool x.ok, I x.comes, I x.far, I x.passes, I x.next]
def fitV (x : RestV) : Prop := (fits x.comes ∧ fits x.far) ∧ fits x.passes ∧ fits x.next
def rRV : Rd RestV := fun _ c x => c = x.cv ∧ fitV x
instance : RdOk rRV 5 := ⟨fun ⟨h, _⟩ => by subst h; rfl, fun ⟨h, _⟩ => by subst h; rfl, fun _ h => h⟩
instance : RdFlat rRV := ⟨fun h => h⟩
theorem fitV_z : fitV zRV := by simp only [fitV, zRV]; exact ⟨⟨fits0, fits0⟩, fits0, fits0⟩
def betV (a b : RestV) : Prop := if a.ok = true ∧ b.ok = true then a.comes < b.comes ∨ a.comes = b.comes ∧ (a.far < b.far ∨ a.far = b.far ∧ (a.passes < b.passes ∨ a.passes = b.passes ∧ a.next < b.next)) else a.ok = true
instance {a b : RestV} : Decidable (betV a b) := by unfold betV; infer_instance
theorem pick_V {cur x : Option PRest} : toV (pickB cur x) = if betV (toV x) (toV cur) then toV x else toV cur := by
  cases x with
  | none =>
    rw [if_neg (by simp [betV, toV])]; rfl
  | some x =>
    cases cur with
    | none => rw [if_pos (by simp [betV, toV])]; rfl
    | some b =>
      have e : betV (toV (some x)) (toV (some b)) ↔ rlt x b := by simp [betV, toV, rlt]
      simp only [pickB]
      by_cases h : rlt x b
      · rw [if_pos h, if_pos (e.2 h)]
      · rw [if_neg h, if_neg (fun g => h (e.1 g))]
theorem passA_le : ∀ {l : List Int}, 0 ≤ passA l ∧ passA l ≤ l.length
  | [] => by simp [passA]
  | [c] => by simp [passA]
  | c :: d :: l => by
    have := passA_le (l := d :: l)
    simp only [passA, List.length_cons] at *
    split <;> omega
theorem comes_le {goal : Int} : ∀ {l : List Int} {t : Int}, t + l.length ≤ bigT → comesA goal t l ≤ bigT
  | [], t, _ => by simp [comesA]
  | [c], t, h => by simp only [comesA]; simp only [List.length_cons, List.length_nil] at h; split <;> omega
  | c :: d :: l, t, h => by
    have := comes_le (goal := goal) (l := d :: l) (t := t + 1) (by simp only [List.length_cons] at *; omega)
    simp only [comesA]; simp only [List.length_cons] at h; split <;> omega
theorem last_mem : ∀ {l : List Int}, l ≠ [] → lastA l ∈ l
  | [], h => absurd rfl h
  | [c], _ => by simp [lastA]
  | c :: d :: l, _ => by
    have := last_mem (l := d :: l) (by simp)
    simp only [lastA]
    exact List.mem_cons_of_mem _ this
theorem dist_le {m : Map} (h : sidesM m) {goal c : Int} (hg : isC m goal) (hc : isC m c) : 0 ≤ distM m goal c ∧ distM m goal c ≤ 30 := by
  obtain ⟨⟨a1, a2⟩, a3, a4⟩ := cell_xy h hg
  obtain ⟨⟨b1, b2⟩, b3, b4⟩ := cell_xy h hc
  simp only [sidesM] at h
  unfold distM
  omega
theorem tab_next {m : Map} {tk : List ByteArray} {goal : Int} {k : Nat} {t c : Int} {x : PRest} (h : planT m tk goal k t c = some x) : x.next = 0 ∨ x.next ∈ nextR m c := by
  unfold planT at h
  cases k with
  | zero =>
    simp only [tabP] at h
    split at h
    · have := Option.some.inj h; rw [← this]; exact .inl rfl
    · cases h
  | succ k =>
    simp only [tabP] at h
    split at h
    · rcases bestOf_spec (f := candP (pkM tk) goal (tabP (nextR m) (avM m tk) (pkM tk) goal (distM m goal) k (t + 1)) t c) (l := nextR m c) _ rfl with ⟨h1, _⟩ | ⟨y, h1, ⟨to, hto, hy⟩, _⟩
      · rw [h1] at h; cases h
      · rw [h1] at h
        obtain rfl := Option.some.inj h
        right
        unfold candP at hy
        split at hy
        · cases hy
        · split at hy
          · have := Option.some.inj hy; rw [← this]; exact hto
          · cases hy
    · cases h
theorem next_cell {m : Map} {c d : Int} (h : d ∈ nextR m c) : isC m d := (mem_nextR.1 h).1.2.2
theorem tab_small {m : Map} (hs : sidesM m) {tk : List ByteArray} {goal : Int} (hg : isC m goal) {k : Nat} {t c : Int} (h0 : 0 ≤ t) (hb : t + k + 1 ≤ 2000000000) (hk : k ≤ 24) {x : PRest} (h : planT m tk goal k t c = some x) :
    (t ≤ x.comes ∧ x.comes ≤ bigT) ∧ (0 ≤ x.far ∧ x.far ≤ 30) ∧ (0 ≤ x.passes ∧ x.passes ≤ 25) ∧ 0 ≤ x.next ∧ x.next < 256 := by
  have hbig : bigT = 9223372036854775807 := rfl
  have har := area hs
  have hn : 0 ≤ x.next ∧ x.next < 256 := by
    rcases tab_next h with e | e
    · omega
    · have := next_cell e; simp only [isC] at this; omega
  rcases tab_spec (nextR m) (avM m tk) (pkM tk) goal (distM m goal) (k := k) (t := t) (c := c) (by omega) with ⟨h1, _⟩ | ⟨y, h1, h2, ⟨h3, h4, h5⟩, _⟩
  · unfold planT at h; rw [h1] at h; cases h
  · unfold planT at h; rw [h1] at h
    obtain rfl := Option.some.inj h
    obtain ⟨l, e, hl⟩ := path_head (nextR m) (avM m tk) (pkM tk) goal (distM m goal) (k := k) (t := t) (c := c)
    rw [e] at h2 h3 h4 h5
    have hlen : (c :: l).length = k + 1 := by simp [hl]
    have p1 := comes_ge goal (l := c :: l) (t := t) (by rw [hlen]; omega)
    have p2 := comes_le (goal := goal) (l := c :: l) (t := t) (by rw [hlen]; omega)
    have p3 := passA_le (l := c :: l)
    have p4 := dist_le hs hg ((ok_free (m := m) (tk := tk) h2 _ (last_mem (by simp))).2)
    rw [hlen] at p3
    refine ⟨⟨by omega, by omega⟩, ⟨by omega, by omega⟩, ⟨by omega, by omega⟩, hn⟩
theorem toV_fit {m : Map} (hs : sidesM m) {tk : List ByteArray} {goal : Int} (hg : isC m goal) {k : Nat} {t c : Int} (h0 : 0 ≤ t) (hb : t + k + 1 ≤ 2000000000) (hk : k ≤ 24) : fitV (toV (planT m tk goal k t c)) := by
  cases h : planT m tk goal k t c with
  | none => exact fitV_z
  | some x =>
    have hbig : bigT = 9223372036854775807 := rfl
    have := tab_small hs hg h0 hb hk h
    simp only [fitV, toV]
    refine ⟨⟨?_, ?_⟩, ?_, ?_⟩ <;> unfold fits <;> omega
def rowP (m : Map) (tk : List ByteArray) (goal : Int) (k : Nat) (t : Int) (n c : Nat) : List RestV := (List.range n).map fun x => if x < c then toV (planT m tk goal k t x) else zRV
section
variable {m : Map} {tk : List ByteArray} {goal t : Int} {k n c : Nat}
theorem rowP_len : (rowP m tk goal k t n c).length = n := by simp [rowP]
theorem rowP_get {x : Nat} (hx : x < n) : (rowP m tk goal k t n c)[x]'(by rw [rowP_len]; exact hx) = if x < c then toV (planT m tk goal k t x) else zRV := by simp [rowP]
theorem rowP_zero : rowP m tk goal k t n 0 = List.replicate n zRV := by
  apply List.ext_getElem <;> simp [rowP]
theorem rowP_succ (hc : c < n) : rowP m tk goal k t n (c + 1) = (rowP m tk goal k t n c).set c (toV (planT m tk goal k t c)) := by
  apply List.ext_getElem
  · simp [rowP_len]
  · intro x h1 h2
    rw [rowP_len] at h1
    rw [rowP_get h1, List.getElem_set]
    by_cases e : c = x
    · subst e; rw [if_pos (by omega), if_pos rfl]
    · rw [if_neg e, rowP_get h1]
      by_cases h3 : x < c
      · rw [if_pos h3, if_pos (by omega)]
      · rw [if_neg h3, if_neg (by omega)]
theorem rowP_skip (hc : c < n) (h : planT m tk goal k t c = none) : rowP m tk goal k t n (c + 1) = rowP m tk goal k t n c := by
  rw [rowP_succ hc, h]
  apply List.ext_getElem
  · simp
  · intro x h1 h2
    rw [List.getElem_set]
    by_cases e : c = x
    · subst e
      rw [if_pos rfl, rowP_get hc, if_neg (by omega)]; rfl
    · rw [if_neg e]
theorem rowP_self (hc : c < n) : (rowP m tk goal k t n c).set c zRV = rowP m tk goal k t n c := by
  apply List.ext_getElem
  · simp
  · intro x h1 h2
    rw [List.getElem_set]
    by_cases e : c = x
    · subst e
      rw [if_pos rfl, rowP_get hc, if_neg (by omega)]
    · rw [if_neg e]
end
def xV (pk : Bool) (goal t c to : Int) (y : RestV) : RestV := ⟨y.ok && (decide (to = c) || pk), if c = goal ∧ y.comes = t + 1 then t else y.comes, y.far, if to = c then y.passes else y.passes + 1, to⟩
theorem xV_cand {m : Map} {tk : List ByteArray} {goal t c to : Int} {k : Nat} {cur : Option PRest} :
    (if betV (xV (pkM tk t c to) goal t c to (toV (planT m tk goal k (t + 1) to))) (toV cur) then xV (pkM tk t c to) goal t c to (toV (planT m tk goal k (t + 1) to)) else toV cur) = toV (pickB cur (candP (pkM tk) goal (fun d => planT m tk goal k (t + 1) d) t c to)) := by
  rw [pick_V]
  cases h : planT m tk goal k (t + 1) to with
  | none =>
    have e1 : ¬ betV (xV (pkM tk t c to) goal t c to (toV none)) (toV cur) := by simp [betV, xV, toV]
    have e2 : candP (pkM tk) goal (fun d => planT m tk goal k (t + 1) d) t c to = none := by simp [candP, h]
    rw [if_neg e1, e2, if_neg (by simp [betV, toV])]
  | some y =>
    by_cases hp : to = c ∨ pkM tk t c to = true
    · have e2 : candP (pkM tk) goal (fun d => planT m tk goal k (t + 1) d) t c to = some (relax goal t c to y) := by simp only [candP, h]; rw [if_pos hp]
      have e1 : xV (pkM tk t c to) goal t c to (toV (some y)) = toV (some (relax goal t c to y)) := by
        simp only [xV, toV, relax, RestV.mk.injEq]
        refine ⟨?_, rfl, trivial, ?_, trivial⟩
        · rcases hp with hp | hp <;> simp [hp]
        · split <;> omega
      rw [e1, e2]
    · have e2 : candP (pkM tk) goal (fun d => planT m tk goal k (t + 1) d) t c to = none := by simp only [candP, h]; rw [if_neg hp]
      have e3 : ¬ betV (xV (pkM tk t c to) goal t c to (toV (some y))) (toV cur) := by
        have h1 : ¬ to = c := fun e => hp (.inl e)
        have h2 : pkM tk t c to = false := by cases hq : pkM tk t c to with | false => rfl | true => exact absurd (.inr hq) hp
        simp [betV, xV, h1, h2]
      rw [if_neg e3, e2, if_neg (by simp [betV, toV])]
theorem planT_succ {m : Map} {tk : List ByteArray} {goal t c : Int} {k : Nat} : planT m tk goal (k + 1) t c = if avM m tk t c = true then bestOf (candP (pkM tk) goal (fun d => planT m tk goal k (t + 1) d) t c) (nextR m c) else none := rfl
theorem planT_zero {m : Map} {tk : List ByteArray} {goal t c : Int} : planT m tk goal 0 t c = if avM m tk t c = true then some ⟨if c = goal then t else bigT, distM m goal c, 0, 0⟩ else none := rfl
theorem planP_succ {m : Map} {tk : List ByteArray} {goal t c : Int} {k : Nat} : planP m tk goal (k + 1) t c = c :: planP m tk goal k (t + 1) (toV (planT m tk goal (k + 1) t c)).next := by
  have : nextO (tabP (nextR m) (avM m tk) (pkM tk) goal (distM m goal) (k + 1) t c) = (toV (planT m tk goal (k + 1) t c)).next := by
    unfold planT
    cases tabP (nextR m) (avM m tk) (pkM tk) goal (distM m goal) (k + 1) t c <;> rfl
  unfold planP
  rw [← this]; rfl
def laterBad (t n : Int) : Prop := (¬ tickI t ∨ n < -t) ∨ 1073741824 - t < n
instance {t n : Int} : Decidable (laterBad t n) := by unfold laterBad; infer_instance
def laterV (t n : Int) : Value := if laterBad t n then .tuple #[I 0, I 122] else .tuple #[I (t + n), I 0]
theorem later_spec {W0 : GW} {H : Heap} {t n : Int} (hn : fits n) :
    Ct Tryd.prog 47 #[I t, I n] W0 H [] (fun r H' B => r = laterV t n ∧ B = [] ∧ H' = H) := by
  refine Ct.go fun R => ?_
  refine walkG ?_
  refine ex_if rfl (fun h => ?_) (fun h => ?_)
  · refine walk ?_
    refine fin0 ?_
    refine ⟨?_, rfl, rfl⟩
    unfold laterV
    rw [if_pos (by unfold laterBad tickI; omega)]
  · have h1 : tickI t := by unfold tickI; omega
    have h2 := h1
    simp only [tickI] at h2
    have hf : fits (t + n) := by unfold fits; omega
    refine walk ?_
    refine fin0 ?_
    refine ⟨?_, rfl, rfl⟩
    unfold laterV
    rw [if_neg (by unfold laterBad tickI; omega)]
theorem far_spec {W0 : GW} {H : Heap} {p : Value} {m : Map} {x y : Int} (h : rG W0 H p m) (hx : isC m x) (hy : isC m y) :
    Ct Tryd.prog 23 #[p, I x, I y] W0 H [] (fun r H' B => r = I (distM m y x) ∧ B = [] ∧ H' = H) := by
  refine Ct.go fun R => ?_
  have hw := h.good.1.1
  obtain ⟨⟨a1, a2⟩, a3, a4⟩ := cell_xy hw hx
  obtain ⟨⟨b1, b2⟩, b3, b4⟩ := cell_xy hw hy
  simp only [sidesM] at hw
  refine walk ?_
  refine ops_pcall rfl rfl (place_yes h hx) ?_
  refine walk ?_
  refine ops_pcall rfl rfl (place_yes h hy) ?_
  have g1 : fits (x.tmod m.W - y.tmod m.W) := by unfold fits; omega
  have g2 : fits (y.tmod m.W - x.tmod m.W) := by unfold fits; omega
  have g3 : fits (x.tdiv m.W - y.tdiv m.W) := by unfold fits; omega
  have g4 : fits (y.tdiv m.W - x.tdiv m.W) := by unfold fits; omega
  have g5 : fits (max (x.tmod m.W - y.tmod m.W) (y.tmod m.W - x.tmod m.W) + max (x.tdiv m.W - y.tdiv m.W) (y.tdiv m.W - x.tdiv m.W)) := by unfold fits; omega
  refine walk ?_
  refine fin0 ?_
  exact ⟨rfl, rfl, rfl⟩
theorem nan_spec {W0 : GW} {H : Heap} {x : Int} :
    Ct Tryd.prog 65 #[I x] W0 H [] (fun r H' B => r = .bool false ∧ B = [] ∧ H' = H) := by
  refine Ct.go fun R => ?_
  refine walk ?_
  refine fin0 ?_
  exact ⟨by simp, rfl, rfl⟩
def cmpI (a b : Int) : Int := if a < b then -1 else if b < a then 1 else 0
theorem cmp_spec {W0 : GW} {H : Heap} {a b : Int} :
    Ct Tryd.prog 54 #[I a, I b] W0 H [] (fun r H' B => r = I (cmpI a b) ∧ B = [] ∧ H' = H) := by
  refine Ct.go fun R => ?_
  refine walk ?_
  refine ops_pcall rfl rfl nan_spec ?_
  refine walk ?_
  refine ops_pcall rfl rfl nan_spec ?_
  refine walk ?_
  refine ex_if rfl (fun h => ?_) (fun h => ?_)
  · refine walk ?_
    refine fin0 ?_
    exact ⟨by unfold cmpI; rw [if_pos h], rfl, rfl⟩
  refine walk ?_
  refine ex_if rfl (fun h2 => ?_) (fun h2 => ?_)
  · refine walk ?_
    refine fin0 ?_
    exact ⟨by unfold cmpI; rw [if_neg h, if_pos h2], rfl, rfl⟩
  · refine walk ?_
    refine fin0 ?_
    exact ⟨by unfold cmpI; rw [if_neg h, if_neg h2], rfl, rfl⟩
def orI : List Int → Int
  | [] => 0
  | x :: r => if x ≠ 0 then x else orI r
theorem or_spec {W0 : GW} {H : Heap} {v : Value} {xs : List Int} (h0 : SlR rInt 1 H v xs) :
    Ct Tryd.prog 53 #[v] W0 H [] (fun r H' B => r = I (orI xs) ∧ B = [] ∧ H' = H) := by
  refine Ct.go fun R => ?_
  obtain ⟨b0, c0, rfl, hc0, hd0⟩ := h0.shape
  refine walk ?_
  refine ex_loop (σ := Nat) (fun k => k ≤ xs.length ∧ orI (xs.drop k) = orI xs) (fun k => [(3, I 0), (6, .slice b0 xs.length c0), (7, I xs.length), (8, I k)]) (fun _ => H) (fun _ => R) (fun k => xs.length - k) 0 ⟨Nat.zero_le _, rfl⟩ fun k ⟨hk0, hd⟩ K hL => ?_
  refine walk ?_
  refine ex_if rfl (fun hk => ?_) (fun hk => ?_)
  · have hk1 : k < xs.length := by omega
    rw [List.drop_eq_getElem_cons hk1, orI] at hd
    refine walk ?_
    refine ex_if rfl (fun hq => ?_) (fun hq => ?_)
    · rw [if_pos hq] at hd
      refine walk ?_
      refine fin0 ?_
      exact ⟨by rw [hd], rfl, rfl⟩
    · rw [if_neg hq] at hd
      refine walk ?_
      refine out_next hL (k + 1) ⟨by omega, hd⟩
  · clear hL
    refine walk ?_
    refine fin0 ?_
    obtain rfl : k = xs.length := by omega
    rw [List.drop_length] at hd
    exact ⟨by rw [← hd]; rfl, rfl, rfl⟩
theorem cmp_fits {a b : Int} : fits (cmpI a b) := by unfold cmpI; split; · unfold fits; omega
                                                     · split <;> unfold fits <;> omega
theorem or4 {a1 a2 a3 a4 b1 b2 b3 b4 : Int} : orI [cmpI a1 b1, cmpI a2 b2, cmpI a3 b3, cmpI a4 b4] < 0 ↔ a1 < b1 ∨ a1 = b1 ∧ (a2 < b2 ∨ a2 = b2 ∧ (a3 < b3 ∨ a3 = b3 ∧ a4 < b4)) := by
  simp only [orI, cmpI]
  repeat' split
  all_goals omega
set_option maxHeartbeats 4000000 in
theorem better_spec {W0 : GW} {H : Heap} {a b : RestV} :
    Ct Tryd.prog 26 #[.agg a.cv.toArray, .agg b.cv.toArray] W0 H [] (fun r H' B => r = .bool (decide (betV a b)) ∧ B = []) := by
  refine Ct.go (vs := [.agg a.cv.toArray, .agg b.cv.toArray]) fun R => ?_
  obtain ⟨o1, a1, a2, a3, a4⟩ := a
  obtain ⟨o2, b1, b2, b3, b4⟩ := b
  have ntt : ¬ ¬ true = true := fun h => h rfl
  have nff : ¬ false = true := fun h => by cases h
  refine walk ?_
  refine ops_box rfl rfl fun p2 _ => ?_
  refine ops_box rfl rfl fun p3 _ => ?_
  cases o1 with
  | false =>
    refine walk ?_
    refine fin0 ?_
    exact ⟨by simp [betV], rfl⟩
  | true =>
    cases o2 with
    | false =>
      refine walk ?_
      refine fin0 ?_
      exact ⟨by simp [betV], rfl⟩
    | true =>
      refine walk ?_
      refine ex_any 21 [row p2 76 [.bool true, I a1, I a2, I a3, I a4], row p3 76 [.bool true, I b1, I b2, I b3, I b4]] ?_
      refine stepY 0 ?_; refine stepY 1 ?_; refine stepY 2 ?_; refine stepY 3 ?_; refine stepY 5 ?_; refine stepY 6 ?_; refine stepY 7 ?_; refine stepY 8 ?_; refine stepY 10 ?_; refine stepY 11 ?_; refine stepY 12 ?_; refine stepY 13 ?_; refine stepY 15 ?_; refine stepY 16 ?_; refine stepY 17 ?_; refine stepY 18 ?_
      refine gny_pcall 4 rfl rfl rfl cmp_spec ?_
      refine gny_pcall 9 rfl rfl rfl cmp_spec ?_
      refine gny_pcall 14 rfl rfl rfl cmp_spec ?_
      refine gny_pcall 19 rfl rfl rfl cmp_spec ?_
      refine gny_bsN 20 rfl rfl rfl fun pb hb => ?_
      refine any_rest rfl ?_
      refine ops_frzR .here fun H1 hl1 hr1 => ?_
      have hf : ∀ x ∈ [cmpI a1 b1, cmpI a2 b2, cmpI a3 b3, cmpI a4 b4], fits x := fun x hx => by
        simp only [List.mem_cons, List.not_mem_nil, or_false] at hx
        rcases hx with rfl | rfl | rfl | rfl <;> exact cmp_fits
      have hs4 : SlR rInt 1 H1 (.slice (some ⟨pb, 0, none⟩) 4 4) [cmpI a1 b1, cmpI a2 b2, cmpI a3 b3, cmpI a4 b4] := slr_of_hrow (xs := [cmpI a1 b1, cmpI a2 b2, cmpI a3 b3, cmpI a4 b4]) hr1 (RL.mk1 (R := rInt) (val := fun x => .int .i64 x) (ok := fits) hf) (by simp) (by simp)
      refine ops_pcall rfl rfl (or_spec hs4) ?_
      refine walkG ?_
      refine fin0 ?_
      refine ⟨?_, rfl⟩
      simp only [betV, and_self, if_true]
      exact bdec or4
def lookV (m : Map) (j : Job) : Int := if ¬ (freeC m j.Cell ∧ freeC m j.Goal) then 121 else if j.N < 1 ∨ 24 < j.N then 1 else if laterBad j.Tick (j.N - 1) then 122 else 0
theorem look_spec {W0 : GW} {H : Heap} {p : Value} {c : List Value} {m : Map} {j : Job} (h : rG W0 H p m) (h0 : rJob H c j) :
    Ct Tryd.prog 19 #[p, .agg c.toArray] W0 H [] (fun r H' B => r = I (lookV m j) ∧ B = [] ∧ H' = H) := by
  refine Ct.go (vs := [p, .agg c.toArray]) fun R => ?_
  obtain ⟨s0, rfl, f1, f2, f3, f4, h0⟩ := h0
  obtain ⟨b0, c0, rfl, _, _⟩ := h0.1.shape
  refine walk ?_
  refine ops_box rfl rfl fun p3 _ => ?_
  refine walk ?_
  refine ops_pcall rfl rfl (gFree_spec h) ?_
  refine walkG ?_
  refine ops_gcall rfl rfl (fun hg => gFree_spec h) ?_
  refine walkG ?_
  refine ex_if rfl (fun hq => ?_) (fun hq => ?_)
  · refine walk ?_
    refine fin0 ?_
    refine ⟨?_, rfl, rfl⟩
    unfold lookV
    rw [if_pos (fun e => by rcases hq with hq | hq; exact hq e.1; exact hq e.2)]
  have hfr : freeC m j.Cell ∧ freeC m j.Goal := ⟨Classical.not_not.1 fun e => hq (.inl e), Classical.not_not.1 fun e => hq (.inr e)⟩
  refine walkG ?_
  refine ex_if rfl (fun hn => ?_) (fun hn => ?_)
  · refine walk ?_
    refine fin0 ?_
    refine ⟨?_, rfl, rfl⟩
    unfold lookV
    rw [if_neg (fun e => e hfr), if_pos hn]
  have fn : fits (j.N - 1) := by unfold fits; omega
  refine walk ?_
  refine ops_pcall rfl rfl (later_spec fn) ?_
  unfold laterV
  by_cases hb : laterBad j.Tick (j.N - 1)
  · rw [if_pos hb]
    refine walk ?_
    refine fin0 ?_
    refine ⟨?_, rfl, rfl⟩
    unfold lookV
    rw [if_neg (fun e => e hfr), if_neg hn, if_pos hb]
  · rw [if_neg hb]
    refine walk ?_
    refine fin0 ?_
    refine ⟨?_, rfl, rfl⟩
    unfold lookV
    rw [if_neg (fun e => e hfr), if_neg hn, if_neg hb]
end Go.Proofs.YtafhinjggdknjaaDoor
