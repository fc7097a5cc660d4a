/- The law MergeOwn, walked. -/
import Derived.Test.YtjkiioicjmaeoaaQCB
import Derived.Test.YtjkiioicjmaeoaaQMP
import Derived.Test.YtjkiioicjmaeoaaQZM
set_option linter.unusedVariables false
set_option linter.unusedSimpArgs false
namespace Go.Proofs.Ytjkiioicjmaeoaa
open Go Go.Sx Go.X Go.Proofs
def stepM (fl : Int) (m : List (ByteArray × Int)) (e : Entry) : List (ByteArray × Int) := if fl < e.Seq then m else mset e.Key ((mget e.Key m).getD 0 + 1) m
def cntM (fl : Int) (pre : List Entry) : List (ByteArray × Int) := pre.foldl (stepM fl) []
def goneP (fl : Int) (bt : Bool) (pre : List Entry) (e : Entry) : Bool := if fl < e.Seq then false else decide (1 < (mget e.Key (cntM fl pre)).getD 0 + 1) || (bt && e.Del)
theorem cnt_gen (fl : Int) (k : ByteArray) : ∀ (xs : List Entry) (m : List (ByteArray × Int)), (mget k (xs.foldl (stepM fl) m)).getD 0 = (mget k m).getD 0 + ((xs.filter fun x => decide (x.Key = k ∧ ¬ fl < x.Seq)).length : Int)
  | [], m => by simp
  | e :: t, m => by
    rw [List.foldl_cons, cnt_gen fl k t, List.filter_cons]
    unfold stepM
    by_cases h : fl < e.Seq
    · simp [h]
    · by_cases hk : e.Key = k
      · subst hk
        simp only [h, if_false, not_false_eq_true, and_self, decide_true, if_true, List.length_cons, mget_mset, Option.getD_some]
        omega
      · have hk' : ¬ k = e.Key := fun h => hk h.symm
        simp only [h, if_false, hk, false_and, decide_false, Bool.false_eq_true, if_false, mget_mset, hk']
theorem cnt_eq (fl : Int) (k : ByteArray) (pre : List Entry) : (mget k (cntM fl pre)).getD 0 = ((pre.filter fun x => decide (x.Key = k ∧ ¬ fl < x.Seq)).length : Int) := by
  unfold cntM; rw [cnt_gen]; simp [mget]
theorem cnt_le (fl : Int) (k : ByteArray) (pre : List Entry) : 0 ≤ (mget k (cntM fl pre)).getD 0 ∧ (mget k (cntM fl pre)).getD 0 ≤ pre.length := by
  rw [cnt_eq]
  have := List.length_filter_le (fun x : Entry => decide (x.Key = k ∧ ¬ fl < x.Seq)) pre
  omega
theorem cntM_snoc (fl : Int) (pre : List Entry) (e : Entry) : cntM fl (pre ++ [e]) = stepM fl (cntM fl pre) e := by simp [cntM, List.foldl_append]
abbrev mO (H : Heap) (b : Nat) (m : List (ByteArray × Int)) : HProp := mapO Value.string rInt false H b m
set_option maxHeartbeats 4000000 in
theorem gone_spec {W0 : GW} {H : Heap} {fl : Int} {bt : Bool} {pf ps pb mb N : Nat} (hf : HRow H pf 0 [.int .i64 fl]) (hs : HRow H ps 0 [.map (some mb)]) (hb : HRow H pb 0 [.bool bt]) (hN : N ≤ cap47) :
    AskS W0 H 34 [.pointer (some ⟨pf, 0, none⟩), .pointer (some ⟨ps, 0, none⟩), .pointer (some ⟨pb, 0, none⟩)] (fun pre => mO H mb (cntM fl pre)) N (goneP fl bt) := by
  intro pre c e hpre hc
  obtain ⟨rfl, hok⟩ := hc
  have hcnt := cnt_le fl e.Key pre
  simp only [cap47] at hN
  refine Ct.go (vs := [_, _, _, _]) fun R => ?_
  refine walk ?_
  refine ops_box rfl rfl fun p4 _ => ?_
  refine walk ?_
  refine ex_if rfl (fun h => ?_) (fun h => ?_)
  · refine walk ?_
    refine finB [mO H mb (cntM fl pre)] ?_
    refine ⟨?_, ?_, rfl⟩
    · simp [goneP, h]
    · show [mO H mb (cntM fl pre)] = [mO H mb (cntM fl (pre ++ [e]))]
      rw [cntM_snoc]; simp [stepM, h]
  · refine walk ?_
    dsimp only [List.cons_append, List.nil_append]
    refine ops_lkO (z := (0 : Int)) rfl rfl (by repeat (first | exact Has.here | apply Has.there)) ?_
    refine walk ?_
    have hu : rInt H [.int .i64 ((mget e.Key (cntM fl pre)).getD 0 + 1)] ((mget e.Key (cntM fl pre)).getD 0 + 1) := ⟨rfl, by unfold fits; omega⟩
    refine ops_update rfl rfl hu (by repeat (first | exact Has.here | apply Has.there)) ?_
    refine walk ?_
    refine ops_lkO (z := (0 : Int)) rfl rfl (by repeat (first | exact Has.here | apply Has.there)) ?_
    rw [show (mget e.Key (mset e.Key ((mget e.Key (cntM fl pre)).getD 0 + 1) (cntM fl pre))).getD 0 = (mget e.Key (cntM fl pre)).getD 0 + 1 by rw [mget_mset, if_pos rfl]; rfl]
    have hst : cntM fl (pre ++ [e]) = mset e.Key ((mget e.Key (cntM fl pre)).getD 0 + 1) (cntM fl pre) := by rw [cntM_snoc]; simp [stepM, h]
    have hgo : goneP fl bt pre e = (decide (1 < (mget e.Key (cntM fl pre)).getD 0 + 1) || (bt && e.Del)) := by simp [goneP, h]
    refine walk ?_
    by_cases hgt : 1 < (mget e.Key (cntM fl pre)).getD 0 + 1
    · rw [decide_eq_true hgt]
      refine walk ?_
      refine finB [mO H mb (cntM fl (pre ++ [e]))] ⟨by rw [hgo, decide_eq_true hgt], rfl, rfl⟩ (hs := ?_)
      rw [hst]
      exact subA
    · rw [decide_eq_false hgt]
      cases bt with
      | true =>
        refine walk ?_
        refine finB [mO H mb (cntM fl (pre ++ [e]))] ⟨by rw [hgo, decide_eq_false hgt], rfl, rfl⟩ (hs := ?_)
        rw [hst]
        exact subA
      | false =>
        refine walk ?_
        refine finB [mO H mb (cntM fl (pre ++ [e]))] ⟨by rw [hgo, decide_eq_false hgt], rfl, rfl⟩ (hs := ?_)
        rw [hst]
        exact subA
def comp (fl : Int) (bt : Bool) (l : List Entry) : List Entry := delS (goneP fl bt) [] l
set_option maxHeartbeats 4000000 in
theorem compact_spec {W0 : GW} {H : Heap} {v : Value} {l : List Entry} {fl : Int} {bt : Bool} (hv : LB H v l) : Ct Try.prog 18 #[v, .int .i64 fl, .bool bt] W0 H []
    (fun r H' B => (¬ Ordd l ∧ r = .tuple #[.slice none 0 0, .int .i64 60] ∧ B = []) ∨ (Ordd l ∧ ∃ s, r = .tuple #[s, .int .i64 0] ∧ B = [ownS rEntry 4 48 37 H' s (comp fl bt l)])) := by
  refine Ct.go (vs := [_, _, _]) fun R => ?_
  have hlen := hv.len
  refine walk ?_
  refine ops_box rfl rfl fun pf _ => ?_
  refine ops_box rfl rfl fun pb _ => ?_
  refine walk ?_
  refine ops_call rfl rfl (ordered_spec hv.1 hv.len) fun r H1 B hl ⟨⟨b, er, hb⟩, eB, eH⟩ => ?_
  subst er eB eH
  cases b with
  | false =>
    refine walk ?_
    refine fin0 ?_
    exact .inl ⟨fun h => (by have := hb.2 h; cases this), rfl, rfl⟩
  | true =>
    refine walk ?_
    refine ops_makeMap Value.string rInt false rfl fun mb _ => ?_
    refine ops_alloc rfl fun ps _ => ?_
    refine walk ?_
    refine ops_frzR (b := ps) (by repeat (first | exact Has.here | apply Has.there)) fun H2 hl2 r2 => ?_
    refine ops_frzR (b := pb) (by repeat (first | exact Has.here | apply Has.there)) fun H3 hl3 r3 => ?_
    refine ops_frzR (b := pf) (by repeat (first | exact Has.here | apply Has.there)) fun H4 hl4 r4 => ?_
    have r3' := r3.mono hl4
    have r2' := r2.mono (hl3.trans hl4)
    have hv4 := hv.mono (hl2.trans (hl3.trans hl4))
    refine ops_L (mapO_up (hl2.trans (hl3.trans hl4))) ?_
    refine ops_call rfl rfl (clone_spec hv4) fun r H5 B hl5 ⟨eB, eH⟩ => ?_
    subst eB eH
    refine walk ?_
    refine ops_call (A := [ownS rEntry 4 48 37 H5 r l, mO H5 mb (cntM fl [])]) rfl rfl (del_spec (v := r) (xs := l) (a := fun pre => mO H5 mb (cntM fl pre)) (.refl _) (gone_spec r4 r2' r3' hlen)) fun r5 H6 B6 hl6 ⟨eB, eH⟩ => ?_
    subst eB eH
    refine walk ?_
    refine finB [ownS rEntry 4 48 37 H6 r5 (comp fl bt l)] ?_
    exact .inr ⟨hb.1 rfl, _, rfl, rfl⟩
theorem oneO_spec {W0 : GW} {H : Heap} {v : Value} {l : List Entry} (hv : LB H v l) : Ct Try.prog 16 #[v] W0 H [] (fun r H' B => H' = H ∧ (∃ base cap, r = .slice base (l.take 60).length cap) ∧ B = [ownS rEntry 4 48 37 H r (l.take 60)]) := by
  refine Ct.go (vs := [_]) fun R => ?_
  obtain ⟨b0, c0, rfl, hc0, hd0⟩ := hv.1.shape
  refine walk ?_
  refine ops_mk0 (w := 48) rEntry rfl fun b => ?_
  refine walk ?_
  have e : (min (l.length : Int) 60).toNat = min l.length 60 := by omega
  rw [e]
  have ht : l.take (min l.length 60) = l.take 60 := by
    rcases Nat.le_total l.length 60 with h | h
    · rw [Nat.min_eq_left h, List.take_length, List.take_of_length_le h]
    · rw [Nat.min_eq_right h]
  have hy := SlR.pre hv.1 (k := min l.length 60) (Nat.min_le_left _ _)
  rw [ht] at hy
  have hs := hv.2
  refine ops_appS rfl rfl hy (by simp only [List.length_nil, List.length_take]; omega) fun base cap => ?_
  refine walk ?_
  refine finB [ownS rEntry 4 48 37 H (.slice base (([] : List Entry).length + (l.take 60).length) cap) ([] ++ l.take 60)] ⟨rfl, ⟨base, cap, ?_⟩, rfl⟩
  rw [List.length_nil, Nat.zero_add]
abbrev Fam (p : Value × List Entry) : HProp := ownS rEntry 4 48 37 Heap.empty p.1 p.2
theorem fam_reads {H' : Heap} : ∀ {gl : List (Value × List Entry)} {D : Heap}, bigL Fam gl D → D.le H' → ∀ p ∈ gl, LB H' p.1 p.2 := by
  intro gl
  induction gl with
  | nil => intro D _ _ p hp; cases hp
  | cons x gl ih =>
    intro D hD hl p hp
    obtain ⟨h1, h2, a, b, _, l1, l2⟩ := hD
    rcases List.mem_cons.1 hp with rfl | hp
    · exact ownS_reads a (empty_le _) (l1.trans hl)
    · exact ih (D := h2) b (l2.trans hl) p hp
def hdr : Value → Value
  | .slice b m c => .slice b (m - 1) c
  | v => v
def cutO (p : Value × List Entry) : List Entry := p.2.take (p.2.length - 1)
theorem hdr_LB {H : Heap} {p : Value × List Entry} (h : LB H p.1 p.2) : LB H (hdr p.1) (cutO p) := by
  obtain ⟨b, c, e, h1, h2⟩ := h.1.shape
  have h3 := h.1
  have h4 := h.2
  rw [e] at h3 ⊢
  exact ⟨SlR.pre h3 (Nat.sub_le _ _), by unfold cutO; simp only [List.length_take]; omega⟩
theorem rl_in {H : Heap} : ∀ {gl : List (Value × List Entry)} {cs : List Value}, (∀ p ∈ gl, LB H p.1 p.2) → RL rVal H cs (gl.map fun p => hdr p.1) → RL (rSl rEntry 4 48) H cs (gl.map cutO) := by
  intro gl
  induction gl with
  | nil => intro cs _ h; exact h
  | cons p gl ih =>
    intro cs hg h
    obtain ⟨c, r, e, h1, h2⟩ := h
    exact ⟨c, r, e, ⟨_, h1.1, hdr_LB (hg p (List.mem_cons_self ..))⟩, ih (fun q hq => hg q (List.mem_cons_of_mem _ hq)) h2⟩
theorem ls_in {H : Heap} {v : Value} {gl : List (Value × List Entry)} (hg : ∀ p ∈ gl, LB H p.1 p.2) (h : SlB rVal 1 24 H v (gl.map fun p => hdr p.1)) : LsB H v (gl.map cutO) := by
  obtain ⟨⟨cs, a, b⟩, c⟩ := h
  rw [List.length_map] at a c
  exact ⟨⟨cs, by rw [List.length_map]; exact a, rl_in hg b⟩, by rw [List.length_map]; exact c⟩
theorem mrgR_none {n : Int} {ls : List (List Entry)} {H : Heap} (h : ¬ ∀ l ∈ ls, Ordd l) : MrgR n ls H (.tuple #[.slice none 0 0, .int .i64 60]) :=
  ⟨_, _, [], rfl, ⟨SlR.nil _ _ _ _ _ (by decide), by simp⟩, .inl ⟨h, rfl, rfl⟩⟩
theorem fam_in {gl : List (Value × List Entry)} {x : Value × List Entry} {L : List HProp} : Sub (Fam x :: bigL Fam gl :: L) (bigL Fam (gl ++ [x]) :: L) := by
  have h := bigL_in (A := Fam) (l1 := gl) (x := x) (l2 := []) (L := L)
  rwa [List.append_nil] at h
theorem cutO_all {gl : List (Value × List Entry)} {cs : List (List Entry)} {e : Entry} (h : gl.map Prod.snd = cs.map (· ++ [e])) : gl.map cutO = cs := by
  have h1 : gl.map cutO = (gl.map Prod.snd).map fun l => l.take (l.length - 1) := by rw [List.map_map]; rfl
  rw [h1, h, List.map_map]
  refine (List.map_congr_left fun l _ => ?_).trans (List.map_id _)
  simp
section
variable {n : NF} {W0 : GW} {Q : Exit → Act → GW → Prop} {F : Slots} {H : Heap} {L : List HProp} {ops : Array Oper} {rest : List Oper} {k : List Fr} {ty : TypeId} {pos : String} {aft : Array Edge} {d : Tmp} {l : List Operand} {ts : Array TypeId} {v : Value}
theorem ops_firstF {ls : List (List Entry)} {gl : List (Value × List Entry)} {m : Int} (hs : W0.s = .solo) (hv : SlB rVal 1 24 H v (gl.map fun p => hdr p.1)) (hcut : gl.map cutO = ls) (htot : tot ls * 48 ≤ cap47) (hlen : ls.length + 2 < 2147483648) (ha : opvs F l = some [v, .int .i64 m])
    (hk : ∀ r H', H.le H' → MrgR m ls H' r → Ops Try.prog n W0 Q ((d, r) :: F) H' (bigL Fam gl :: L) false ops rest k) (hd : Nat.blt d n.n = true := by rfl) :
    Ops Try.prog n W0 Q F H (bigL Fam gl :: L) false ops (⟨some d, .call ⟨.value (.func 11), l.toArray, ts⟩, ty, pos, aft, none⟩ :: rest) k := by
  refine ops_lend .here fun D hD hdj hlH hlD => ?_
  have hls := ls_in (fam_reads hD hlD) (hv.mono hlH)
  rw [hcut] at hls
  refine ops_call rfl ha (first_spec hs hls.lst hlen hls.lens htot) (fun r H' B hl ⟨eH, hh⟩ => ?_) .nil hd
  subst eH
  refine ops_back hD hdj (.refl _) ?_
  rcases hh with ⟨h1, rfl, rfl⟩ | ⟨h1, s, res, h2, rfl, rfl⟩
  · exact hk _ _ (.refl _) (mrgR_none h1)
  · refine ops_L (L' := ownS rEntry 4 48 37 (union H D) s res :: bigL Fam gl :: L) subA ?_
    refine ops_L (sub_flat _ Heap.empty) ?_
    refine ops_freeze s (fun H' hl q => ?_) (empty_le _)
    exact hk _ _ hl ⟨_, _, _, rfl, q, .inr ⟨h1, rfl, h2⟩⟩
theorem ops_compactO {xs : List Entry} {fl : Int} {bt : Bool} (hv : LB H v xs) (ha : opvs F l = some [v, .int .i64 fl, .bool bt])
    (hk : ∀ b c code res H', H.le H' → List.length res ≤ 9223372036854775807 → Ops Try.prog n W0 Q ((d, .tuple #[.slice b (List.length res) c, .int .i64 code]) :: F) H' (ownS rEntry 4 48 37 Heap.empty (.slice b (List.length res) c) res :: L) false ops rest k) (hd : Nat.blt d n.n = true := by rfl) :
    Ops Try.prog n W0 Q F H L false ops (⟨some d, .call ⟨.value (.func 18), l.toArray, ts⟩, ty, pos, aft, none⟩ :: rest) k := by
  refine ops_call rfl ha (compact_spec hv) (fun r H' B hl hh => ?_) .nil hd
  rcases hh with ⟨h1, rfl, rfl⟩ | ⟨h1, s, rfl, rfl⟩
  · exact ops_L (ownS_nil (base := none)) (hk none 0 60 [] H' hl (Nat.zero_le _))
  · refine ops_shape s fun base cap e h1 h2 h3 => ?_
    subst e
    exact ops_L (sub_flat _ Heap.empty) (hk base cap 0 _ H' hl (by omega))
end
abbrev kSp : ByteArray := ⟨#[115, 112, 97, 114, 101]⟩
abbrev eSp : Entry := ⟨kSp, 0, false, ⟨#[]⟩⟩
abbrev eQu : Entry := ⟨⟨#[63]⟩, 0, false, ⟨#[]⟩⟩
abbrev eEx : Entry := ⟨⟨#[33]⟩, 0, false, ⟨#[]⟩⟩
set_option maxHeartbeats 4000000 in
theorem own_law {W0 : GW} {H : Heap} {v : Value} {ls : List (List Entry)} {n : Int} (hs : W0.s = .solo) (hv : LsB H v ls) : CtR Try.prog 7 #[v, .int .i64 n] W0 H [] (fun r H' B => r = .bool true ∧ B = []) := by
  refine CtR.go (vs := [_, _]) fun R => ?_
  obtain ⟨b0, c0, rfl, hc0, hd0⟩ := hv.1.shape
  refine walk ?_
  refine ops_call rfl rfl (awake_spec hs) fun r H1 B hl1 ⟨er, eB⟩ => ?_
  subst er eB
  refine walk ?_
  refine ops_call rfl rfl (cut_spec (hv.mono hl1)) fun r H2 B hl2 ⟨q2, eB⟩ => ?_
  subst eB
  obtain ⟨b2, c2, rfl, hc2, hd2⟩ := q2.1.shape
  have h8 := cutL_len (ls := ls)
  have h60 := cutL_el (ls := ls)
  have htot := cutL_tot (ls := ls)
  have hfew := cutL_few (ls := ls)
  generalize cutL ls = cs at *
  refine walk ?_
  refine ex_L (L' := ownS rVal 1 24 25 H2 (.slice none 0 0) [] :: ownS rVal 1 24 25 H2 (.slice none 0 0) [] :: bigL Fam [] :: R) ((bigL_nil.trans ownS_nil).trans ownS_nil) ?_
  refine ex_loop (fun s : Nat × List (Value × List Entry) × Value × Value => s.1 ≤ cs.length ∧ s.2.1.length = s.1 ∧ s.2.1.map Prod.snd = (cs.take s.1).map (· ++ [eSp]) ∧ ∀ p ∈ s.2.1, ∃ b c, p.1 = .slice b p.2.length c)
    (fun s => [(22, .int .i64 s.1), (21, .int .i64 cs.length), (5, s.2.2.1), (6, s.2.2.2), (0, .slice b2 cs.length c2), (1, .int .i64 n)]) (fun _ => H2)
    (fun s => ownS rVal 1 24 25 H2 s.2.2.1 (s.2.1.map Prod.fst) :: ownS rVal 1 24 25 H2 s.2.2.2 (s.2.1.map fun p => hdr p.1) :: bigL Fam s.2.1 :: R) (fun s => cs.length - s.1) (0, [], .slice none 0 0, .slice none 0 0) ⟨Nat.zero_le _, rfl, rfl, fun p hp => by cases hp⟩ fun ⟨i, gl, s5, s6⟩ ⟨hi, hgi, hI, hsh⟩ K hK => ?_
  simp only at hi hgi hI hsh
  subst hgi
  dsimp only
  by_cases hlt : gl.length < cs.length
  · refine walk ?_
    refine ops_ixp rfl rfl q2.1 hlt fun b1 o1 c1 h1 h2 => ?_
    obtain ⟨v1, rfl, h2⟩ := h2
    refine ops_ldH0 rfl rfl h1 rfl ?_
    refine ops_call rfl rfl (oneO_spec h2) fun r H' B hl ⟨eH, ⟨b3, c3, er⟩, eB⟩ => ?_
    subst eH eB
    have ht : cs[gl.length].take 60 = cs[gl.length] := List.take_of_length_le (h60 _ (List.getElem_mem hlt))
    have hx60 := h60 _ (List.getElem_mem hlt)
    rw [ht] at er ⊢
    generalize hxs : cs[gl.length] = xs at *
    subst er
    refine walk ?_
    dsimp only [List.cons_append, List.nil_append]
    refine ops_app1 (y := eSp) rfl rfl rfl ⟨rfl, by decide, fits0, by decide⟩ (by unfold cap47; omega) fun b4 c4 => ?_
    refine ops_app1 (y := .slice b4 (xs.length + 1) c4) rfl rfl rfl ⟨rfl, rfl⟩ (by rw [List.length_map]; unfold cap47; omega) fun b5 c5 => ?_
    refine ops_p rfl rfl ?_
    refine ops_nil (out_seq ?_)
    rw [List.length_map]
    refine ex_shape (.slice b4 (xs.length + 1) c4) fun base cap e k1 k2 k3 => ?_
    have hc4 : xs.length + 1 ≤ c4 := by
      injection e with _ _ e3
      rw [e3]; simpa using k1
    clear e k1 k2 k3
    refine ex_lendS (.slice b5 (gl.length + 1) c5) fun D hD hd hl5 hsF => ?_
    obtain ⟨bb, bo, bc, rfl, -, hr5, hc5⟩ := hsF.1.get (k := gl.length) (by simp)
    have e5 : bc = [.slice b4 (xs.length + 1) c4] := by
      have := hc5.1
      rw [List.getElem_append_right (by simp)] at this
      simpa using this
    subst e5
    have hv2 := q2.mono hl5
    obtain ⟨xb, xo, xc, rfl, -, hr2, hc6⟩ := hv2.1.get (k := gl.length) hlt
    obtain ⟨vx, rfl, hvx⟩ := hc6
    obtain ⟨bx, cx, rfl, _, _⟩ := hvx.1.shape
    rw [hxs] at hr2
    refine ex_quietB 11 [.slice b4 xs.length c4] (v := .slice b4 (Int.toNat xs.length) c4) rfl rfl ?_ (by decide +kernel) rfl rfl ?_ rfl ?_
    · intro j h1 h2
      have h3 : j < 14 := h2
      rcases (show j = 12 ∨ j = 13 by omega) with rfl | rfl
      · exact reach_of (by decide +kernel)
      · exact reach_of (by decide +kernel)
    · rfl
    · refine .op (op_move rfl) ?_
      refine .op (op_move rfl) ?_
      refine .op (op_move rfl) ?_
      refine .op (op_indexAddr (sz := 1) rfl rfl (by omega) (by omega)) ?_
      refine .op (op_loadH rfl (hrow_cell hr5 0 (by simp) rfl)) ?_
      refine .op (op_move rfl) ?_
      refine .op (op_move rfl) ?_
      refine .op (op_indexAddr (sz := 1) rfl rfl (by omega) (by omega)) ?_
      refine .op (op_loadH rfl (hrow_cell hr2 0 (by simp) rfl)) ?_
      refine .op (op_len rfl rfl) ?_
      refine .op (op_sliceTo rfl rfl (by omega) (by omega)) ?_
      refine .nil ⟨rfl, fun b => ?_⟩
      refine ops_back hD hd (.refl _) ?_
      refine ops_L (Sub.cons (row_ownS (R := rVal) (H := H') (w := 24) (xs := [.slice b4 xs.length c4]) ⟨_, _, rfl, ⟨rfl, rfl⟩, rfl⟩ (by simp [cap47]) (by simp))) ?_
      refine ops_appSO rfl rfl (by simp only [List.length_map, List.length_singleton]; unfold cap47; omega) fun b6 c6 => ?_
      refine ops_L (L' := ownS rVal 1 24 25 H' (.slice (some ⟨bb, bo, none⟩) (gl.length + 1) c5) (gl.map Prod.fst ++ [.slice b4 (xs.length + 1) c4]) :: ownS rVal 1 24 25 H' (.slice b6 ((gl.map fun p => hdr p.1).length + [Value.slice b4 xs.length c4].length) c6) ((gl.map fun p => hdr p.1) ++ [.slice b4 xs.length c4]) :: ownS rEntry 4 48 37 H' (.slice b4 (xs.length + 1) c4) (xs ++ [eSp]) :: bigL Fam gl :: R) subA ?_
      refine ops_L (Sub.cons (Sub.cons ((sub_flat H' Heap.empty).trans (fam_in (x := (.slice b4 (xs.length + 1) c4, xs ++ [eSp])))))) ?_
      refine walk ?_
      refine out_next hK (gl.length + 1, gl ++ [(.slice b4 (xs.length + 1) c4, xs ++ [eSp])], _, _) ⟨hlt, by simp, ?_, fun p hp => ?_⟩ (hs := ?_)
      · rw [List.map_append, hI, List.take_succ_eq_append_getElem hlt, List.map_append, hxs]; rfl
      · rcases List.mem_append.1 hp with h | h
        · exact hsh p h
        · rw [List.mem_singleton] at h
          subst h
          exact ⟨b4, c4, by simp⟩
      · dsimp only
        rw [List.map_append, List.map_append]
        exact .refl _
  · have hgl : gl.length = cs.length := by omega
    rw [List.take_of_length_le (by omega)] at hI
    have hcut := cutO_all hI
    refine ex_freeze s5 fun H3 hl3 p5 => ?_
    refine ex_freeze s6 fun H4 hl4 p6 => ?_
    have p5' := p5.mono hl4
    have q4 := q2.mono (hl3.trans hl4)
    clear p5 q2 hK
    obtain ⟨b5, c5, e5, -, -⟩ := p5'.1.shape
    obtain ⟨b6, c6, e6, -, -⟩ := p6.1.shape
    rw [List.length_map] at e5 e6
    subst e5 e6
    refine walk ?_
    refine ops_firstF hs p6 hcut htot hfew rfl fun r H5 hl5 hm => ?_
    obtain ⟨s8, code8, res8, er, p8, hh8⟩ := hm
    subst er
    obtain ⟨b8, c8, rfl, _, _⟩ := p8.1.shape
    refine walk ?_
    refine ops_call rfl rfl (one_spec p8) fun r H6 B hl6 ⟨p10, eB⟩ => ?_
    subst eB
    obtain ⟨b10, c10, rfl, _, _⟩ := p10.1.shape
    have p8' := p8.mono hl6
    have q6 := q4.mono (hl5.trans hl6)
    have f5 := p5'.mono (hl5.trans hl6)
    have f6 := p6.mono (hl5.trans hl6)
    clear p8 q4 p5' p6
    refine walk ?_
    refine ex_loop (fun s : Nat × List (Value × List Entry) => s.1 ≤ cs.length ∧ s.2.length = cs.length ∧ s.2.drop s.1 = gl.drop s.1)
      (fun s => [(60, .int .i64 s.1), (59, .int .i64 cs.length), (5, .slice b5 gl.length c5), (6, .slice b6 gl.length c6), (0, .slice b2 cs.length c2), (1, .int .i64 n), (8, .slice b8 res8.length c8), (9, .int .i64 code8), (10, .slice b10 (res8.take 60).length c10)]) (fun _ => H6) (fun s => bigL Fam s.2 :: R) (fun s => cs.length - s.1) (0, gl) ⟨Nat.zero_le _, hgl, rfl⟩ fun ⟨i, fl⟩ ⟨hi, hfl, hdr0⟩ K hK => ?_
    simp only at hi hfl hdr0
    dsimp only
    by_cases hlt : i < cs.length
    · have hfi : i < fl.length := by omega
      have hgi : i < gl.length := by omega
      have hfg : fl[i] = gl[i] := by
        have h1 := List.drop_eq_getElem_cons hfi
        rw [hdr0, List.drop_eq_getElem_cons hgi] at h1
        injection h1 with h3 _
        exact h3.symm
      obtain ⟨bp, cp, ep⟩ := hsh gl[i] (List.getElem_mem hgi)
      have hxs : gl[i].2 = cs[i] ++ [eSp] := by
        have := congrArg (·[i]?) hI
        simpa [hgi, hlt] using this
      have hx60 := h60 _ (List.getElem_mem hlt)
      rw [hxs] at ep
      generalize hxi : cs[i] = xs at hxs hx60 ep
      rw [List.length_append, List.length_singleton] at ep
      have j5 : i < (gl.map Prod.fst).length := by rw [List.length_map]; exact hgi
      have j6 : i < (gl.map fun p => hdr p.1).length := by rw [List.length_map]; exact hgi
      have e5 : (gl.map Prod.fst)[i] = .slice bp (xs.length + 1) cp := by rw [List.getElem_map]; exact ep
      have e6 : (gl.map fun p => hdr p.1)[i] = .slice bp xs.length cp := by rw [List.getElem_map, ep]; rfl
      have hfam : ∀ {D : Heap}, bigL Fam fl D → D.le (union H6 D) → LB (union H6 D) (.slice bp (xs.length + 1) cp) (xs ++ [eSp]) ∧ LB (union H6 D) (.slice bp xs.length cp) xs := fun {D} hD hlD => by
        have h1 := fam_reads hD hlD fl[i] (List.getElem_mem hfi)
        rw [hfg, ep, hxs] at h1
        have h2 := hdr_LB (p := (.slice bp (xs.length + 1) cp, xs ++ [eSp])) h1
        exact ⟨h1, by simpa [hdr, cutO] using h2⟩
      refine ex_lend .here fun D hD hdj hlH hlD => ?_
      obtain ⟨hfr, hin⟩ := hfam hD hlD
      have f5U := f5.mono hlH
      have f6U := f6.mono hlH
      have q6U := q6.mono hlH
      refine walk ?_
      refine ops_ix rfl rfl rfl f5U.1 j5 ?_
      rw [e5]
      refine walk ?_
      refine ops_ixp rfl rfl q6U.1 hlt fun xb xo xc h1 h2 => ?_
      obtain ⟨vx, rfl, hvx⟩ := h2
      rw [hxi] at hvx
      refine ops_ldH0 rfl rfl h1 rfl ?_
      obtain ⟨bx, cx, rfl, _, _⟩ := hvx.1.shape
      refine walk ?_
      refine ops_ixp rfl rfl hfr.1 (j := xs.length) (by simp) fun yb yo yc k1 k2 => ?_
      obtain ⟨k2, -⟩ := k2
      rw [List.getElem_append_right (Nat.le_refl _)] at k2
      simp only [Nat.sub_self, List.getElem_cons_zero] at k2
      subst k2
      refine walk ?_
      rw [show decide (¬ eSp.Key = (⟨#[115, 112, 97, 114, 101]⟩ : ByteArray)) = false from decide_eq_false fun h => h rfl]
      refine walk ?_
      refine ops_ix rfl rfl rfl f6U.1 j6 ?_
      rw [e6]
      refine walk ?_
      refine ops_ixp rfl rfl q6U.1 hlt fun zb zo zc m1 m2 => ?_
      obtain ⟨vz, rfl, hvz⟩ := m2
      rw [hxi] at hvz
      refine ops_ldH0 rfl rfl m1 rfl ?_
      obtain ⟨bz, cz, rfl, _, _⟩ := hvz.1.shape
      refine ops_pcall rfl rfl (same_spec hin hvz) ?_
      rw [decide_eq_true rfl]
      refine walk ?_
      refine ops_ix rfl rfl rfl f6U.1 j6 ?_
      rw [e6]
      refine walk ?_
      refine ops_call rfl rfl (visible_spec hin) fun r H7 B hl7 ⟨_, eB⟩ => ?_
      subst eB
      refine walk ?_
      refine ops_ix rfl rfl rfl (f6U.mono hl7).1 j6 ?_
      rw [e6]
      refine walk ?_
      refine ops_compactO (hin.mono hl7) rfl fun bc cc code res H8 hl8 hres => ?_
      refine ops_L (L' := ownS rEntry 4 48 37 Heap.empty (.slice bc res.length cc) res :: R) subA ?_
      refine ops_back hD hdj (hl7.trans hl8) ?_
      refine walk ?_
      refine ex_loop (fun s : Nat × List Entry => s.1 ≤ res.length ∧ s.2.length = res.length)
        (fun s => [(105, .int .i64 s.1), (104, .int .i64 res.length), (12, .slice bc res.length cc), (11, .int .i64 i), (60, .int .i64 i), (59, .int .i64 cs.length), (5, .slice b5 gl.length c5), (6, .slice b6 gl.length c6), (0, .slice b2 cs.length c2), (1, .int .i64 n), (8, .slice b8 res8.length c8), (9, .int .i64 code8), (10, .slice b10 (res8.take 60).length c10)]) (fun _ => H6)
        (fun s => bigL Fam fl :: ownS rEntry 4 48 37 Heap.empty (.slice bc res.length cc) s.2 :: R) (fun s => res.length - s.1) (0, res) ⟨Nat.zero_le _, rfl⟩ fun ⟨k, ys⟩ ⟨hk, hys⟩ K2 hK2 => ?_
      simp only at hk hys
      dsimp only
      by_cases hlk : k < res.length
      · refine walk ?_
        refine ops_stS (y' := eQu) rfl rfl rfl ⟨rfl, by decide, fits0, by decide⟩ (by omega) ?_
        refine walk ?_
        exact out_next hK2 (k + 1, ys.set k eQu) ⟨hlk, by simp [hys]⟩
      · clear hK2 hin hfr
        refine ex_lend .here fun D2 hD2 hdj2 hlH2 hlD2 => ?_
        obtain ⟨hfr, hin⟩ := hfam hD2 hlD2
        have f5U := f5.mono hlH2
        have f6U := f6.mono hlH2
        have q6U := q6.mono hlH2
        refine walk ?_
        refine ops_ix rfl rfl rfl f5U.1 j5 ?_
        rw [e5]
        refine walk ?_
        refine ops_ixp rfl rfl q6U.1 hlt fun xb xo xc h1 h2 => ?_
        obtain ⟨vx, rfl, hvx⟩ := h2
        rw [hxi] at hvx
        refine ops_ldH0 rfl rfl h1 rfl ?_
        obtain ⟨bx, cx, rfl, _, _⟩ := hvx.1.shape
        refine walk ?_
        refine ops_ixp rfl rfl hfr.1 (j := xs.length) (by simp) fun yb yo yc k1 k2 => ?_
        obtain ⟨k2, -⟩ := k2
        rw [List.getElem_append_right (Nat.le_refl _)] at k2
        simp only [Nat.sub_self, List.getElem_cons_zero] at k2
        subst k2
        refine walk ?_
        rw [show decide (¬ eSp.Key = (⟨#[115, 112, 97, 114, 101]⟩ : ByteArray)) = false from decide_eq_false fun h => h rfl]
        refine walk ?_
        refine ops_ix rfl rfl rfl f6U.1 j6 ?_
        rw [e6]
        refine walk ?_
        refine ops_ixp rfl rfl q6U.1 hlt fun zb zo zc m1 m2 => ?_
        obtain ⟨vz, rfl, hvz⟩ := m2
        rw [hxi] at hvz
        refine ops_ldH0 rfl rfl m1 rfl ?_
        obtain ⟨bz, cz, rfl, _, _⟩ := hvz.1.shape
        refine ops_pcall rfl rfl (same_spec hin hvz) ?_
        rw [decide_eq_true rfl]
        refine walk ?_
        refine ops_back hD2 hdj2 (.refl _) ?_
        refine ops_ix rfl rfl rfl f5.1 j5 ?_
        rw [e5]
        refine walk ?_
        have hget : Sub (bigL Fam fl :: R) (ownS rEntry 4 48 37 Heap.empty (.slice bp (xs.length + 1) cp) (xs ++ [eSp]) :: bigL Fam (fl.take i ++ fl.drop (i + 1)) :: R) := by
          have h1 := bigL_get (A := Fam) (L := R) hfi
          have e : Fam fl[i] = ownS rEntry 4 48 37 Heap.empty (.slice bp (xs.length + 1) cp) (xs ++ [eSp]) := by
            rw [hfg]
            show ownS rEntry 4 48 37 Heap.empty gl[i].1 gl[i].2 = _
            rw [ep, hxs]
          rwa [e] at h1
        refine ex_L (L' := bigL Fam fl :: R) subA ?_
        refine ex_L hget ?_
        refine ex_loop (fun s : Nat × List Entry => s.1 ≤ xs.length + 1 ∧ s.2.length = xs.length + 1)
          (fun s => [(143, .int .i64 s.1), (142, .int .i64 (xs.length + 1 : Nat)), (11, .int .i64 i), (60, .int .i64 i), (59, .int .i64 cs.length), (5, .slice b5 gl.length c5), (6, .slice b6 gl.length c6), (0, .slice b2 cs.length c2), (1, .int .i64 n), (8, .slice b8 res8.length c8), (9, .int .i64 code8), (10, .slice b10 (res8.take 60).length c10)]) (fun _ => H6)
          (fun s => ownS rEntry 4 48 37 Heap.empty (.slice bp (xs.length + 1) cp) s.2 :: bigL Fam (fl.take i ++ fl.drop (i + 1)) :: R) (fun s => xs.length + 1 - s.1) (0, xs ++ [eSp]) ⟨Nat.zero_le _, by simp⟩ fun ⟨k2, zs⟩ ⟨hk2, hzs⟩ K3 hK3 => ?_
        simp only at hk2 hzs
        dsimp only
        by_cases hlk2 : k2 < xs.length + 1
        · refine walk ?_
          refine ops_ix rfl rfl rfl f5.1 j5 ?_
          rw [e5]
          refine walk ?_
          refine ops_stS (y' := eEx) rfl rfl rfl ⟨rfl, by decide, fits0, by decide⟩ (by omega) ?_
          refine walk ?_
          exact out_next hK3 (k2 + 1, zs.set k2 eEx) ⟨hlk2, by simp [hzs]⟩
        · refine ex_L (bigL_set (A := Fam) (y := (.slice bp (xs.length + 1) cp, zs)) hfi) ?_
          refine walk ?_
          refine out_next hK (i + 1, fl.set i (.slice bp (xs.length + 1) cp, zs)) ⟨hlt, by simp [hfl], ?_⟩
          rw [List.drop_set_of_lt (by omega)]
          have h1 := congrArg (List.drop 1) hdr0
          rwa [List.drop_drop, List.drop_drop] at h1
    · refine walk ?_
      refine ops_call rfl rfl (good_spec q6) fun r H7 B hl7 ⟨⟨gb, er, hgb⟩, eB, eH⟩ => ?_
      subst er eB eH
      have hgc : decide (code8 = 0) = gb := by
        rcases hh8 with ⟨h, -, rfl⟩ | ⟨h, rfl, -⟩
        · cases gb with
          | false => rfl
          | true => exact absurd (hgb.1 rfl) h
        · cases gb with
          | true => rfl
          | false => exact absurd (hgb.2 h) (by simp)
      rw [hgc]
      refine walk ?_
      rw [decide_eq_true (p := gb = gb) rfl]
      refine walk ?_
      refine ops_call rfl rfl (one_spec p8') fun r H8 B hl8 ⟨q11, eB⟩ => ?_
      subst eB
      obtain ⟨b11, c11, rfl, _, _⟩ := q11.1.shape
      refine walk ?_
      refine ops_call rfl rfl (same_spec q11 (p10.mono hl8)) fun r H9 B hl9 ⟨er, eB, eH⟩ => ?_
      subst er eB eH
      rw [decide_eq_true rfl]
      refine walk ?_
      refine fin0 ?_
      exact ⟨rfl, rfl⟩
end Go.Proofs.Ytjkiioicjmaeoaa
