/- First: merging by the fronts of senders. -/
import Derived.Test.YtjkiioicjmaeoaaQMI
set_option linter.unusedVariables false
set_option linter.unusedSimpArgs false
namespace Go.Proofs.Ytjkiioicjmaeoaa
open Go Go.Sx Go.X Go.Proofs
open Go.ConcR (KK wgBlock WgAt stA smA rd wr mk)
instance : TZL Try.prog 51 [.chan none] := ⟨_, Try.zeroValue51, rfl⟩
instance : TZL Try.prog 66 [.chan none, .string ⟨#[]⟩, .int .i64 0, .bool false, .string ⟨#[]⟩, .bool false] := ⟨_, Try.zeroValue66, rfl⟩
instance {c : Option Nat} : CellsI (.chan c) [.chan c] := ⟨rfl⟩
instance : RdFlat rEntry := ⟨fun h => h⟩
def rLst : Rd (List Entry) := fun H c x => ∃ v, c = [v] ∧ SlR rEntry 4 H v x
instance : RdOk rLst 1 := ⟨fun ⟨v, h, _⟩ => by rw [h]; rfl, fun ⟨v, h, hs⟩ => by obtain ⟨b, c, rfl, _⟩ := hs.shape; rw [h]; rfl, fun hl ⟨v, h, hs⟩ => ⟨v, h, hs.mono hl⟩⟩
def LeastL (ls : List (List Entry)) : Option Nat → Prop
  | none => ∀ j (h : j < ls.length), ls[j] = []
  | some k => ∃ (hk : k < ls.length) (e : Entry) (t : List Entry), ls[k] = e :: t ∧ (∀ j (h : j < ls.length) e' t', j < k → ls[j] = e' :: t' → Bef e e') ∧ ∀ j (h : j < ls.length) e' t', ls[j] = e' :: t' → ¬ Bef e' e
def SameLast (out : List Entry) (e : Entry) : Prop := ∃ x, out.getLast? = some x ∧ x.Key = e.Key ∧ x.Seq = e.Seq
inductive Mrg (n : Int) : List (List Entry) → List Entry → List Entry → Prop
  | full {ls : List (List Entry)} {out : List Entry} : ¬ (out.length : Int) < n → Mrg n ls out out
  | done {ls : List (List Entry)} {out : List Entry} : LeastL ls none → Mrg n ls out out
  | skip {ls : List (List Entry)} {out res : List Entry} {k : Nat} {e : Entry} {t : List Entry} : (out.length : Int) < n → LeastL ls (some k) → ls[k]? = some (e :: t) → SameLast out e → Mrg n (ls.set k t) out res → Mrg n ls out res
  | take {ls : List (List Entry)} {out res : List Entry} {k : Nat} {e : Entry} {t : List Entry} : (out.length : Int) < n → LeastL ls (some k) → ls[k]? = some (e :: t) → ¬ SameLast out e → Mrg n (ls.set k t) (out ++ [e]) res → Mrg n ls out res
def okE (e : Entry) : Prop := e.Key.size ≤ cap47 ∧ fits e.Seq ∧ e.Value.size ≤ cap47
def tot (ls : List (List Entry)) : Nat := (ls.map List.length).sum
def Fro.all (f : Fro) : List Entry := if f.more then f.e :: f.rem else []
abbrev sndF (f : Fro) : Snd := ⟨f.ch, f.rem.map vE⟩
abbrev coAt (ech wb : Nat) (base : Heap) (fs : List Fro) : Co := ⟨61, ech, wb, base, Heap.empty, false, false, fs.map sndF, .run⟩
theorem Fro.all_cons {f : Fro} {e : Entry} {t : List Entry} (h : f.all = e :: t) : f.more = true ∧ f.e = e ∧ f.rem = t := by
  unfold Fro.all at h
  split at h
  · rename_i hm; cases h; exact ⟨hm, rfl, rfl⟩
  · cases h
theorem leastL_of {fs : List Fro} {o : Option Nat} (h : LeastP fs fs.length o) : LeastL (fs.map Fro.all) o := by
  cases o with
  | none =>
    intro j hj
    rw [List.getElem_map]
    have hj' : j < fs.length := by simpa using hj
    simp [Fro.all, h j hj' hj']
  | some k =>
    obtain ⟨hk, _, a2, a3, a4⟩ := h
    refine ⟨by simpa using hk, fs[k].e, fs[k].rem, by rw [List.getElem_map]; simp [Fro.all, a2], fun j hj e' t' hjk he => ?_, fun j hj e' t' he => ?_⟩
    · rw [List.getElem_map] at he
      obtain ⟨h1, rfl, _⟩ := Fro.all_cons he
      exact a3 j (by simpa using hj) hjk h1
    · rw [List.getElem_map] at he
      obtain ⟨h1, rfl, _⟩ := Fro.all_cons he
      exact a4 j (by simpa using hj) (by simpa using hj) h1
theorem tot_set : ∀ {ls : List (List Entry)} {k : Nat} {e : Entry} {t : List Entry}, ls[k]? = some (e :: t) → tot (ls.set k t) + 1 = tot ls
  | [], k, e, t, h => by simp at h
  | l :: ls, 0, e, t, h => by simp at h; subst h; simp [tot]; omega
  | l :: ls, k + 1, e, t, h => by
    have := tot_set (ls := ls) (k := k) (by simpa using h)
    simp only [tot, List.set_cons_succ, List.map_cons, List.sum_cons] at this ⊢
    omega
theorem rl_fro {H : Heap} : ∀ {xs ys : List Fro} {cs : List Value}, xs.map Fro.fb = ys.map Fro.fb → RL rFro H cs xs → RL rFro H cs ys
  | [], [], _, _, h => h
  | x :: xs, y :: ys, _, e, ⟨c, r, e1, h1, h2⟩ => by
    simp only [List.map_cons, List.cons.injEq] at e
    exact ⟨c, r, e1, by rw [show c = _ from h1, e.1]; rfl, rl_fro e.2 h2⟩
  | [], _ :: _, _, e, _ => by cases e
  | _ :: _, [], _, e, _ => by cases e
theorem sub_fro {H : Heap} {s : Value} {xs ys : List Fro} {L : List HProp} (e : xs.map Fro.fb = ys.map Fro.fb) : Sub (ownS rFro 1 8 63 H s xs :: L) (ownS rFro 1 8 63 H s ys :: L) := by
  have hl : xs.length = ys.length := by have := congrArg List.length e; simpa using this
  rintro h ⟨h1, h2, ⟨cs, ⟨a, b⟩, c⟩, r⟩
  exact ⟨h1, h2, ⟨cs, ⟨rl_fro e a, hl ▸ b⟩, hl ▸ c⟩, r⟩
set_option maxHeartbeats 4000000 in
theorem first_spec {W0 : GW} {H : Heap} {v : Value} {ls : List (List Entry)} {n : Int} (hs : W0.s = .solo) (hv : SlR rLst 1 H v ls) (hlen : ls.length + 2 < 2147483648) (hll : ∀ l ∈ ls, l.length ≤ cap47) (htot : tot ls * 48 ≤ cap47) :
    Ct Try.prog 11 #[v, .int .i64 n] W0 H [] (fun r H' B => H' = H ∧ ((¬ (∀ l ∈ ls, Ordd l) ∧ r = .tuple #[.slice none 0 0, .int .i64 60] ∧ B = []) ∨
      ((∀ l ∈ ls, Ordd l) ∧ ∃ s res, Mrg n ls [] res ∧ r = .tuple #[s, .int .i64 0] ∧ B = [ownS rEntry 4 48 37 H s res]))) := by
  refine Ct.go (vs := [_, _]) fun R => ?_
  obtain ⟨b0, c0, rfl, hc0, hd0⟩ := hv.shape
  refine walk ?_
  refine ex_scope ?_
  refine walk ?_
  refine ex_loop (fun i : Nat => i ≤ ls.length ∧ ∀ j (h : j < ls.length), j < i → Ordd ls[j]) (fun i => [(20, .int .i64 i), (19, .int .i64 ls.length), (18, .slice b0 ls.length c0), (0, .slice b0 ls.length c0), (1, .int .i64 n)]) (fun _ => H) (fun _ => R) (fun i => ls.length - i) 0 ⟨Nat.zero_le _, fun j h hj => by omega⟩ fun i ⟨hi, hI⟩ K hK => ?_
  by_cases hlt : i < ls.length
  · refine walk ?_
    refine ops_ixp rfl rfl hv hlt fun b1 o1 c1 h1 h2 => ?_
    obtain ⟨v1, rfl, h2⟩ := h2
    refine ops_ldH0 rfl rfl h1 rfl ?_
    refine walk ?_
    refine ops_call rfl rfl (ordered_spec h2 (hll _ (List.getElem_mem hlt))) fun r H' B hl ⟨⟨b, er, hb⟩, eB, eH⟩ => ?_
    subst er eB eH
    cases b with
    | false =>
      refine walk ?_
      refine out_scope_ret (fin0 ?_)
      exact ⟨rfl, .inl ⟨(fun h => by have := hb.2 (h _ (List.getElem_mem hlt)); cases this), rfl, rfl⟩⟩
    | true =>
      refine walk ?_
      exact out_next hK (i + 1) ⟨hlt, fun j h hj => by
        by_cases e : j = i
        · subst e; exact hb.1 rfl
        · exact hI j h (by omega)⟩
  · have hall : ∀ l ∈ ls, Ordd l := fun l hl => by
      obtain ⟨j, hj, rfl⟩ := List.getElem_of_mem hl
      exact hI j hj (by omega)
    have hok : ∀ l ∈ ls, ∀ e ∈ l, okE e := fun l hl => (hv.all (p := fun l => ∀ e ∈ l, okE e) (fun H c x ⟨v, _, h⟩ => h.all fun _ _ _ h => h.2)) l hl
    refine walk ?_
    refine ops_makeChan rfl fun ech => ?_
    refine ops_alloc rfl fun eb _ => ?_
    refine walk ?_
    refine ops_alloc rfl fun wb _ => ?_
    refine ops_nil (out_seq ?_)
    refine ex_opn (cty := 61) (ech := ech) (wg := wb) (LB := [row eb 51 [.chan (some ech)]]) (L' := R) hs (.there (.there .here)) .here (.cons .here .nil) fun hB b1 b2 b3 b4 b5 => ?_
    have heb : (union H hB) eb = some (.cells [.chan (some ech)].toArray 51 (0, 0)) := le_union_right b2 _ _ (big_row .here b1)
    generalize hbase : union H hB = base at b3 b4 b5 heb ⊢
    have hHb : H.le base := by rw [← hbase]; exact le_union_left _ _
    refine walk ?_
    refine ex_L (L' := ownS rFro 1 8 63 Heap.empty (.slice none 0 0) [] :: bigL frP [] :: R) (bigL_nil.trans ownS_nil) ?_
    refine ex_loopG (fun s : List Fro × Value => s.1.length ≤ ls.length ∧ s.1.map Fro.all = ls.take s.1.length ∧ ∀ f ∈ s.1, f.more = false → f.rem = []) (fun s => setS W0 (.co (coAt ech wb base s.1)))
      (fun s => [(31, .int .i64 s.1.length), (30, .int .i64 ls.length), (29, .slice b0 ls.length c0), (10, s.2), (9, .pointer (some ⟨wb, 0, none⟩)), (8, .pointer (some ⟨eb, 0, none⟩)), (1, .int .i64 n)]) (fun _ => Heap.empty) (fun s => ownS rFro 1 8 63 Heap.empty s.2 s.1 :: bigL frP s.1 :: R) (fun s => ls.length - s.1.length) ([], .slice none 0 0)
      ⟨Nat.zero_le _, rfl, fun f hf => by cases hf⟩ fun ⟨fs, s10⟩ ⟨g1, g2, g3⟩ K hK => ?_
    simp only at g1 g2 g3
    dsimp only
    by_cases hlt : fs.length < ls.length
    · refine walk ?_
      refine ops_ixpAt rfl rfl hv hlt fun b1 o1 c1 h1 h2 => ?_
      obtain ⟨v1, rfl, h2⟩ := h2
      obtain ⟨vb, vc, hv1, _, _⟩ := h2.shape
      have hpl : base.le (pool (.co (coAt ech wb base fs))) := base_le_co (coAt ech wb base fs)
      refine ops_pk1 rfl (hcell_mono (hHb.trans hpl) (h1 0 _ rfl)) ?_
      rw [hv1]
      refine ops_alloc rfl fun lb _ => ?_
      refine walk ?_
      refine ops_makeChan rfl fun ch => ?_
      refine walk ?_
      refine ops_box rfl rfl fun fb _ => ?_
      refine ops_alloc rfl fun pb _ => ?_
      refine walk ?_
      refine ops_g (opG_call (vs := [_, _]) (A := []) rfl (add_spec (c := coAt ech wb base fs) rfl rfl rfl rfl (by simp only [List.length_map]; omega)) .nil fun r W1 H' B hh => ?_)
      obtain ⟨eH, eB, rfl, rfl⟩ := hh
      subst eH eB
      refine walk ?_
      have hls : SlR rEntry 4 base v1 ls[fs.length] := h2.mono hHb
      rw [hv1] at hls
      refine ops_g0 (opG_go (c := { coAt ech wb base fs with st := .pend }) (ch := ch) (ys := ls[fs.length].map vE) (LD := [row fb 66 (cvF ch zEntry false), row lb 25 [.slice vb ls[fs.length].length vc], row pb 63 [.pointer (some ⟨fb, 0, none⟩)]]) rfl (by simp only [List.length_map]; omega) rfl rfl rfl rfl (.there (.there .here))
        (.cons (.there .here) (.cons (.there .here) (.cons .here .nil))) rfl fun D d1 d2 d3 d4 d5 => ⟨?_, ?_⟩)
      · exact kid_first (q := ⟨61, ech, wb, base, D, ch, ls[fs.length].map vE, true, false, false⟩) (lb := lb) (pb := pb) (fb := fb) (eb := eb) rfl rfl rfl rfl rfl d3 hls (big_row (.there .here) d1) (big_row (.there (.there .here)) d1) (big_row .here d1) heb
      · refine walk ?_
        have hpb := hcell_of_obj (off := 0) (pool_win (c := ⟨61, ech, wb, base, D, true, false, fs.map sndF ++ [⟨ch, ls[fs.length].map vE⟩], .run⟩) d3 (big_row (.there (.there .here)) d1)) rfl
        refine ops_pk1 rfl hpb ?_
        refine ops_g (opG_call (vs := [_]) (A := []) rfl (next_win (c := ⟨61, ech, wb, base, D, true, false, fs.map sndF ++ [⟨ch, ls[fs.length].map vE⟩], .run⟩) (i := fs.length) (l := ls[fs.length]) rfl rfl rfl (by simp) (by simp) d3 d2 d1) .nil fun r W1 H' B hh => ?_)
        obtain ⟨eH, er, hg⟩ := hh
        subst eH er
        obtain ⟨f, f1, f2, f3, f4, f5, f6⟩ : ∃ f : Fro, f.ch = ch ∧ f.fb = fb ∧ f.all = ls[fs.length] ∧ (f.more = false → f.rem = []) ∧ W1 = setS W0 (.co (coAt ech wb base (fs ++ [f]))) ∧
            B = [row fb 66 (cvF ch f.e f.more), row lb 25 [.slice vb ls[fs.length].length vc], row pb 63 [.pointer (some ⟨fb, 0, none⟩)]] := by
          rcases hg with ⟨e1, e2, e3⟩ | ⟨e, l', e1, e2, e3⟩
          · refine ⟨⟨ch, fb, zEntry, false, []⟩, rfl, rfl, e1.symm, fun _ => rfl, ?_, e3⟩
            rw [e2]
            show setS W0 _ = setS W0 _
            congr 2
            simp only [Co.mk.injEq, true_and, and_true]
            simp [e1]
          · refine ⟨⟨ch, fb, e, true, l'⟩, rfl, rfl, e1.symm, fun h => (by cases h), ?_, e3⟩
            rw [e2]
            show setS W0 _ = setS W0 _
            congr 2
            simp only [Co.mk.injEq, true_and, and_true]
            simp [List.set_append_right]
        rw [f5, f6]
        refine ops_L (L' := row pb 63 [.pointer (some ⟨fb, 0, none⟩)] :: row fb 66 (cvF ch f.e f.more) :: ownS rFro 1 8 63 Heap.empty s10 fs :: bigL frP fs :: R) subA ?_
        refine walk ?_
        refine ops_app1 (y := f) rfl rfl rfl (by rw [← f2]; rfl) (by unfold cap47; omega) fun b2 cap => ?_
        refine walk ?_
        refine out_L (L' := ownS rFro 1 8 63 Heap.empty (.slice b2 (fs.length + 1) cap) (fs ++ [f]) :: bigL frP (fs ++ [f]) :: R) (.cons (.drop ?_)) (out_nextG hK (fs ++ [f], .slice b2 (fs.length + 1) cap) ⟨by simp; omega, ?_, ?_⟩ ?_ (hf := ?_))
        · have := bigL_in (A := frP) (l1 := fs) (x := f) (l2 := []) (L := R)
          rw [List.append_nil] at this
          subst f1 f2
          exact this
        · simp only [List.map_append, List.map_cons, List.map_nil, List.length_append, List.length_cons, List.length_nil, g2, f3]
          rw [List.take_succ_eq_append_getElem hlt]
        · intro f' hf'
          rcases List.mem_append.1 hf' with h | h
          · exact g3 f' h
          · rw [List.mem_singleton.1 h]; exact f4
        · simp; omega
        · simp only [List.length_append, List.length_cons, List.length_nil]
          repeat (first | exact fsub_nil _ | refine fsub_cons rfl ?_)
    · have hfl : fs.length = ls.length := by omega
      rw [hfl, List.take_length] at g2
      refine walk ?_
      refine ex_label (out_seq ?_)
      refine ex_L (L' := ownS rEntry 4 48 37 Heap.empty (.slice none 0 0) [] :: ownS rFro 1 8 63 Heap.empty s10 fs :: bigL frP fs :: R) ownS_nil ?_
      refine ex_cutG (σ := List Fro × List Entry × Value) (fun s => Mrg n ls [] s.2.1 ∧ s.1.length = ls.length) (fun s => setS W0 (.co (coAt ech wb base s.1))) (fun s => [(14, s.2.2), (9, .pointer (some ⟨wb, 0, none⟩)), (8, .pointer (some ⟨eb, 0, none⟩))]) (fun _ => Heap.empty) (fun s => ownS rEntry 4 48 37 Heap.empty s.2.2 s.2.1 :: R) (fun K2 hK2 => ?_) fun ⟨fs2, out, s14⟩ ⟨hM, hfl2⟩ => ?_
      · refine walk ?_
        refine ex_loopG (fun s : List Fro × List Entry × Value => s.1.map Fro.fb = fs.map Fro.fb ∧ (∀ f ∈ s.1, f.more = false → f.rem = []) ∧ (∀ l ∈ s.1.map Fro.all, ∀ e ∈ l, okE e) ∧ s.2.1.length + tot (s.1.map Fro.all) ≤ tot ls ∧ ∀ res, Mrg n (s.1.map Fro.all) s.2.1 res → Mrg n ls [] res) (fun s => setS W0 (.co (coAt ech wb base s.1)))
          (fun s => [(14, s.2.2), (10, s10), (9, .pointer (some ⟨wb, 0, none⟩)), (8, .pointer (some ⟨eb, 0, none⟩)), (1, .int .i64 n)]) (fun _ => Heap.empty) (fun s => ownS rEntry 4 48 37 Heap.empty s.2.2 s.2.1 :: ownS rFro 1 8 63 Heap.empty s10 s.1 :: bigL frP s.1 :: R) (fun s => tot (s.1.map Fro.all)) (fs, [], .slice none 0 0)
          ⟨rfl, g3, by rw [g2]; exact hok, by rw [g2]; simp, by rw [g2]; exact fun _ h => h⟩ fun ⟨fs3, out, s14⟩ ⟨p1, p2, p3, p4, p5⟩ K hK => ?_
        simp only at p1 p2 p3 p4 p5
        dsimp only
        have hl3 : fs3.length = ls.length := by have := congrArg List.length p1; simp only [List.length_map] at this; omega
        refine ex_know .here (fun h ho => ownS_shape ho) fun ⟨b14, c14, e14, _, _⟩ => ?_
        subst e14
        refine walk ?_
        refine ex_if rfl (fun hlt2 => ?_) (fun hlt2 => ?_)
        · refine walk ?_
          refine ops_call rfl rfl (least_spec (HS := Heap.empty) (fs := fs3)) fun r H' B hl ⟨⟨o, er, ho⟩, eB, eH⟩ => ?_
          subst er eB eH
          have hL := leastL_of ho
          cases o with
          | none =>
            simp only [ptrF]
            refine walk ?_
            exact out_toG hK2 (fs3, out, .slice b14 out.length c14) ⟨p5 _ (.done hL), hl3⟩
          | some k =>
            obtain ⟨hk, -, a2, -, -⟩ := ho
            simp only [ptrF, List.getElem?_eq_getElem hk]
            have sb : ∀ X, Sub (ownS rFro 1 8 63 Heap.empty s10 fs3 :: bigL frP fs3 :: X) (bigL frP fs3 :: ownS rFro 1 8 63 Heap.empty s10 fs3 :: X) := fun X => subA
            refine ops_L ((sb _).trans (bigL_get hk)) ?_
            refine walk ?_
            refine ops_alloc rfl fun p16 _ => ?_
            refine walk ?_
            generalize he0 : fs3[k].e = e0
            refine ops_g (opG_call (vs := [_]) (A := [row fs3[k].fb 66 (cvF fs3[k].ch fs3[k].e fs3[k].more)]) rfl (next_own (c := coAt ech wb base fs3) (i := k) (l := fs3[k].rem) rfl rfl rfl (by simp [hk]) rfl rfl) (.cons (.there .here) .nil) fun r W1 H' B hh => ?_)
            obtain ⟨eH, er, hg⟩ := hh
            subst eH er
            obtain ⟨f, f1, f2, f3, f4, f5, f6⟩ : ∃ f : Fro, f.ch = fs3[k].ch ∧ f.fb = fs3[k].fb ∧ f.all = fs3[k].rem ∧ (f.more = false → f.rem = []) ∧ W1 = setS W0 (.co (coAt ech wb base (fs3.set k f))) ∧ B = [frP f] := by
              rcases hg with ⟨e1, e2, e3⟩ | ⟨e, l', e1, e2, e3⟩
              · refine ⟨⟨fs3[k].ch, fs3[k].fb, zEntry, false, []⟩, rfl, rfl, e1.symm, fun _ => rfl, ?_, e3⟩
                rw [e2]
                show setS W0 _ = setS W0 _
                congr 2
                simp only [Co.mk.injEq, true_and, and_true]
                rw [List.map_set]
                have : sndF ⟨fs3[k].ch, fs3[k].fb, zEntry, false, []⟩ = (fs3.map sndF)[k]'(by simpa using hk) := by simp [e1]
                rw [this, List.set_getElem_self]
              · refine ⟨⟨fs3[k].ch, fs3[k].fb, e, true, l'⟩, rfl, rfl, e1.symm, fun h => (by cases h), ?_, e3⟩
                rw [e2]
                show setS W0 _ = setS W0 _
                congr 2
                simp only [Co.mk.injEq, true_and, and_true]
                rw [List.map_set]
            rw [f5, f6]
            have hfb : fs3.map Fro.fb = (fs3.set k f).map Fro.fb := by
              rw [List.map_set, f2]
              have : fs3[k].fb = (fs3.map Fro.fb)[k]'(by simpa using hk) := by simp
              rw [this, List.set_getElem_self]
            have hget : (fs3.map Fro.all)[k]? = some (e0 :: fs3[k].rem) := by
              rw [List.getElem?_map, List.getElem?_eq_getElem hk]
              simp [Fro.all, a2, he0]
            have hset : (fs3.set k f).map Fro.all = (fs3.map Fro.all).set k fs3[k].rem := by rw [List.map_set, f3]
            have htt := tot_set hget
            have hoke : okE e0 := p3 _ (List.mem_of_getElem? hget) _ (List.mem_cons_self ..)
            have hI3 : ∀ f' ∈ fs3.set k f, f'.more = false → f'.rem = [] := fun f' hf' => by
              rcases List.mem_or_eq_of_mem_set hf' with h | rfl
              · exact p2 f' h
              · exact f4
            have hok3 : ∀ l ∈ (fs3.set k f).map Fro.all, ∀ e ∈ l, okE e := fun l hl e he => by
              rw [hset] at hl
              rcases List.mem_or_eq_of_mem_set hl with h | rfl
              · exact p3 l h e he
              · exact p3 _ (List.mem_of_getElem? hget) e (List.mem_cons_of_mem _ he)
            have sb2 : ∀ X, Sub (ownS rFro 1 8 63 Heap.empty s10 fs3 :: X) (ownS rFro 1 8 63 Heap.empty s10 (fs3.set k f) :: X) := fun X => sub_fro hfb
            refine ops_L (L' := bigL frP (fs3.set k f) :: ownS rFro 1 8 63 Heap.empty s10 fs3 :: row p16 37 e0.cv :: ownS rEntry 4 48 37 Heap.empty (.slice b14 out.length c14) out :: R) (.trans ?_ (bigL_set hk)) ?_
            · exact subA
            refine ops_L (L' := ownS rFro 1 8 63 Heap.empty s10 fs3 :: bigL frP (fs3.set k f) :: row p16 37 e0.cv :: ownS rEntry 4 48 37 Heap.empty (.slice b14 out.length c14) out :: R) subA ?_
            refine ops_L (sb2 _) ?_
            have hcap : (out.length + 1) * 48 ≤ cap47 := Nat.le_trans (Nat.mul_le_mul_right 48 (by omega)) htot
            have hlt3 : (out.length : Int) < n := hlt2
            refine ops_nil (out_seq ?_)
            refine ex_lendS (.slice b14 out.length c14) fun D o1 d1 l1 hsl => ?_
            by_cases h0 : out.length = 0
            · have hq : ¬ (0 : Int) < (out.length : Int) := by omega
              refine walk ?_
              refine ops_back o1 d1 (.refl _) ?_
              refine ops_app1 (y := e0) rfl rfl rfl ⟨rfl, hoke⟩ hcap fun b2 cap => ?_
              refine walk ?_
              refine out_nextG hK (fs3.set k f, out ++ [e0], .slice b2 (out.length + 1) cap) ⟨hfb.symm.trans p1, hI3, hok3, ?_, fun res h => p5 res (.take hlt3 hL hget ?_ (by rw [← hset]; exact h))⟩ ?_
              · simp only [List.length_append, List.length_cons, List.length_nil]; rw [hset]; omega
              · rintro ⟨x, hx, _⟩
                rw [List.eq_nil_of_length_eq_zero h0] at hx; cases hx
              · dsimp only; rw [hset]; omega
            · have hq : (0 : Int) < (out.length : Int) := by omega
              have hgl : out.getLast? = some (out[out.length - 1]'(by omega)) := by
                rw [List.getLast?_eq_getElem?, List.getElem?_eq_getElem]
              refine walk ?_
              refine ops_ixp (j := out.length - 1) (hi := ⟨by omega⟩) rfl rfl hsl.1 (by omega) fun bx ox cx hx1 hx2 => ?_
              obtain ⟨rfl, -⟩ := hx2
              refine walk ?_
              by_cases hk1 : (out[out.length - 1]'(by omega)).Key = e0.Key
              · rw [decide_eq_true hk1]
                refine walk ?_
                refine ops_ixp (j := out.length - 1) (hi := ⟨by omega⟩) rfl rfl hsl.1 (by omega) fun by_ oy cy hy1 hy2 => ?_
                obtain ⟨rfl, -⟩ := hy2
                refine walk ?_
                refine ex_if rfl (fun hs2 => ?_) (fun hs2 => ?_)
                · refine walk ?_
                  refine out_back o1 d1 (.refl _) ?_
                  refine out_nextG hK (fs3.set k f, out, .slice b14 out.length c14) ⟨hfb.symm.trans p1, hI3, hok3, ?_, fun res h => p5 res (.skip hlt3 hL hget ⟨_, hgl, hk1, hs2⟩ (by rw [← hset]; exact h))⟩ ?_
                  · dsimp only; rw [hset]; omega
                  · dsimp only; rw [hset]; omega
                · refine walk ?_
                  refine ops_back o1 d1 (.refl _) ?_
                  refine ops_app1 (y := e0) rfl rfl rfl ⟨rfl, hoke⟩ hcap fun b2 cap => ?_
                  refine walk ?_
                  refine out_nextG hK (fs3.set k f, out ++ [e0], .slice b2 (out.length + 1) cap) ⟨hfb.symm.trans p1, hI3, hok3, ?_, fun res h => p5 res (.take hlt3 hL hget ?_ (by rw [← hset]; exact h))⟩ ?_
                  · simp only [List.length_append, List.length_cons, List.length_nil]; rw [hset]; omega
                  · rintro ⟨x, hx, hx1, hx2⟩
                    rw [hgl] at hx; cases hx
                    exact hs2 hx2
                  · dsimp only; rw [hset]; omega
              · rw [decide_eq_false hk1]
                refine walk ?_
                refine ops_back o1 d1 (.refl _) ?_
                refine ops_app1 (y := e0) rfl rfl rfl ⟨rfl, hoke⟩ hcap fun b2 cap => ?_
                refine walk ?_
                refine out_nextG hK (fs3.set k f, out ++ [e0], .slice b2 (out.length + 1) cap) ⟨hfb.symm.trans p1, hI3, hok3, ?_, fun res h => p5 res (.take hlt3 hL hget ?_ (by rw [← hset]; exact h))⟩ ?_
                · simp only [List.length_append, List.length_cons, List.length_nil]; rw [hset]; omega
                · rintro ⟨x, hx, hx1, hx2⟩
                  rw [hgl] at hx; cases hx
                  exact hk1 hx1
                · dsimp only; rw [hset]; omega
        · refine walk ?_
          exact out_toG hK2 (fs3, out, .slice b14 out.length c14) ⟨p5 _ (.full hlt2), hl3⟩
      · dsimp only at hM hfl2 ⊢
        have hpl : base.le (pool (.co (coAt ech wb base fs2))) := base_le_co (coAt ech wb base fs2)
        refine walk ?_
        refine ops_pk1 rfl (hcell_of_obj (off := 0) (hpl _ _ heb) rfl) ?_
        refine ops_g0 (opG_clos (c := coAt ech wb base fs2) rfl rfl rfl rfl rfl ?_)
        refine walk ?_
        refine ops_g (opG_call (vs := [_]) (A := []) rfl (wait_spec (c := { coAt ech wb base fs2 with shut := true }) rfl rfl rfl rfl (by simp only [List.length_map]; omega)) .nil fun r W1 H' B hh => ?_)
        obtain ⟨eH, eB, rfl, rfl⟩ := hh
        subst eH eB
        refine ops_nil (out_seq ?_)
        refine Go.X.ex_back (c := { coAt ech wb base fs2 with st := .done, shut := true }) (H0 := H) (hB := hB) (LB := [row eb 51 [.chan (some ech)]]) rfl rfl rfl hbase.symm b1 b2 b3 ?_
        show Ex _ _ (setS W0 .solo) _ _ _ _ _ _
        rw [setS_eq hs]
        refine walk ?_
        refine out_scope_ret (finB [ownS rEntry 4 48 37 H s14 out] ?_ (hs := ?_))
        · exact ⟨rfl, .inr ⟨hall, s14, out, hM, rfl, rfl⟩⟩
        · exact .drop (sub_flat Heap.empty H)
end Go.Proofs.Ytjkiioicjmaeoaa
