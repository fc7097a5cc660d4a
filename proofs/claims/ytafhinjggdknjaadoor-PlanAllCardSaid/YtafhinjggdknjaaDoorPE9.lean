/- Maps: made, looked up, written, deleted from; owned or only read. No program in sight. -/
import Derived.Test.YtafhinjggdknjaaDoorPE8
set_option linter.unusedVariables false
set_option linter.unusedSimpArgs false
namespace Go.Sx
open Go Go.X
section
variable {P : Program} {t : TypeId} {k : IntKind}
theorem calm_checkInt (hu : P.underlying t = some (.int k)) (x : Int) (em : Bool) : (Instr.checkKey em 10000 t (.int k x)).Calm P := by
  rw [show (10000 : Nat) = 9999 + 1 from rfl, Instr.checkKey]; exact calm_und hu (calm_pure _)
theorem calm_checkStr (hu : P.underlying t = some .string) (x : ByteArray) (em : Bool) : (Instr.checkKey em 10000 t (.string x)).Calm P := by
  rw [show (10000 : Nat) = 9999 + 1 from rfl, Instr.checkKey]; exact calm_und hu (calm_pure _)
theorem calm_findOf {v : Value} (h : ∀ u, (Op.equal t v u).Calm P) (es : List MapEntry) : (Instr.findKey t v es).Calm P := by
  have key : ∀ (es : List MapEntry) (i : Nat), (Instr.findAsking t v es i).Calm P := by
    intro es
    induction es with
    | nil => intro i; exact calm_pure _
    | cons e es ih => intro i; unfold Instr.findAsking; exact calm_bind (h _) fun _ => calm_ite (calm_pure _) (ih _)
  unfold Instr.findKey
  refine calm_bind (calm_underlying _) fun _ => ?_
  split
  · exact calm_pure _
  · exact key _ _
theorem calm_findStr (hu : P.underlying t = some .string) (x : ByteArray) (es : List MapEntry) : (Instr.findKey t (.string x) es).Calm P := calm_findOf (fun u => by
  unfold Op.equal Op.maxDepth Op.equalIn
  refine calm_und hu ?_
  cases u <;> first | exact calm_pure _ | exact calm_stuck _ | exact calm_unsupported _) es
end
section
variable {κ ν : Type} [DecidableEq κ]
def mget (k : κ) : List (κ × ν) → Option ν
  | [] => none
  | (k', v) :: r => if k = k' then some v else mget k r
def mset (k : κ) (v : ν) : List (κ × ν) → List (κ × ν)
  | [] => [(k, v)]
  | (k', v') :: r => if k = k' then (k, v) :: r else (k', v') :: mset k v r
theorem mget_mset (k k' : κ) (v : ν) : ∀ m : List (κ × ν), mget k' (mset k v m) = if k' = k then some v else mget k' m
  | [] => by simp only [mset, mget]
  | (k1, v1) :: r => by
    simp only [mset]
    split
    · next h => subst h; simp only [mget]; split <;> rfl
    · next h =>
      simp only [mget]
      split
      · next h2 => subst h2; rw [if_neg (fun e => h e.symm)]
      · exact mget_mset k k' v r
theorem mget_none {k : κ} : ∀ {m : List (κ × ν)}, mget k m = none ↔ k ∉ m.map (·.1)
  | [] => by simp [mget]
  | (k1, v1) :: r => by
    simp only [mget, List.map_cons, List.mem_cons, not_or]
    split
    · next h => simp [h]
    · next h => rw [mget_none]; simp [h]
theorem mset_keys (k : κ) (v : ν) : ∀ m : List (κ × ν), (mset k v m).map (·.1) = if k ∈ m.map (·.1) then m.map (·.1) else m.map (·.1) ++ [k]
  | [] => by simp [mset]
  | (k1, v1) :: r => by
    simp only [mset]
    split
    · next h => subst h; simp
    · next h =>
      have ih := mset_keys k v r
      simp only [List.map_cons, ih, List.mem_cons, h, false_or]
      split <;> simp
theorem mset_nodup {k : κ} {v : ν} {m : List (κ × ν)} (h : (m.map (·.1)).Nodup) : ((mset k v m).map (·.1)).Nodup := by
  rw [mset_keys]; split
  · exact h
  · next hn => rw [List.nodup_append]; exact ⟨h, by simp, by rintro a ha b hb rfl; simp at hb; subst hb; exact hn ha⟩
end
def ofC (agg : Bool) (cs : List Value) : Value := match agg with | true => .agg cs.toArray | false => cs.headD undef
section
variable {κ ν : Type}
def EL (ek : κ → Value) (R : Rd ν) (ag : Bool) (H : Heap) : List MapEntry → List (κ × ν) → Prop
  | [], [] => True
  | e :: es, (k, v) :: m => e.key = ek k ∧ (∃ cs, e.val = ofC ag cs ∧ R H cs v) ∧ EL ek R ag H es m
  | _, _ => False
structure MapOk (ek : κ → Value) (R : Rd ν) (ag : Bool) (H : Heap) (es : Array MapEntry) (clock : Nat) (m : List (κ × ν)) : Prop where
  el : EL ek R ag H es.toList m
  nodup : (m.map (·.1)).Nodup
  rise : (es.toList.map (·.born)).Pairwise (· < ·)
  lt : ∀ e ∈ es.toList, e.born < clock
theorem EL.len {ek : κ → Value} {R : Rd ν} {ag : Bool} {H : Heap} : ∀ {es : List MapEntry} {m : List (κ × ν)}, EL ek R ag H es m → es.length = m.length
  | [], [], _ => rfl
  | _ :: es, _ :: m, h => by simp [h.2.2.len]
  | [], _ :: _, h => h.elim
  | _ :: _, [], h => h.elim
theorem EL.mono {ek : κ → Value} {R : Rd ν} {ag : Bool} {sz : Nat} [RdOk R sz] {H H' : Heap} (hl : H.le H') : ∀ {es : List MapEntry} {m : List (κ × ν)}, EL ek R ag H es m → EL ek R ag H' es m
  | [], [], _ => trivial
  | _ :: es, _ :: m, ⟨a, ⟨cs, b, c⟩, d⟩ => ⟨a, ⟨cs, b, RdOk.mono hl c⟩, d.mono hl⟩
  | [], _ :: _, h => h.elim
  | _ :: _, [], h => h.elim
theorem MapOk.mono {ek : κ → Value} {R : Rd ν} {ag : Bool} {sz : Nat} [RdOk R sz] {H H' : Heap} {es : Array MapEntry} {clock : Nat} {m : List (κ × ν)} (h : MapOk ek R ag H es clock m) (hl : H.le H') : MapOk ek R ag H' es clock m := ⟨h.el.mono hl, h.nodup, h.rise, h.lt⟩
def mapO (ek : κ → Value) (R : Rd ν) (ag : Bool) (H : Heap) (b : Nat) (m : List (κ × ν)) : HProp := fun h => ∃ es clock, MapOk ek R ag H es clock m ∧ pt b (.map es clock) h
def mapH (ek : κ → Value) (R : Rd ν) (ag : Bool) (H : Heap) (b : Nat) (m : List (κ × ν)) : Prop := ∃ es clock, MapOk ek R ag H es clock m ∧ H b = some (.map es clock)
theorem mapH.mono {ek : κ → Value} {R : Rd ν} {ag : Bool} {sz : Nat} [RdOk R sz] {H H' : Heap} {b : Nat} {m : List (κ × ν)} (h : mapH ek R ag H b m) (hl : H.le H') : mapH ek R ag H' b m := by
  obtain ⟨es, c, a, e⟩ := h; exact ⟨es, c, a.mono hl, hl _ _ e⟩
class TKey (P : Program) (t : TypeId) [DecidableEq κ] (ek : κ → Value) : Prop where
  chk : ∀ e k w, (Instr.checkKey e 10000 t (ek k)).run P w = .ok () w
  eq : ∀ (k : κ) (es : List MapEntry) w, (∀ e ∈ es, ∃ k', e.key = ek k') → ∃ r, (Instr.findKey t (ek k) es).run P w = .ok r w ∧ (match r with
    | none => ∀ e ∈ es, e.key ≠ ek k
    | some (i, v) => ∃ e, es[i]? = some e ∧ v = e.val ∧ e.key = ek k ∧ ∀ j, j < i → ∀ e', es[j]? = some e' → e'.key ≠ ek k)
  stays : ∀ k w, (Instr.keyThatStays (ek k) (ek k)).run P w = .ok (ek k) w
  inj : ∀ k k', ek k = ek k' → k = k'
  cchk : ∀ (x : κ) (em : Bool), (Instr.checkKey em 10000 t (ek x)).Calm P
  cfind : ∀ (x : κ) (es : List MapEntry), (Instr.findKey t (ek x) es).Calm P
class TMap (P : Program) (t : TypeId) (kt et : outParam TypeId) : Prop where
  und : P.underlying t = some (.map kt et)
end
section
variable {κ ν : Type} [DecidableEq κ] {ek : κ → Value} {R : Rd ν} {ag : Bool} {H : Heap}
omit [DecidableEq κ] in
theorem EL.all {P : Program} {t : TypeId} : ∀ {es : List MapEntry} {m : List (κ × ν)}, EL ek R ag H es m → ∀ e ∈ es, ∃ k', e.key = ek k'
  | [], [], _, e, he => by cases he
  | e1 :: es, (k, v) :: m, ⟨a, b, d⟩, e, he => by
    rcases List.mem_cons.1 he with rfl | he
    · exact ⟨k, a⟩
    · exact EL.all (P := P) (t := t) d e he
  | [], _ :: _, h, _, _ => h.elim
  | _ :: _, [], h, _, _ => h.elim
theorem EL.get_none {k : κ} : ∀ {es : List MapEntry} {m : List (κ × ν)}, EL ek R ag H es m → (∀ e ∈ es, e.key ≠ ek k) → mget k m = none
  | [], [], _, _ => rfl
  | e1 :: es, (k1, v) :: m, ⟨a, b, d⟩, h => by
    simp only [mget]
    rw [if_neg (by rintro rfl; exact h e1 (by simp) a)]
    exact EL.get_none d fun e he => h e (by simp [he])
  | [], _ :: _, h, _ => h.elim
  | _ :: _, [], h, _ => h.elim
theorem EL.get_some (hinj : ∀ k k', ek k = ek k' → k = k') {k : κ} : ∀ {es : List MapEntry} {m : List (κ × ν)} {i : Nat} {e : MapEntry}, EL ek R ag H es m → es[i]? = some e → e.key = ek k → (∀ j, j < i → ∀ e', es[j]? = some e' → e'.key ≠ ek k) → ∃ v cs, mget k m = some v ∧ e.val = ofC ag cs ∧ R H cs v
  | e1 :: es, (k1, v) :: m, 0, e, ⟨a, ⟨cs, b, c⟩, d⟩, he, hk, _ => by
    simp at he; subst he
    have : k = k1 := hinj _ _ (by rw [← hk, a])
    subst this
    exact ⟨v, cs, by simp [mget], b, c⟩
  | e1 :: es, (k1, v) :: m, i + 1, e, ⟨a, b, d⟩, he, hk, hn => by
    have h1 : e1.key ≠ ek k := hn 0 (by omega) e1 (by simp)
    simp only [mget]
    rw [if_neg (by rintro rfl; exact h1 a)]
    exact EL.get_some hinj d (by simpa using he) hk fun j hj e' he' => hn (j + 1) (by omega) e' (by simpa using he')
  | [], [], _, _, _, he, _, _ => by simp at he
  | [], _ :: _, _, _, h, _, _, _ => h.elim
  | _ :: _, [], _, _, h, _, _, _ => h.elim
theorem EL.set_some (hinj : ∀ k k', ek k = ek k' → k = k') {k : κ} {v' : ν} {cs' : List Value} (hv : R H cs' v') : ∀ {es : List MapEntry} {m : List (κ × ν)} {i : Nat} {e : MapEntry} (f : MapEntry → MapEntry), EL ek R ag H es m → es[i]? = some e → e.key = ek k → (∀ j, j < i → ∀ e', es[j]? = some e' → e'.key ≠ ek k) →
    (∀ e, e.key = ek k → (f e).key = ek k ∧ (f e).val = ofC ag cs') → EL ek R ag H (es.modify i f) (mset k v' m)
  | e1 :: es, (k1, v) :: m, 0, e, f, ⟨a, b, d⟩, he, hk, _, hf => by
    simp at he; subst he
    have : k = k1 := hinj _ _ (by rw [← hk, a])
    subst this
    obtain ⟨f1, f2⟩ := hf e1 hk
    simp only [List.modify_zero_cons, mset, if_pos]
    exact ⟨f1, ⟨cs', f2, hv⟩, d⟩
  | e1 :: es, (k1, v) :: m, i + 1, e, f, ⟨a, b, d⟩, he, hk, hn, hf => by
    have h1 : e1.key ≠ ek k := hn 0 (by omega) e1 (by simp)
    simp only [mset, List.modify_succ_cons]
    rw [if_neg (by rintro rfl; exact h1 a)]
    exact ⟨a, b, EL.set_some hinj hv f d (by simpa using he) hk (fun j hj e' he' => hn (j + 1) (by omega) e' (by simpa using he')) hf⟩
  | [], [], _, _, _, _, he, _, _, _ => by simp at he
  | [], _ :: _, _, _, _, h, _, _, _, _ => h.elim
  | _ :: _, [], _, _, _, h, _, _, _, _ => h.elim
theorem EL.set_none {k : κ} {v' : ν} {cs' : List Value} {e : MapEntry} (hv : R H cs' v') (h1 : e.key = ek k) (h2 : e.val = ofC ag cs') : ∀ {es : List MapEntry} {m : List (κ × ν)}, EL ek R ag H es m → mget k m = none → EL ek R ag H (es ++ [e]) (mset k v' m)
  | [], [], _, _ => ⟨h1, ⟨cs', h2, hv⟩, trivial⟩
  | e1 :: es, (k1, v) :: m, ⟨a, b, d⟩, hn => by
    simp only [mget] at hn
    split at hn
    · cases hn
    · next h => simp only [mset, if_neg h, List.cons_append]; exact ⟨a, b, EL.set_none hv h1 h2 d hn⟩
  | [], _ :: _, h, _ => h.elim
  | _ :: _, [], h, _ => h.elim
end
set_option linter.unusedSectionVars false
variable {P : Program} {t : TypeId} {k : IntKind}
theorem ba_beq (s t : ByteArray) : (s == t) = decide (s = t) := by
  show ByteArray.beq s t = _
  cases s with | mk a => cases t with | mk b =>
  unfold ByteArray.beq
  simp only [ByteArray.mk.injEq]
  by_cases h : a = b <;> simp [h]
instance [h : TSt P t] : TKey P t Value.string where
  chk e x w := by
    rw [show (10000 : Nat) = 9999 + 1 from rfl, Instr.checkKey]; simp [run_underlying h.und]
  eq x es w hk := by
    have hu := run_underlying h.und (w := w)
    have key : ∀ (es : List MapEntry) (i : Nat), (∀ e ∈ es, ∃ k', e.key = Value.string k') → ∃ r, Instr.findNow .string (.string x) es i = some r ∧ (match r with
        | none => ∀ e ∈ es, e.key ≠ Value.string x
        | some (j, v) => i ≤ j ∧ ∃ e, es[j - i]? = some e ∧ v = e.val ∧ e.key = Value.string x ∧ ∀ l, l < j - i → ∀ e', es[l]? = some e' → e'.key ≠ Value.string x) := by
      intro es
      induction es with
      | nil => intro i _; exact ⟨none, rfl, by simp⟩
      | cons e es ih =>
        intro i hk
        obtain ⟨k', hk'⟩ := hk e (by simp)
        by_cases hx : x = k'
        · subst hx
          refine ⟨some (i, e.val), by simp [Instr.findNow, Instr.sameNow, hk', ba_beq], by omega, e, by simp, rfl, hk', fun l hl => by omega⟩
        · obtain ⟨r, h1, h2⟩ := ih (i + 1) fun e he => hk e (by simp [he])
          have hb : (x == k') = false := by rw [ba_beq]; simp [hx]
          refine ⟨r, by simp [Instr.findNow, Instr.sameNow, hk', hb, h1], ?_⟩
          have hne : e.key ≠ Value.string x := by rw [hk']; simp; exact fun e => hx e.symm
          cases r with
          | none => intro e' he'; rcases List.mem_cons.1 he' with rfl | he'; exact hne; exact h2 e' he'
          | some jv =>
            obtain ⟨j, v⟩ := jv
            obtain ⟨h3, e1, h4, h5, h6, h7⟩ := h2
            refine ⟨by omega, e1, ?_, h5, h6, fun l hl e' he' => ?_⟩
            · rw [show j - i = (j - (i + 1)) + 1 from by omega]; simpa using h4
            · cases l with
              | zero => simp at he'; subst he'; exact hne
              | succ l => exact h7 l (by omega) e' (by simpa using he')
    obtain ⟨r, h1, h2⟩ := key es 0 hk
    refine ⟨r, by simp [Instr.findKey, hu, h1], ?_⟩
    cases r with
    | none => exact h2
    | some jv => exact h2.2
  stays x w := by simp [Instr.keyThatStays, Instr.sameBits, ba_beq]
  cchk x em := calm_checkStr h.und x em
  cfind x es := calm_findStr h.und x es
  inj a b e := by simpa using e
section
variable {κ ν : Type} [DecidableEq κ] {P : Program} {n : NF} {W0 : GW} {F : Slots} {H H0 : Heap} {L : List HProp} {K : Value → Heap → List HProp → Prop} {dst : Option Tmp} {ty : TypeId} {pos : String} {aft : Array Edge} {g : Option (Nat × Bool)}
variable {ek : κ → Value} {R : Rd ν} {ag : Bool} {t kt et : TypeId} {m : List (κ × ν)} {b : Nat} {k : κ}
theorem St.mapGet {W1 w : World} {Rest : List HProp} (h : St W1 H w (mapO ek R ag H0 b m :: Rest)) : ∃ es clock, MapOk ek R ag H0 es clock m ∧ w.heap[b]? = some (.map es clock) ∧ St W1 H w (pt b (.map es clock) :: Rest) := by
  obtain ⟨hA, hR, ⟨es, c, a, e⟩, r, d, dA, dR, lA, lR⟩ := h.parts
  exact ⟨es, c, a, hp_some (lA _ _ e), St.of_parts h.env h.ro e r d dA dR lA lR⟩
theorem St.mapMk {W1 w : World} {Rest : List HProp} {es : Array MapEntry} {clock : Nat} (h : St W1 H w (pt b (.map es clock) :: Rest)) (a : MapOk ek R ag H0 es clock m) : St W1 H w (mapO ek R ag H0 b m :: Rest) :=
  h.sub fun _ ⟨h1, h2, e, r⟩ => ⟨h1, h2, ⟨es, clock, a, e⟩, r⟩
theorem rgm {w : World} {r : Nat} {es : Array MapEntry} {clock : Nat} (hb : w.heap[r]? = some (.map es clock)) : (getObj r).run P w = .ok (.map es clock) w := by simp [getObj, Sem.run, hb]
theorem rsm {w : World} {r : Nat} {es : Array MapEntry} {clock : Nat} (o : Obj) (hb : w.heap[r]? = some (.map es clock)) : (setObj r o).run P w = .ok () { w with heap := w.heap.setIfInBounds r o } := by simp [setObj, Sem.run, hb]
theorem run_lookup {w : World} {es : Array MapEntry} {clock : Nat} {z : Value} {ok : Bool} [hT : TMap P t kt et] [hK : TKey P kt ek] [hZ : TZ P et z] (hb : w.heap[b]? = some (.map es clock)) (hm : MapOk ek R ag H0 es clock m) :
    ∃ v, (Instr.lookup t (.map (some b)) (ek k) ok).run P w = .ok (if ok then .tuple #[v, .bool (mget k m).isSome] else v) w ∧ (match mget k m with | some y => ∃ cs, v = ofC ag cs ∧ R H0 cs y | none => v = z) := by
  have hu := run_underlying hT.und (w := w)
  obtain ⟨r, h1, h2⟩ := hK.eq k es.toList w (hm.el.all (P := P) (t := t))
  cases r with
  | none =>
    have hg := hm.el.get_none h2
    refine ⟨z, ?_, by rw [hg]⟩
    simp [Instr.lookup, hu, rgm hb, hK.chk, h1, hZ.run, hg]
  | some iv =>
    obtain ⟨i, v⟩ := iv
    obtain ⟨e, h3, h4, h5, h6⟩ := h2
    obtain ⟨y, cs, h7, h8, h9⟩ := hm.el.get_some hK.inj h3 h5 h6
    refine ⟨v, ?_, by rw [h7]; exact ⟨cs, by rw [h4, h8], h9⟩⟩
    simp [Instr.lookup, hu, rgm hb, hK.chk, h1, h7]
theorem op_makeMap (hk : ∀ b, H b = none → K (.map (some b)) H (mapO ek R ag H b ([] : List (κ × ν)) :: L)) : OpW P n W0 ⟨dst, .makeMap t none, ty, pos, aft, g⟩ F H L K :=
  .of_run fun a w hF hS => by
    have hs : St _ H (w.alloc (.map #[] 0)) (pt w.heap.size (.map #[] 0) :: L) := hS.alloc (hS.env.of rfl rfl rfl) rfl
    exact ⟨_, H, _, _, by simp [execOp, Instr.makeMap, newObj, Sem.run, Result.andThen], .refl _, hk _ hs.ptRead.2, hs.mapMk ⟨trivial, by simp, by simp, by simp⟩⟩
theorem calm_lk {ρ : Operand → Value} {x y : Operand} {ok : Bool} {mb : Option Nat} [hT : TMap P t kt et] [hK : TKey P kt ek] (hx : ρ x = .map mb) (hy : ρ y = ek k) : (execOp ρ ⟨dst, .lookup t x y ok, ty, pos, aft, g⟩).Calm P := by
  simp only [execOp, hx, hy]
  refine calm_bind ?_ fun _ => calm_pure _
  have h1 := fun t => calm_zeroValue (P := P) t; have h2 := fun em => hK.cchk k em; have h3 := fun es => hK.cfind k es
  unfold Instr.lookup
  refine calm_und hT.und ?_
  cases mb <;> (repeat' (first | exact calm_pure _ | exact calm_halt _ | exact calm_load _ _ | exact calm_store _ _ _ | exact calm_newObj _ | exact calm_getObj _ | exact calm_setObj _ _ | exact calm_choose _ | exact calm_program | exact calm_stuck _ | exact calm_unsupported _ | exact calm_goPanic _ | exact calm_askRoom _ | assumption | (apply_assumption; done) | refine calm_bind ?_ fun _ => ?_ | refine calm_map ?_ | refine calm_ite ?_ ?_ | split | dsimp only))
theorem calm_up {ρ : Operand → Value} {x y z : Operand} {mb : Option Nat} [hT : TMap P t kt et] [hK : TKey P kt ek] (hx : ρ x = .map mb) (hy : ρ y = ek k) : (execOp ρ ⟨dst, .mapUpdate t x y z, ty, pos, aft, g⟩).Calm P := by
  simp only [execOp, hx, hy]
  refine calm_bind ?_ fun _ => calm_pure _
  have h1 := fun (e : RuntimeError) => calm_runtimePanic (P := P) (α := Unit) e; have h2 := fun em => hK.cchk k em; have h3 := fun es => hK.cfind k es
  have h4 : ∀ o u, (Instr.keyThatStays o u).Calm P := fun o u => by unfold Instr.keyThatStays; (repeat' (first | exact calm_pure _ | exact calm_halt _ | exact calm_load _ _ | exact calm_store _ _ _ | exact calm_newObj _ | exact calm_getObj _ | exact calm_setObj _ _ | exact calm_choose _ | exact calm_program | exact calm_stuck _ | exact calm_unsupported _ | exact calm_goPanic _ | exact calm_askRoom _ | assumption | (apply_assumption; done) | refine calm_bind ?_ fun _ => ?_ | refine calm_map ?_ | refine calm_ite ?_ ?_ | split | dsimp only))
  unfold Instr.mapUpdate
  refine calm_und hT.und ?_
  cases mb <;> (repeat' (first | exact calm_pure _ | exact calm_halt _ | exact calm_load _ _ | exact calm_store _ _ _ | exact calm_newObj _ | exact calm_getObj _ | exact calm_setObj _ _ | exact calm_choose _ | exact calm_program | exact calm_stuck _ | exact calm_unsupported _ | exact calm_goPanic _ | exact calm_askRoom _ | assumption | (apply_assumption; done) | refine calm_bind ?_ fun _ => ?_ | refine calm_map ?_ | refine calm_ite ?_ ?_ | split | dsimp only))
theorem op_lkH {x y : Operand} {val : ν → Value} {okp : ν → Prop} {d : ν} [h1 : R1 R val okp] [hT : TMap P t kt et] [hK : TKey P kt ek] [hZ : TZ P et (val d)] (hx : opv F x = some (.map (some b))) (hy : opv F y = some (ek k)) (hh : mapH ek R false H b m) :
    OpP P n ⟨dst, .lookup t x y false, ty, pos, aft, g⟩ F H L (val ((mget k m).getD d)) := .mk (calm := fun a hF => calm_lk (hF.opv hx) (hF.opv hy)) fun a w hF hS => by
  obtain ⟨es, c, a', hb0⟩ := hh
  have hb : w.heap[b]? = some (.map es c) := hp_some (hS.ro _ _ hb0)
  obtain ⟨v, hr, hv⟩ := run_lookup (P := P) (t := t) (kt := kt) (et := et) (k := k) (ok := false) (z := val d) hb a'
  have : v = val ((mget k m).getD d) := by
    cases hg : mget k m with
    | none => rw [hg] at hv; exact hv
    | some y => rw [hg] at hv; obtain ⟨cs, e, hr⟩ := hv; rw [(h1.h hr).1] at e; exact e
  subst this
  simp [execOp, hF.opv hx, hF.opv hy, hr]
theorem St.mapPut {W1 w : World} {Rest : List HProp} {es es' : Array MapEntry} {c c' : Nat} (h : St W1 H w (pt b (.map es c) :: Rest)) (a : MapOk ek R ag H0 es' c' m) : St W1 H { w with heap := w.heap.setIfInBounds b (.map es' c') } (mapO ek R ag H0 b m :: Rest) := by
  refine St.mapMk (h.ptWrite (h.env.of rfl rfl rfl) ?_ fun x hx => ?_) a
  · have := (Array.getElem?_eq_some_iff.1 h.ptRead.1).1
    simp [this]
  · simp only [Array.getElem?_setIfInBounds]; rw [if_neg (fun e => hx e.symm)]
theorem MapOk.put_new {es : Array MapEntry} {c : Nat} (a : MapOk ek R ag H0 es c m) {y : ν} {cs : List Value} (hg : mget k m = none) (hy : R H0 cs y) : MapOk ek R ag H0 (es.push { key := ek k, val := ofC ag cs, born := c }) (c + 1) (mset k y m) where
  el := by rw [Array.toList_push]; exact EL.set_none (ek := ek) (k := k) (e := { key := ek k, val := ofC ag cs, born := c }) hy rfl rfl a.el hg
  nodup := mset_nodup a.nodup
  rise := by
    rw [Array.toList_push, List.map_append, List.pairwise_append]
    refine ⟨a.rise, by simp, fun x hx y hy => ?_⟩
    obtain ⟨e, he, rfl⟩ := List.mem_map.1 hx
    simp at hy; subst hy; exact a.lt e he
  lt e he := by
    rw [Array.toList_push, List.mem_append] at he
    rcases he with he | he
    · have := a.lt e he; omega
    · simp at he; subst he; show c < c + 1; omega
theorem map_born_modify (f : MapEntry → MapEntry) (hf : ∀ e, (f e).born = e.born) : ∀ (l : List MapEntry) (i : Nat), (l.modify i f).map (·.born) = l.map (·.born)
  | [], i => by simp
  | e :: l, 0 => by simp [hf]
  | e :: l, i + 1 => by simp [map_born_modify f hf l i]
theorem MapOk.put_old (hinj : ∀ k k', ek k = ek k' → k = k') {es : Array MapEntry} {c i : Nat} {e : MapEntry} (a : MapOk ek R ag H0 es c m) {y : ν} {cs : List Value} (hy : R H0 cs y) (h3 : es.toList[i]? = some e) (h5 : e.key = ek k) (h6 : ∀ j, j < i → ∀ e', es.toList[j]? = some e' → e'.key ≠ ek k)
    (f : MapEntry → MapEntry) (hf : ∀ e, e.key = ek k → (f e).key = ek k ∧ (f e).val = ofC ag cs) (hb : ∀ e, (f e).born = e.born) : MapOk ek R ag H0 (es.modify i f) c (mset k y m) where
  el := by rw [Array.toList_modify]; exact a.el.set_some hinj hy f h3 h5 h6 hf
  nodup := mset_nodup a.nodup
  rise := by rw [Array.toList_modify, map_born_modify f hb]; exact a.rise
  lt e he := by
    rw [Array.toList_modify] at he
    have : e.born ∈ (es.toList.modify i f).map (·.born) := List.mem_map.2 ⟨e, he, rfl⟩
    rw [map_born_modify f hb] at this
    obtain ⟨e', he', e2⟩ := List.mem_map.1 this
    rw [← e2]; exact a.lt e' he'
theorem run_update {W1 w : World} {es : Array MapEntry} {c : Nat} {v : Value} {y : ν} {cs : List Value} {Rest : List HProp} [hT : TMap P t kt et] [hK : TKey P kt ek] (hS : St W1 H w (pt b (.map es c) :: Rest)) (a : MapOk ek R ag H0 es c m) (hv : v = ofC ag cs) (hy : R H0 cs y) :
    ∃ w', (Instr.mapUpdate t (.map (some b)) (ek k) v).run P w = .ok () w' ∧ St W1 H w' (mapO ek R ag H0 b (mset k y m) :: Rest) := by
  subst hv
  have hb := hS.ptRead.1
  have hlt := (Array.getElem?_eq_some_iff.1 hb).1
  have hu := run_underlying hT.und (w := w)
  obtain ⟨r, h1, h2⟩ := hK.eq k es.toList w (a.el.all (P := P) (t := t))
  cases r with
  | none => exact ⟨_, by simp [Instr.mapUpdate, hu, rgm hb, hK.chk, h1, rsm _ hb], hS.mapPut (a.put_new (a.el.get_none h2) hy)⟩
  | some iv =>
    obtain ⟨i, v⟩ := iv
    obtain ⟨e, h3, h4, h5, h6⟩ := h2
    have h3' : es[i]? = some e := by simpa using h3
    refine ⟨_, by simp [Instr.mapUpdate, hu, rgm hb, hK.chk, h1, h3', h5, hK.stays, rsm _ hb], hS.mapPut (a.put_old hK.inj hy h3 h5 h6 (fun e => { key := ek k, val := ofC ag cs, born := e.born }) (fun e he => ⟨rfl, rfl⟩) (fun e => rfl))⟩
theorem op_update {x y z : Operand} {v : Value} {u : ν} {cs : List Value} {Rest : List HProp} [hT : TMap P t kt et] [hK : TKey P kt ek] (hx : opv F x = some (.map (some b))) (hy : opv F y = some (ek k)) (hz : opv F z = some v) (hv : v = ofC ag cs) (hu : R H0 cs u) (hh : Has L (mapO ek R ag H0 b m) Rest)
    (hk : K undef H (mapO ek R ag H0 b (mset k u m) :: Rest)) : OpW P n W0 ⟨dst, .mapUpdate t x y z, ty, pos, aft, g⟩ F H L K := .of_skip (hc := fun a hF => calm_up (hF.opv hx) (hF.opv hy)) fun a w hF hS => by
  obtain ⟨es, c, a', hb, hS'⟩ := (hS.sub hh.to).mapGet
  obtain ⟨w', hr, hw⟩ := run_update (P := P) (t := t) (k := k) hS' a' hv hu
  exact ⟨H, _, w', by simp [execOp, hF.opv hx, hF.opv hy, hF.opv hz, hr], .refl _, hk, hw⟩
end
end Go.Sx
