/- A look into a map that is lent: keys that are numbers. No program in sight. -/
import Derived.Test.YtafhinjggdknjaaDoorPE41
import Derived.Laws.CopyRow
import Derived.Laws.BytesString
import Derived.Laws.Strings2
set_option linter.unusedVariables false
set_option linter.unusedSimpArgs false
namespace Go.Sx
open Go Go.X
section
variable {P : Program} {n : NF} {W0 : GW} {Q : Exit → Act → GW → Prop} {F : Slots} {H : Heap} {L : List HProp} {k : List Fr} {ty : TypeId} {pos : String} {aft : Array Edge} {d : Tmp} {v : Value} {x : Operand}
end
section
variable {P : Program} {n : NF} {W0 : GW} {Q : Exit → Act → GW → Prop} {F : Slots} {H H0 : Heap} {L L0 : List HProp} {m fuel : Nat} {ops : Array Oper} {listed : Array Bool} {k : List Fr} {ty : TypeId} {pos : String} {aft : Array Edge} {d : Tmp} {v : Value} {g : Option (Nat × Bool)} {gv : Option (Value × Bool)}
theorem gny_ixB (i : Nat) {t T : TypeId} {x y : Operand} {b len cap sz j : Nat} {kd : IntKind} {ii : Int} [TSl P t T] [TSz P T sz] (hi : ops[i]? = some ⟨some d, .indexAddr t x y, ty, pos, aft, g⟩) (hg : gval ops F g = some gv) [hb : GOk gv true] (hv : opvs F [x, y] = some [.slice (some ⟨b, 0, none⟩) len cap, .int kd ii]) [hin : NatOf ii j] (hj : j < len)
    (h : AnyO P n W0 Q ((d, .pointer (some ⟨b, 0 + (j : Int).toNat * sz, none⟩)) :: F) H H0 L L0 m ops fuel (listed.setIfInBounds i true) k) (hok : takeOk ops m listed i = true := by decide +kernel)
    (hl : H0.le H := by first | exact Go.Sx.Heap.le.refl _ | assumption | ((try simp only [Go.Sx.le_self] at *); (repeat (first | exact Go.Sx.Heap.le.refl _ | assumption | refine Go.Sx.Heap.le.trans ?_ ‹Go.Sx.Heap.le _ _›)))) (hsub : Sub L L0 := by (repeat (first | exact Go.Sx.Sub.refl _ | exact Go.Sx.Sub.nil _ | (apply Go.Sx.sub_pick; (repeat (first | exact Go.Sx.Has.here | apply Go.Sx.Has.there)); skip) | apply Go.Sx.Sub.drop))) (hd : Nat.blt d n = true := by rfl) : AnyO P n W0 Q F H H0 L L0 m ops (fuel + 1) listed k := by
  obtain ⟨rfl⟩ := hin
  exact gny_pure i hi hg (op_indexAddr (i := (j : Int)) (opvs2 hv).1 (opvs2 hv).2 (by omega) (by omega)) h hok hl hsub hd
end
section
variable {P : Program} {n : NF} {W0 : GW} {Q : Exit → Act → GW → Prop} {F : Slots} {H H0 : Heap} {L L0 : List HProp} {m fuel : Nat} {ops : Array Oper} {listed : Array Bool} {k : List Fr} {ty : TypeId} {pos : String} {aft : Array Edge} {d : Tmp} {v : Value} {vs us : List Value}
end
end Go.Sx
namespace Go.Sx
open Go Go.X
section
variable {P : Program} {n : NF} {W0 : GW} {Q : Exit → Act → GW → Prop} {F : Slots} {H H0 : Heap} {L L0 : List HProp} {m fuel : Nat} {ops : Array Oper} {listed : Array Bool} {k : List Fr} {op : Op} {ty : TypeId} {pos : String} {aft : Array Edge} {d : Tmp} {v : Value}
end
end Go.Sx
namespace Go.Sx
open Go Go.X
section
variable {P : Program} {n : NF} {W0 : GW} {Q : Exit → Act → GW → Prop} {F : Slots} {H H0 : Heap} {L L0 : List HProp} {m fuel : Nat} {ops : Array Oper} {listed : Array Bool} {k : List Fr} {d : Tmp} {ty : TypeId} {pos : String} {aft : Array Edge} {op : Op}
end
end Go.Sx
namespace Go.Sx
open Go Go.X
section
variable {P : Program} {n : NF} {W0 : GW} {F : Slots} {H : Heap} {L : List HProp} {ty : TypeId} {pos : String} {aft : Array Edge} {g : Option (Nat × Bool)} {dst : Option Tmp} {K : Value → Heap → List HProp → Prop}
theorem op_copyAt {x y : Operand} {dT sT e : TypeId} {b o m cap m' cap' T : Nat} {a : Addr} {cs us : List Value} {R : List HProp} [hT : TSl P dT e] [hz : TSz P e 1] (hx : opv F x = some (.slice (some ⟨b, o, none⟩) m cap)) (hy : opv F y = some (.slice (some a) m' cap'))
    (hu : Has L (row b T cs) R) (hsrc : ∀ {W1 : World} w, St W1 H w L → ∀ j v, us[j]? = some v → w.cell? (a.add j) = some v) (hn : us.length = Nat.min m' m) (hle : o + us.length ≤ cs.length) (h1 : us.all (·.oneCell') = true)
    (hk : K (.int .i64 us.length) H (row b T (cs.take o ++ us ++ cs.drop (o + us.length)) :: R)) : OpW P n W0 ⟨dst, .call ⟨.builtin .copy, #[x, y], #[dT, sT]⟩, ty, pos, aft, g⟩ F H L K :=
  .of_run fun {W1} w0 w hF hS => by
    have h0 := hS.sub hu.to
    have hsz : (P.info? e).map (·.size) = some 1 := by
      have := hz.run (w := w)
      cases hq : P.info? e with
      | none => simp [sizeOf, typeInfo, hq] at this
      | some i => simp [sizeOf, typeInfo, hq] at this; simp [this]
    have hc := run_copy_row (P := P) w dT sT ty e b o m cap a m' cap' cs.toArray T us hT.und hsz h0.ptRead.1 hn (hsrc w hS) (by simpa using hle) (by simpa using h1)
    simp only [List.toList_toArray] at hc
    refine ⟨_, H, _, _, ?_, .refl _, hk, h0.rowPut (cs' := cs.take o ++ us ++ cs.drop (o + us.length))⟩
    simp only [execOp]
    simp [resolve, invoke, builtin, hF.opv hx, hF.opv hy, hc, goInt]
end
end Go.Sx
namespace Go.Sx
open Go Go.X
instance : NatOf (0 : Int) 0 := ⟨rfl⟩
abbrev sb (l : List UInt8) : ByteArray := ByteArray.mk l.toArray
theorem sb_append (a b : List UInt8) : sb a ++ sb b = sb (a ++ b) := ByteArray.ext (by simp [sb])
theorem sb_size (l : List UInt8) : (sb l).size = l.length := by simp [sb, ByteArray.size]
class LenLe (l : List UInt8) (n : outParam Nat) : Prop where
  h : l.length ≤ n
instance : LenLe [] 0 := ⟨Nat.le_refl _⟩
instance {x : UInt8} {r : List UInt8} {n : Nat} [h : LenLe r n] : LenLe (x :: r) (n + 1) := ⟨by have := h.h; simp; omega⟩
instance (priority := high) {a b : List UInt8} {n m : Nat} [h : LenLe a n] [h' : LenLe b m] : LenLe (a ++ b) (n + m) := ⟨by have := h.h; have := h'.h; simp; omega⟩
instance (priority := high) {P : Program} {x y : Operand} {T T' : TypeId} {a b : List UInt8} {n m : Nat} [h : LenLe a n] [h' : LenLe b m] : POp P (.binOp .add T x y T') [.string (ByteArray.mk a.toArray), .string (ByteArray.mk b.toArray)] (n + m ≤ 9223372036854775807) (.string (ByteArray.mk (a ++ b).toArray)) := ⟨fun hs hv => by
  have h1 := h.h
  have h2 := h'.h
  exact OpP.mk (calm := fun a hF => calm_str (hF.opv (opvs2 hv).1) (hF.opv (opvs2 hv).2)) fun A w hF _ => by
    simp only [execOp, hF.opv (opvs2 hv).1, hF.opv (opvs2 hv).2]
    have e1 : (sb a).size = a.length := sb_size a
    have e2 : (sb b).size = b.length := sb_size b
    have h3 : ¬ ((9223372036854775807 : Int) < ((sb a).size : Int) + ((sb b).size : Int)) := by omega
    have hm : IntKind.i64.max = 9223372036854775807 := by decide
    have h6 : ¬ (((sb a).size + (sb b).size : Nat) : Int) > IntKind.i64.max := by rw [hm]; omega
    have h4 : (Op.stringOp .add (sb a) (sb b)).run P w = .ok (.string (sb (a ++ b))) w := by
      rw [← sb_append]; simp only [Op.stringOp]; rw [if_neg h6]; rfl
    have h5 : (Op.stringOp .add (ByteArray.mk a.toArray) (ByteArray.mk b.toArray)).run P w = .ok (.string (ByteArray.mk (a ++ b).toArray)) w := h4
    simp [go_sem, h5]⟩
theorem foldl_push (ns : List Int) (r : ByteArray) : ns.foldl (fun r n => r.push (UInt8.ofNat n.toNat)) r = r ++ sb (ns.map fun n => UInt8.ofNat n.toNat) := by
  induction ns generalizing r with
  | nil => exact ByteArray.ext (by simp [sb])
  | cons n ns ih => rw [List.foldl_cons, ih]; cases r; exact ByteArray.ext (by simp [sb, ByteArray.push])
end Go.Sx
namespace Go.Sx
open Go Go.X
class TAr (P : Program) (t : TypeId) (n e : outParam Nat) : Prop where
  und : P.underlying t = some (.array n e)
instance {P : Program} {x y : Operand} {T e N : Nat} {k : IntKind} {b off sz j : Nat} {i : Int} [hT : TAr P T N e] [hS : TSz P e sz] [hi : NatOf i j] : POp P (.indexAddr T x y) [.pointer (some ⟨b, off, none⟩), .int k i] (j < N) (.pointer (some ⟨b, off + j * sz, none⟩)) := ⟨fun hs h => .mk fun a w hF _ => by
  obtain ⟨rfl⟩ := hi
  have hu := run_underlying hT.und (w := w)
  have h1 : (0 : Int) ≤ (j : Int) ∧ ((j : Nat) : Int) < (N : Int) := by omega
  simp only [execOp]
  simp [Instr.indexAt, hF.opv (opvs2 h).1, hF.opv (opvs2 h).2, asIntOf, hu, Instr.sureAddr, hS.run, hs, Addr.add_lit]⟩
section
variable {q : Bool} {P : Program} {n : NF} {W0 : GW} {Q : Exit → Act → GW → Prop} {F : Slots} {H : Heap} {L R : List HProp} {ops : Array Oper} {rest : List Oper} {k : List Fr} {ty : TypeId} {pos : String} {aft : Array Edge} {d : Tmp} {g : Option (Nat × Bool)} {gv : Option (Value × Bool)} {v : Value}
end
end Go.Sx
namespace Go.Sx
open Go Go.X
theorem calm_forIn {P : Program} {σ : Type} (f : Value → σ → Sem (ForInStep σ)) (hf : ∀ v s, (f v s).Calm P) : ∀ (l : List Value) (s : σ), (forIn l s f).Calm P := by
  intro l
  induction l with
  | nil => intro s; rw [List.forIn_nil]; exact calm_pure _
  | cons v l ih =>
    intro s
    rw [List.forIn_cons]
    refine calm_bind (hf v s) fun r => ?_
    cases r with
    | done s => exact calm_pure _
    | yield s => exact ih s
theorem calm_forInA {P : Program} {σ : Type} (f : Value → σ → Sem (ForInStep σ)) (hf : ∀ v s, (f v s).Calm P) (l : Array Value) (s : σ) : (forIn l s f).Calm P := by
  have : l = l.toList.toArray := by simp
  rw [this, List.forIn_toArray]
  exact calm_forIn f hf _ _
theorem calm_b2s {P : Program} (a : Option Addr) (l c : Nat) : (Conv.bytesToString (.slice a l c)).Calm P := by
  cases a with
  | none => exact calm_pure _
  | some a =>
    unfold Conv.bytesToString
    refine calm_bind (calm_loadCells _ _) fun cs => ?_
    refine calm_bind (calm_forInA _ (fun v s => ?_) _ _) fun s => calm_pure _
    split
    · exact calm_pure _
    · exact calm_stuck _
section
variable {P : Program} {n : NF} {W0 : GW} {Q : Exit → Act → GW → Prop} {F : Slots} {H : Heap} {L R : List HProp} {ops : Array Oper} {rest : List Oper} {k : List Fr} {ty : TypeId} {pos : String} {aft : Array Edge} {d : Tmp} {g : Option (Nat × Bool)} {gv : Option (Value × Bool)} {dst : Option Tmp}
theorem op_b2s {src dt e : TypeId} {x : Operand} {b off m c T : Nat} {cs : List Value} {ns : List Int} [hT : TSl P src e] [hE : TIt P e .u8] [hD : TSt P dt] (hx : opv F x = some (.slice (some ⟨b, off, none⟩) m c)) (hh : Has L (row b T cs) R) (hat : At cs off (ns.map fun n => Value.int .u8 n)) (hl : ns.length = m) :
    OpP P n ⟨dst, .convert src dt x, ty, pos, aft, g⟩ F H L (.string (sb (ns.map fun n => UInt8.ofNat n.toNat))) := .mk (fun a w hF hS => by
  have h1 : ∀ j v, (ns.map fun n => Value.int .u8 n)[j]? = some v → w.cell? ((⟨b, off, none⟩ : Addr).add j) = some v := fun j v hj => by
    rw [Addr.add_lit, (hS.sub hh.to).rowCell]; exact hat j v hj
  have h2 := run_loadCells_list (P := P) w ⟨b, off, none⟩ _ h1
  subst hl
  simp only [List.length_map] at h2
  have h3 := run_bytesToString (P := P) w ⟨b, off, none⟩ ns.length c ns h2
  rw [foldl_push] at h3
  have h4 : (ByteArray.empty ++ sb (ns.map fun n => UInt8.ofNat n.toNat)) = sb (ns.map fun n => UInt8.ofNat n.toNat) := by simp
  rw [h4] at h3
  simp only [execOp, hF.opv hx]
  simp [run_convert_bytes_string w src dt e _ _ _ hT.und hE.und hD.und, h3]) fun a hF => by
  simp only [execOp, hF.opv hx]
  refine calm_bind ?_ fun _ => calm_pure _
  unfold convert
  refine calm_und hT.und (calm_und hD.und ?_)
  refine calm_und hE.und ?_
  exact calm_b2s _ _ _
theorem op_slSS {T : TypeId} {x y z : Operand} {s : ByteArray} {i j : Nat} {kd kd' : IntKind} [hT : TSt P T] (hx : opv F x = some (.string s)) (hy : opv F y = some (.int kd i)) (hz : opv F z = some (.int kd' j)) (h1 : i ≤ j) (h2 : j ≤ s.size) :
    OpP P n ⟨dst, .slice T x (some y) (some z) none, ty, pos, aft, g⟩ F H L (.string (s.extract i j)) := .mk fun a w hF _ => by
  have hr := run_slice_string (P := P) (w := w) T s kd kd' (i : Int) (j : Int) hT.und (by omega) (by omega) (by omega)
  simp only [Int.toNat_natCast] at hr
  simp [execOp, hF.opv hx, hF.opv hy, hF.opv hz, Instr.sliceAt, run_underlying hT.und, hr]
end
end Go.Sx
namespace Go.Sx
open Go Go.X Go.Conc
theorem findNow_int {k : IntKind} {x : Int} : ∀ (es : List MapEntry) (i : Nat), (∀ e ∈ es, ∃ k', e.key = Value.int k k') → ∃ r, Instr.findNow (.int k) (.int k x) es i = some r := by
  intro es
  induction es with
  | nil => intro i _; exact ⟨none, rfl⟩
  | cons e es ih =>
    intro i hk
    obtain ⟨k', hk'⟩ := hk e (by simp)
    obtain ⟨r, hr⟩ := ih (i + 1) fun e he => hk e (by simp [he])
    by_cases hx : x = k'
    · subst hx; exact ⟨some (i, e.val), by simp [Instr.findNow, Instr.sameNow, hk']⟩
    · have hb : (x == k') = false := by simp [hx]
      exact ⟨r, by simp [Instr.findNow, Instr.sameNow, hk', hb, hr]⟩
section
variable {P : Program} {t : TypeId} {k : IntKind}
theorem calm_eqInt (hu : P.underlying t = some (.int k)) (x : Int) (u : Value) : (Op.equal t (.int k x) u).Calm P := by
  unfold Op.equal Op.maxDepth Op.equalIn
  refine calm_und hu ?_
  cases u
  case int k' y => exact calm_ite (calm_pure _) (calm_stuck _)
  case pointer a =>
    cases a with
    | none =>
      split
      all_goals first | exact calm_stuck _ | exact calm_unsupported _ | (exfalso; simp_all; done)
    | some a =>
      by_cases h0 : x = 0
      · subst h0; exact calm_pure (P := P) false
      · split
        all_goals first | exact calm_stuck _ | exact calm_unsupported _ | (exfalso; simp_all; done)
  all_goals first | exact calm_stuck _ | exact calm_pure (P := P) false | exact calm_unsupported _
instance [h : TIt P t k] : TKey P t (fun x : Int => Value.int k x) where
  chk e x w := by
    rw [show (10000 : Nat) = 9999 + 1 from rfl, Instr.checkKey]; simp [run_underlying h.und]
  eq x es w hk := by
    have hu := run_underlying h.und (w := w)
    have key : ∀ (es : List MapEntry) (i : Nat), (∀ e ∈ es, ∃ k', e.key = Value.int k k') → ∃ r, Instr.findNow (.int k) (.int k x) es i = some r ∧ (match r with
        | none => ∀ e ∈ es, e.key ≠ Value.int k x
        | some (j, v) => i ≤ j ∧ ∃ e, es[j - i]? = some e ∧ v = e.val ∧ e.key = Value.int k x ∧ ∀ l, l < j - i → ∀ e', es[l]? = some e' → e'.key ≠ Value.int k x) := by
      intro es
      induction es with
      | nil => intro i _; exact ⟨none, rfl, by simp⟩
      | cons e es ih =>
        intro i hk
        obtain ⟨k', hk'⟩ := hk e (by simp)
        by_cases hx : x = k'
        · subst hx
          refine ⟨some (i, e.val), by simp [Instr.findNow, Instr.sameNow, hk'], by omega, e, by simp, rfl, hk', fun l hl => by omega⟩
        · obtain ⟨r, h1, h2⟩ := ih (i + 1) fun e he => hk e (by simp [he])
          have hb : (x == k') = false := by rw [beq_eq_false_iff_ne]; exact hx
          refine ⟨r, by simp [Instr.findNow, Instr.sameNow, hk', hb, h1], ?_⟩
          have hne : e.key ≠ Value.int k x := by rw [hk']; simp; exact fun e => hx e.symm
          cases r with
          | none => intro e' he'; rcases List.mem_cons.1 he' with rfl | he'; exact hne; exact h2 e' he'
          | some jv =>
            obtain ⟨j, v⟩ := jv
            obtain ⟨h3, e1, h4, h5, h6, h7⟩ := h2
            refine ⟨by omega, e1, ?_, h5, h6, fun l hl e' he' => ?_⟩
            · rw [show j - i = (j - (i + 1)) + 1 from by omega]; simpa using h4
            · cases l with
              | zero => simp at he'; subst he'; exact hne
              | succ l => exact h7 l (by omega) e' (by simpa using he')
    obtain ⟨r, h1, h2⟩ := key es 0 hk
    refine ⟨r, by simp [Instr.findKey, hu, h1], ?_⟩
    cases r with
    | none => exact h2
    | some jv => exact h2.2
  cchk x em := calm_checkInt h.und x em
  cfind x es := calm_findOf (fun u => calm_eqInt h.und x u) es
  stays x w := by simp [Instr.keyThatStays, Instr.sameBits]
  inj a b e := by simpa using e
end
section
variable {P : Program} {t kt et : TypeId} {k : IntKind} {x : Int} {w : World} {b c : Nat} {es : Array MapEntry} {z : Value} {ok : Bool}
theorem events_getMap (hb : w.heap[b]? = some (.map es c)) (l : Array Event) : (getObj b).events P w l = l.push ⟨.obj b, false, false⟩ := by
  simp [getObj, Sem.events, Sem.runT, hb, Obj.isChan, -Sem.runT_eq]
theorem events_chk_int [h : TIt P kt k] (em : Bool) (l : Array Event) : (Instr.checkKey em 10000 kt (.int k x)).events P w l = l := by
  rw [show (10000 : Nat) = 9999 + 1 from rfl, Instr.checkKey]
  simp only [Sem.events_bind, run_underlying h.und, events_underlying, Result.evThen_ok]
  rfl
theorem events_find_int [h : TIt P kt k] (hk : ∀ e ∈ es.toList, ∃ k', e.key = Value.int k k') (l : Array Event) : (Instr.findKey kt (.int k x) es.toList).events P w l = l := by
  obtain ⟨r, hr⟩ := findNow_int (k := k) (x := x) es.toList 0 hk
  simp only [Instr.findKey, Sem.events_bind, run_underlying h.und, events_underlying, Result.evThen_ok, hr]
  rfl
theorem events_lookup_int [hT : TMap P t kt et] [h : TIt P kt k] [hK : TKey P kt (fun x : Int => Value.int k x)] [hZ : TZ P et z] (hb : w.heap[b]? = some (.map es c)) (hk : ∀ e ∈ es.toList, ∃ k', e.key = Value.int k k') :
    (Instr.lookup t (.map (some b)) (.int k x) ok).events P w #[] = #[⟨.obj b, false, false⟩] := by
  have hc := hK.chk es.isEmpty x w
  obtain ⟨r, h1, h2⟩ := hK.eq x es.toList w hk
  simp only [Instr.lookup, Sem.events_bind, run_underlying hT.und, events_underlying, Result.evThen_ok, rgm hb, events_getMap hb, Sem.run_bind, Result.andThen_ok, Sem.run_pure, Sem.events_pure, hc, events_chk_int, h1, events_find_int hk]
  cases r with
  | none => simp only [Sem.events_bind, events_zeroValue, hZ.run, Result.evThen_ok, Sem.events_pure, Sem.run_bind, Result.andThen_ok, Sem.run_pure]; rfl
  | some iv => obtain ⟨i, v⟩ := iv; rfl
end
def mapW {κ ν : Type} (ek : κ → Value) (R : Rd ν) (ag : Bool) (W0 : GW) (H : Heap) (b : Nat) (m : List (κ × ν)) : Prop := ∃ es clock, MapOk ek R ag H es clock m ∧ (H b = some (.map es clock) ∨ pool W0.s b = some (.map es clock))
theorem mapW.mono {κ ν : Type} {ek : κ → Value} {R : Rd ν} {ag : Bool} {sz : Nat} [RdOk R sz] {W0 : GW} {H H' : Heap} {b : Nat} {m : List (κ × ν)} (h : mapW ek R ag W0 H b m) (hl : H.le H') : mapW ek R ag W0 H' b m := by
  obtain ⟨es, c, a, hb⟩ := h
  exact ⟨es, c, a.mono hl, hb.imp (hl _ _) id⟩
theorem mapH.toW {κ ν : Type} {ek : κ → Value} {R : Rd ν} {ag : Bool} {W0 : GW} {H : Heap} {b : Nat} {m : List (κ × ν)} (h : mapH ek R ag H b m) : mapW ek R ag W0 H b m := by
  obtain ⟨es, c, a, hb⟩ := h
  exact ⟨es, c, a, .inl hb⟩
section
variable {q : Bool} {P : Program} {n : NF} {W0 : GW} {Q : Exit → Act → GW → Prop} {F : Slots} {H : Heap} {L : List HProp} {ops : Array Oper} {rest : List Oper} {k : List Fr} {ty : TypeId} {pos : String} {aft : Array Edge} {d : Tmp} {g : Option (Nat × Bool)} {gv : Option (Value × Bool)} {p : Prop}
variable {t kt et : TypeId} {kd : IntKind} {ν : Type} {R : Rd ν} {m : List (Int × ν)} {b : Nat}
theorem pk_lookup {a : Act} {w : GW} {dst : Option Tmp} {x y : Operand} {kk : Int} {val : ν → Value} {okp : ν → Prop} {z : ν} [h1 : R1 R val okp] [hT : TMap P t kt et] [hI : TIt P kt kd] [hK : TKey P kt (fun x : Int => Value.int kd x)] [hZ : TZ P et (val z)] {H1 : Heap} {es : Array MapEntry} {clock : Nat}
    (hF : FrOk n a F) (hS : StG W0 H w L) (hx : opv F x = some (.map (some b))) (hy : opv F y = some (.int kd kk)) (hm : MapOk (fun x : Int => Value.int kd x) R false H1 es clock m) (hb : pool W0.s b = some (.map es clock)) :
    (⟨dst, .lookup t x y false, ty, pos, aft, g⟩ : Oper).pkV P a.eval w (val ((mget kk m).getD z)) := by
  intro Wr hsm w1 he hl hp _
  rw [hS.sh] at hp ⊢
  have hb1 : w1.heap[b]? = some (.map es clock) := hp b _ hb
  obtain ⟨v, hr, hv⟩ := run_lookup (P := P) (t := t) (kt := kt) (et := et) (k := kk) (ok := false) (z := val z) hb1 hm
  have : v = val ((mget kk m).getD z) := by
    cases hg : mget kk m with
    | none => rw [hg] at hv; exact hv
    | some y => rw [hg] at hv; obtain ⟨cs, e, hr⟩ := hv; rw [(h1.h hr).1] at e; exact e
  subst this
  refine ⟨by simp [execOp, hF.opv hx, hF.opv hy, hr], fun e he' => ?_⟩
  have hev : (execOp a.eval ⟨dst, .lookup t x y false, ty, pos, aft, g⟩).events P w1 #[] = #[⟨.obj b, false, false⟩] := by
    have := events_lookup_int (P := P) (t := t) (kt := kt) (et := et) (k := kd) (x := kk) (ok := false) (z := val z) hb1 (hm.el.all (P := P) (t := t))
    simp [execOp, hF.opv hx, hF.opv hy, this]
  rw [hev] at he'
  simp at he'
  subst he'
  exact ⟨by rw [hb]; simp, rfl⟩
theorem wanted_pk {j : Nat} {want : Bool} (hg : gval ops F (some (j, want)) = some gv) [hb : GOk gv true] {a : Act} (hF : FrOk n a F) {dst : Option Tmp} {op : Op} : Region.wanted ⟨dst, op, ty, pos, aft, some (j, want)⟩ (yielded ops a.tmps) = true := by
  obtain ⟨dj, u, hj, hu, hw, _⟩ := gval_spec (b := true) hg
  rw [hw rfl] at hu
  simp [Region.wanted, hF.yielded hj hu, vb]
theorem ops_pkg {op : Op} {v : Value} (hg : gval ops F g = some gv) [hb : GOk gv true] (hd : Nat.blt d n = true) (h : ∀ a w, FrOk n a F → StG W0 H w L → (⟨some d, op, ty, pos, aft, g⟩ : Oper).pkV P a.eval w v) (hk : Ops P n W0 Q ((d, v) :: F) H L q ops rest k) :
    Ops P n W0 Q F H L q ops (⟨some d, op, ty, pos, aft, g⟩ :: rest) k := ⟨by
  have hw : ∀ a, FrOk n a F → Region.wanted ⟨some d, op, ty, pos, aft, g⟩ (yielded ops a.tmps) = true := fun a hF => by
    cases g with
    | none => simp [Region.wanted]
    | some jw => obtain ⟨j, w⟩ := jw; exact wanted_pk hg hF
  cases q with
  | false =>
    intro a w hF hS
    unfold wpListV
    rw [if_pos (hw a hF)]
    exact wpV_of_pk (h a w hF hS) (hk.run _ _ (hF.put hd v) hS)
  | true => exact ⟨d, v, rfl, hd, .inl fun a w hF hS => ⟨hw a hF, .inr (h a w hF hS)⟩, hk.run⟩⟩
theorem ops_glkW {x y : Operand} {mv kw : Value} {kk : Int} {val : ν → Value} {okp : ν → Prop} {z : ν} [h1 : R1 R val okp] [hT : TMap P t kt et] [hI : TIt P kt kd] [hK : TKey P kt (fun x : Int => Value.int kd x)] [hZ : TZ P et (val z)] (hg : gval ops F g = some gv) [hs : GSym gv p] (hv : opvs F [x, y] = some [mv, kw]) [hu : UnG p mv (.map (some b))] [hu' : UnG p kw (.int kd kk)] (hh : mapW (fun x : Int => Value.int kd x) R false W0 H b m)
    (hk : Ops P n W0 Q ((d, gd p (val ((mget kk m).getD z))) :: F) H L q ops rest k) (hd : Nat.blt d n = true := by rfl) : Ops P n W0 Q F H L q ops (⟨some d, .lookup t x y false, ty, pos, aft, g⟩ :: rest) k := by
  obtain ⟨es, clock, hm, hb | hb⟩ := hh
  · exact ops_gsym hg (fun hp => op_lkH (d := z) ((opvs2 hv).1.trans (by rw [hu.h hp])) ((opvs2 hv).2.trans (by rw [hu'.h hp])) ⟨es, clock, hm, hb⟩) hk hd
  · by_cases hp : p
    · haveI := hs.t hp
      rw [gd_T hp] at hk
      exact ops_pkg hg hd (fun a w hF hS => pk_lookup (z := z) hF hS ((opvs2 hv).1.trans (by rw [hu.h hp])) ((opvs2 hv).2.trans (by rw [hu'.h hp])) hm hb) hk
    · haveI := hs.f hp
      rw [gd_F hp] at hk
      exact ops_skip hg hk hd
end
end Go.Sx
