/- The table's parts; works with lists of their own. -/
import Derived.Test.YtkhbfjkioehgfaaGreatDoorLB
import Derived.Test.YtkhbfjkioehgfaaGreatDoorKD
set_option linter.unusedVariables false
set_option linter.unusedSimpArgs false
namespace Go.Proofs.YtkhbfjkioehgfaaGreatDoor
open Go Go.Sx Go.Proofs
/-- a transaction as a key -/
def Txn.k (x : Txn) : K3 := (x.Node, x.Life, x.Count)
theorem toTx_k (x : Txn) : toTx x.k = x := rfl
theorem k_toTx (k : K3) : (toTx k).k = k := rfl
/-- a work with its cells -/
abbrev CW := List Value × Work
def rCW : Rd CW := fun H cs v => cs = v.1 ∧ rWork H cs v.2
instance : RdOk rCW 3 := ⟨fun ⟨e, h⟩ => RdOk.len h, fun ⟨e, h⟩ => RdOk.one h, fun hl ⟨e, h⟩ => ⟨e, RdOk.mono hl h⟩⟩
def zCW : CW := ([.int .i64 0, nilS, nilS], zWork)
instance : RVal rCW true (fun v => .agg v.1.toArray) := ⟨fun ⟨e, _⟩ => by subst e; rfl⟩
instance : RVal rTxn true (fun v => .agg v.cv.toArray) := ⟨fun ⟨e, _⟩ => by subst e; rfl⟩
instance : RVal rInt false (fun v => .int .i64 v) := ⟨fun ⟨e, _⟩ => by subst e; rfl⟩
theorem own_spec {W0 : World} {H : Heap} {c : List Value} {m : Work} (h0 : rWork H c m) :
    Ct Tryz.prog 28 #[.agg c.toArray] W0 H [] (fun r H' B => ∃ cs, r = .agg cs.toArray ∧ rWork H' cs m ∧ B = []) := by
  refine Ct.go fun R => ?_
  obtain ⟨s1, s2, rfl, f1, h1, h2⟩ := h0
  refine walk ?_
  refine ops_box rfl rfl fun p1 _ => ?_
  refine ops_alloc rfl fun p2 _ => ?_
  refine walk ?_
  refine ex_any 7 [row p1 30 (m.cv s1 s2)] ?_
  (first | refine gny_p 0 rfl rfl rfl ?_ | refine gny_ld 0 rfl rfl rfl rfl ?_ | refine gny_ldH 0 rfl rfl rfl ‹HRow _ _ 0 _› rfl ?_ | refine gny_T 0 rfl rfl rfl ?_ | refine gny_F 0 rfl rfl rfl ?_ | refine gny_B 0 rfl rfl rfl ?_ | refine gny_skip 0 rfl rfl ?_ | refine gny_sp 0 rfl rfl rfl ?_ | refine gny_sB 0 rfl rfl rfl ?_ | refine gny_sld 0 rfl rfl rfl rfl ?_ | refine gny_sldH 0 rfl rfl rfl ‹HRow _ _ 0 _› rfl ?_ | refine gny_ldN 0 rfl rfl rfl rfl ?_ | refine gny_bld 0 rfl rfl rfl ?_); (first | refine gny_p 1 rfl rfl rfl ?_ | refine gny_ld 1 rfl rfl rfl rfl ?_ | refine gny_ldH 1 rfl rfl rfl ‹HRow _ _ 0 _› rfl ?_ | refine gny_T 1 rfl rfl rfl ?_ | refine gny_F 1 rfl rfl rfl ?_ | refine gny_B 1 rfl rfl rfl ?_ | refine gny_skip 1 rfl rfl ?_ | refine gny_sp 1 rfl rfl rfl ?_ | refine gny_sB 1 rfl rfl rfl ?_ | refine gny_sld 1 rfl rfl rfl rfl ?_ | refine gny_sldH 1 rfl rfl rfl ‹HRow _ _ 0 _› rfl ?_ | refine gny_ldN 1 rfl rfl rfl rfl ?_ | refine gny_bld 1 rfl rfl rfl ?_)
  (first | refine gny_p 3 rfl rfl rfl ?_ | refine gny_ld 3 rfl rfl rfl rfl ?_ | refine gny_ldH 3 rfl rfl rfl ‹HRow _ _ 0 _› rfl ?_ | refine gny_T 3 rfl rfl rfl ?_ | refine gny_F 3 rfl rfl rfl ?_ | refine gny_B 3 rfl rfl rfl ?_ | refine gny_skip 3 rfl rfl ?_ | refine gny_sp 3 rfl rfl rfl ?_ | refine gny_sB 3 rfl rfl rfl ?_ | refine gny_sld 3 rfl rfl rfl rfl ?_ | refine gny_sldH 3 rfl rfl rfl ‹HRow _ _ 0 _› rfl ?_ | refine gny_ldN 3 rfl rfl rfl rfl ?_ | refine gny_bld 3 rfl rfl rfl ?_); (first | refine gny_p 4 rfl rfl rfl ?_ | refine gny_ld 4 rfl rfl rfl rfl ?_ | refine gny_ldH 4 rfl rfl rfl ‹HRow _ _ 0 _› rfl ?_ | refine gny_T 4 rfl rfl rfl ?_ | refine gny_F 4 rfl rfl rfl ?_ | refine gny_B 4 rfl rfl rfl ?_ | refine gny_skip 4 rfl rfl ?_ | refine gny_sp 4 rfl rfl rfl ?_ | refine gny_sB 4 rfl rfl rfl ?_ | refine gny_sld 4 rfl rfl rfl rfl ?_ | refine gny_sldH 4 rfl rfl rfl ‹HRow _ _ 0 _› rfl ?_ | refine gny_ldN 4 rfl rfl rfl rfl ?_ | refine gny_bld 4 rfl rfl rfl ?_)
  refine any_call 2 rfl rfl (cloneT_spec h1) fun r1 H1 B hl1 ⟨eB, eH⟩ => ?_
  subst eB eH
  refine ⟨(by (repeat (first | exact Sub.refl _ | exact Sub.nil _ | (apply sub_pick; (repeat (first | exact Has.here | apply Has.there)); skip) | apply Sub.drop))), ?_⟩
  (first | refine gny_p 6 rfl rfl rfl ?_ | refine gny_ld 6 rfl rfl rfl rfl ?_ | refine gny_ldH 6 rfl rfl rfl ‹HRow _ _ 0 _› rfl ?_ | refine gny_T 6 rfl rfl rfl ?_ | refine gny_F 6 rfl rfl rfl ?_ | refine gny_B 6 rfl rfl rfl ?_ | refine gny_skip 6 rfl rfl ?_ | refine gny_sp 6 rfl rfl rfl ?_ | refine gny_sB 6 rfl rfl rfl ?_ | refine gny_sld 6 rfl rfl rfl rfl ?_ | refine gny_sldH 6 rfl rfl rfl ‹HRow _ _ 0 _› rfl ?_ | refine gny_ldN 6 rfl rfl rfl rfl ?_ | refine gny_bld 6 rfl rfl rfl ?_)
  refine any_call 5 rfl rfl (cloneT_spec h2) fun r2 H2 B hl2 ⟨eB, eH⟩ => ?_
  subst eB eH
  refine ⟨(by (repeat (first | exact Sub.refl _ | exact Sub.nil _ | (apply sub_pick; (repeat (first | exact Has.here | apply Has.there)); skip) | apply Sub.drop))), ?_⟩
  refine any_rest rfl ?_
  refine ops_shape r1 fun d1 e1 e _ _ _ => ?_
  subst e
  refine ops_shape r2 fun d2 e2 e _ _ _ => ?_
  subst e
  refine walk ?_
  refine out_freeze (.slice d1 m.Take.length e1) fun H3 hl3 k1 => ?_
  refine out_freeze (.slice d2 m.Drop.length e2) fun H4 hl4 k2 => ?_
  refine fin0 ?_
  exact ⟨m.cv (.slice d1 m.Take.length e1) (.slice d2 m.Drop.length e2), rfl, ⟨_, _, rfl, f1, k1.mono hl4, k2⟩, rfl⟩
end Go.Proofs.YtkhbfjkioehgfaaGreatDoor
