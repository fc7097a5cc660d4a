/- The document's world, walked: a delivery; a delivery that fails; no kind. -/
import Derived.Test.YtlflbkpmfhhikaaGreatDoorKE44
import Derived.Test.YtlflbkpmfhhikaaGreatDoorKQN
import Derived.Test.YtlflbkpmfhhikaaGreatDoorKQO
import Derived.Test.YtlflbkpmfhhikaaGreatDoorKTX
import Derived.Test.YtlflbkpmfhhikaaGreatDoorKUH
import Derived.Test.YtlflbkpmfhhikaaGreatDoorKWC
import Derived.Test.YtlflbkpmfhhikaaGreatDoorKXB
set_option maxHeartbeats 16000000
set_option maxRecDepth 100000
set_option linter.unusedVariables false
set_option linter.unusedSimpArgs false
namespace Go.Proofs.YtlflbkpmfhhikaaGreatDoor.Net
open Go Go.Sx Go.Proofs
theorem v38_ {P:Prop} (h:P:=by
 refine Zt_ 5 rfl (Qdq_ rfl hc hcap2 fun d2 e2=>⟨.refl _,subA,?_⟩);refine qb_ rfl ?_;refine Zd_ (.slice d2 (([]++ms).length+1) e2) fun H1 hl1 hf=>?_;refine walk ?_;refine fin0 ?_;exact ⟨_,rfl,hf,rfl⟩):P:=h
theorem refSend_yes {W0:World} {H:Heap} {l:Value} {c:List Value} {ms:List Message} {m:Message} (hs:SlB Qa_ 19 216 H l ms) (h0:Qa_ H c m) (hlt:ms.length<64):
  Ct Tryz.prog 89 #[l,.agg c.toArray] W0 H [] (fun r H' B=>∃v,r= .tuple #[v,I 0]∧SlB Qa_ 19 216 H' v (ms++[m])∧B=[]):=by
 refine Ct.go fun R=>?_;obtain ⟨b0,c0,rfl,hc0,hd0⟩:=hs.1.shape;have hc:=h0;obtain ⟨s1,s2,s3,s4,rfl,f1,f2,f3,f4,f5,f6,f7,h1,h2,f8,f9,f10,f11,h3,f12,f13,f14,h4⟩:=h0;refine walk ?_;refine qc_ rfl rfl fun p1 _=>?_;refine walk ?_;have hcap1:([].length (α:=Message)+ms.length)*216≤zb_:=by simpa using hs.2
 have hcap2:(([]++ms:List Message).length+1)*216≤zb_:=by simp only [List.nil_append,zb_];omega
 refine zc_ 6 [row p1 106 (m.cv s1 s2 s3 s4)] ?_
 (first | refine Qt_ 1 rfl rfl ?_ | refine zm_ 1 rfl rfl rfl ?_ | refine Qh_ 1 rfl rfl rfl ?_);(first | refine Qt_ 3 rfl rfl ?_ | refine zm_ 3 rfl rfl rfl ?_ | refine Qh_ 3 rfl rfl rfl ?_)
 refine Zax_ 0 4 rfl rfl (QG_ (wd:=216) Qa_ fun b1=>⟨.refl _,subA,?_⟩) (Ze_ rfl rfl rfl fun b2=>⟨.refl _,subA,?_⟩)
 ·refine Zax_ 2 4 rfl rfl (Qz_ rfl hs.1 hcap1 fun d1 e1=>⟨.refl _,subA,?_⟩) (Ze_ rfl rfl rfl fun b2=>⟨.refl _,subA,?_⟩)
  ·refine Zt_ 4 rfl (Ze_ rfl rfl rfl fun b2=>⟨.refl _,subA,?_⟩);exact v38_
  ·refine Zt_ 2 rfl (Qz_ rfl hs.1 hcap1 fun d1 e1=>⟨.refl _,subA,?_⟩);exact v38_
 ·refine Zt_ 0 rfl (QG_ (wd:=216) Qa_ fun b1=>⟨.refl _,subA,?_⟩);refine Zt_ 2 rfl (Qz_ rfl hs.1 hcap1 fun d1 e1=>⟨.refl _,subA,?_⟩);exact v38_
theorem refSend_no {W0:World} {H:Heap} {l:Value} {c:List Value} {ms:List Message} {m:Message} (hs:SlB Qa_ 19 216 H l ms) (h0:Qa_ H c m) (hlt:¬ms.length<64):
  Ct Tryz.prog 89 #[l,.agg c.toArray] W0 H [] (fun r H' B=>r= .tuple #[l,I 5]∧B=[]∧H'=H):=by
 refine Ct.go fun R=>?_;obtain ⟨b0,c0,rfl,hc0,hd0⟩:=hs.1.shape;refine walk ?_;refine qc_ rfl rfl fun p1 _=>?_;exact v63_
theorem refDrop_no {W0:World} {H:Heap} {l:Value} {ms:List Message} {i:Int} (hs:SlB Qa_ 19 216 H l ms) (hi:¬inR ms i):
  Ct Tryz.prog 53 #[l,I i] W0 H [] (fun r H' B=>∃c,r= .tuple #[l,.agg c.toArray,I 4]∧Qa_ H c Qk_∧B=[]∧H'=H):=by
 refine Ct.go fun R=>?_;obtain ⟨b0,c0,rfl,hc0,hd0⟩:=hs.1.shape;unfold inR at hi;refine walk ?_;refine Qb_ rfl fun p1 _=>?_;by_cases h0:i<0
 all_goals
  refine walk ?_;refine fin0 ?_;exact ⟨_,rfl,qbe_,rfl,rfl⟩
theorem QdP_ {α:Type} {R:Rd α} {sz w:Nat} [RdOk R sz] {H:Heap} {base:Option Addr} {m cap j:Nat} {xs:List α} (hr:SlR R sz H (.slice base m cap) xs) (hj:j≤xs.length):SlR R sz H (.slice base j cap) (xs.take j):=by
 have:=hr.slc (l:=0) (h:=j) (by omega) hj;rw [QcV_] at this;simpa using this
theorem refDrop_yes {W0:World} {H:Heap} {l:Value} {ms:List Message} {j:Nat} (hs:SlB Qa_ 19 216 H l ms) (hj:j<ms.length):
  Ct Tryz.prog 53 #[l,I j] W0 H [] (fun r H' B=>∃v c,r= .tuple #[v,.agg c.toArray,I 0]∧Qa_ H' c ms[j]∧SlB Qa_ 19 216 H' v (del ms j)∧B=[]):=by
 refine Ct.go fun R=>?_;obtain ⟨b0,c0,rfl,hc0,hd0⟩:=hs.1.shape;have hsm:ms.length*216≤140737488355328:=hs.2;refine walk ?_;refine Qb_ rfl fun p1 _=>?_;refine walk ?_;refine QU_ (w:=216) Qa_ rfl fun b1=>?_;refine walk ?_;refine Qq_ rfl rfl (QdP_ (w:=216) hs.1 (by omega:j≤ms.length)) (by simp only [zb_,List.length_take,List.length_nil];omega) fun d1 e1=>?_;have hlen:([]:List Message).length+(ms.take j).length=j:=by simp;omega
 refine walk ?_;refine zc_ 11 [] ?_
 (first | refine Qt_ 0 rfl rfl ?_ | refine zm_ 0 rfl rfl rfl ?_ | refine Qh_ 0 rfl rfl rfl ?_);(first | refine Qt_ 1 rfl rfl ?_ | refine zm_ 1 rfl rfl rfl ?_ | refine Qh_ 1 rfl rfl rfl ?_);(first | refine Qt_ 2 rfl rfl ?_ | refine zm_ 2 rfl rfl rfl ?_ | refine Qh_ 2 rfl rfl rfl ?_);(first | refine Qt_ 3 rfl rfl ?_ | refine zm_ 3 rfl rfl rfl ?_ | refine Qh_ 3 rfl rfl rfl ?_)
 refine qaa_ 4 rfl (zH_ (l:=(j:Int)+1) (h:=(ms.length:Int)) rfl rfl rfl (by omega) (by omega) (by omega)) ?_ (by decide+kernel) (fun _ _ _ h=>h) (.refl _) subA rfl
 (first | refine Qt_ 6 rfl rfl ?_ | refine zm_ 6 rfl rfl rfl ?_ | refine Qh_ 6 rfl rfl rfl ?_);(first | refine Qt_ 7 rfl rfl ?_ | refine zm_ 7 rfl rfl rfl ?_ | refine Qh_ 7 rfl rfl rfl ?_)
 refine QdG_ 8 rfl rfl hs.1 hj fun b o c hr hc=>?_;refine Zdq_ 9 rfl rfl hr (RdOk.len hc) ?_;have hs2:=hs.1.slc (l:=j+1) (h:=ms.length) (by omega) (by omega);rw [show (ms.drop (j+1)).take (ms.length - (j+1))=ms.drop (j+1) from List.take_of_length_le (by simp)] at hs2;refine Zt_ 5 rfl (Qz_ rfl hs2 (by simp only [zb_,List.length_append,List.length_take,List.length_nil,List.length_drop];omega) fun d2 e2=>⟨.refl _,subA,?_⟩)
 (first | refine Qt_ 10 rfl rfl ?_ | refine zm_ 10 rfl rfl rfl ?_ | refine Qh_ 10 rfl rfl rfl ?_)
 refine qb_ rfl ?_;refine Zd_ (.slice d2 (([]++ms.take j).length+(ms.drop (j+1)).length) e2) fun H1 hl1 hf=>?_;have hcl:=hc;obtain ⟨s1,s2,s3,s4,rfl,_⟩:=hcl;obtain ⟨_,_,_,_,q,k1,k2,k3,k4,k5,k6,k7,h1,h2,k8,k9,k10,k11,h3,k12,k13,k14,h4⟩:=hc
 cases q
 obtain ⟨d1,e1,rfl,_⟩:=h1.1.shape;obtain ⟨d2,e2,rfl,_⟩:=h2.1.shape;obtain ⟨d3,e3,rfl,_⟩:=h3.1.shape;obtain ⟨d4,e4,rfl,_⟩:=h4.1.shape;refine walk ?_;refine fin0 ?_;exact ⟨_,_,rfl,⟨_,_,_,_,rfl,k1,k2,k3,k4,k5,k6,k7,h1.mono hl1,h2.mono hl1,k8,k9,k10,k11,h3.mono hl1,k12,k13,k14,h4.mono hl1⟩,hf,rfl⟩
end Go.Proofs.YtlflbkpmfhhikaaGreatDoor.Net
namespace Go.Proofs.YtlflbkpmfhhikaaGreatDoor
open Go Go.Sx Go.Proofs
abbrev RWc (a b c d:Option Addr×Nat) (x:Convoyref17World):List Value:=[.slice a.1 x.Parts.length a.2,.slice b.1 x.Coords.length b.2,.slice c.1 x.Net.length c.2,I x.Now,.slice d.1 x.Log.length d.2]
abbrev rW17:=zX_
theorem Zo_ {H:Heap} {c:List Value} {x:Convoyref17World} (h:rW17 H c x):∃p q r s,c=RWc p q r s x∧SlB zaz_ 4 80 H (.slice p.1 x.Parts.length p.2) x.Parts∧SlB qu_ 4 48 H (.slice q.1 x.Coords.length q.2) x.Coords∧SlB Qa_ 19 216 H (.slice r.1 x.Net.length r.2) x.Net∧fits x.Now∧SlB qw_ 10 128 H (.slice s.1 x.Log.length s.2) x.Log:=by
 obtain ⟨s1,s2,s3,s4,rfl,h1,h2,h3,h4,h5⟩:=h;obtain ⟨b1,c1,rfl,_,_⟩:=h1.1.shape;obtain ⟨b2,c2,rfl,_,_⟩:=h2.1.shape;obtain ⟨b3,c3,rfl,_,_⟩:=h3.1.shape;obtain ⟨b4,c4,rfl,_,_⟩:=h5.1.shape;exact ⟨(b1,c1),(b2,c2),(b3,c3),(b4,c4),rfl,h1,h2,h3,h4,h5⟩
theorem qcG_ {l ms:List Message} {i:Nat} (hi:i<ms.length):Qv_ l (ms.take (i+1))=Qbv_ (Qv_ l (ms.take i)) ms[i]:=by
 rw [List.take_succ_eq_append_getElem hi];unfold Qv_;rw [List.foldl_append];rfl
theorem ZT_ {W0:World} {H:Heap} {c:List Value} {x:Convoyref17World} {v:Value} {l:List Message} (h0:rW17 H c x) (hs:SlB Qa_ 19 216 H v l):
  Ct Tryz.prog 51 #[.agg c.toArray,v] W0 H [] (fun r H' B=>∃c',r= .agg c'.toArray∧rW17 H' c' {x with Net:=Qv_ x.Net l}∧B=[]):=by
 refine Ct.go (vs:=[.agg c.toArray,v]) fun R=>?_;obtain ⟨⟨b1,c1⟩,⟨b2,c2⟩,⟨b3,c3⟩,⟨b4,c4⟩,rfl,h1,h2,h3,h4,h5⟩:=Zo_ h0;obtain ⟨bv,cv,rfl,_,_⟩:=hs.1.shape;refine walk ?_;refine qc_ rfl rfl fun p2 _=>?_;refine Qb_ rfl fun p4 _=>?_;refine walk ?_
 refine Qc_ (σ:=Nat×(Option Addr×Nat)×Heap) (fun u=>u.1≤l.length∧H.le u.2.2∧SlB Qa_ 19 216 u.2.2 (.slice u.2.1.1 (Qv_ x.Net (l.take u.1)).length u.2.1.2) (Qv_ x.Net (l.take u.1))) (fun u=>[(1,.slice bv l.length cv),(2,.pointer (some ⟨p2,0,none⟩)),(4,.pointer (some ⟨p4,0,none⟩)),(5,I u.1)]) (fun u=>u.2.2)
  (fun u=>row p2 65 [.slice b1 x.Parts.length c1,.slice b2 x.Coords.length c2,.slice u.2.1.1 (Qv_ x.Net (l.take u.1)).length u.2.1.2,I x.Now,.slice b4 x.Log.length c4]::row p4 65 [nilS,nilS,nilS,I 0,nilS]::R) (fun u=>l.length - u.1) (0,(b3,c3),H) ⟨Nat.zero_le _,.refl _,h3⟩ fun ⟨i,⟨bn,cn⟩,HK⟩ ⟨hi0,hlK,hn⟩ K hL=>?_
 simp only at hi0 hlK hn;dsimp only;by_cases hi1:i<l.length
 ·have hi2:(i:Int)<(l.length:Int):=by omega
  have hss:=qcG_ (l:=x.Net) hi1;obtain ⟨g,hg⟩:∃g,l[i]=g:=⟨_,rfl⟩;rw [hg] at hss;generalize hcur:Qv_ x.Net (l.take i)=cur at hn hss⊢;refine walk ?_;refine zc_ 6 [row p2 65 [.slice b1 x.Parts.length c1,.slice b2 x.Coords.length c2,.slice bn cur.length cn,I x.Now,.slice b4 x.Log.length c4]] ?_;refine qa_ 0 ?_;refine qa_ 1 ?_;refine qa_ 2 ?_;refine qa_ 3 ?_;refine Qf_ 4 rfl rfl rfl (hs.1.mono hlK) hi1 fun ba oa ca hra hca=>?_;rw [hg] at hca;have hcc:=hca;obtain ⟨t1,t2,t3,t4,rfl,_⟩:=hca;refine Zl_ 5 rfl rfl rfl hra rfl ?_;refine Zaw_ 12 [] ?_;by_cases h64:cur.length<64
  ·have hs1:Qbv_ cur g=cur++[g]:=if_pos h64;refine ze_ 6 rfl rfl rfl (Net.refSend_yes (W0:=W0) (H:=HK) hn hcc h64) fun r6 H6 B hl6 ⟨v6,er,hv6,eB⟩=>?_;subst er eB;refine ⟨subA,?_⟩;obtain ⟨bm,cm,rfl,_,_⟩:=hv6.1.shape;refine qa_ 7 ?_;refine Qd_ 8 rfl rfl rfl rfl ?_;refine Qd_ 9 rfl rfl rfl rfl ?_;refine qa_ 10 ?_;refine Zi_ 11 rfl rfl rfl rfl (by simp) rfl ⟨subA,?_⟩;refine qb_ rfl ?_;refine walk ?_;refine Zb_ hL (i+1,(bm,cm),H6) ⟨by simp only;omega,hlK.trans hl6,by simp only [hss,hs1];exact hv6⟩ (hs:=?_);simp only [hss,hs1];exact subA
  ·have hs1:Qbv_ cur g=cur:=if_neg h64;refine ze_ 6 rfl rfl rfl (Net.refSend_no (W0:=W0) (H:=HK) hn hcc h64) fun r6 H6 B hl6 ⟨er,eB,eH⟩=>?_;subst er eB eH;refine ⟨subA,?_⟩;refine qa_ 7 ?_;refine Qd_ 8 rfl rfl rfl rfl ?_;refine Qd_ 9 rfl rfl rfl rfl ?_;refine qa_ 10 ?_;refine Zi_ 11 rfl rfl rfl rfl (by simp) rfl ⟨subA,?_⟩;refine qb_ rfl ?_;refine walk ?_;refine Zb_ hL (i+1,(bn,cn),H6) ⟨by simp only;omega,hlK,by simp only [hss,hs1];exact hn⟩ (hs:=?_);simp only [hss,hs1];exact subA
 ·obtain rfl:i=l.length:=by omega
  clear hL;rw [List.take_length] at hn⊢;refine walk ?_;refine fin0 ?_;exact ⟨_,rfl,⟨_,_,_,_,rfl,h1.mono hlK,h2.mono hlK,hn,h4,h5.mono hlK⟩,rfl⟩
theorem qcf_ {W0:World} {H:Heap} {c ce:List Value} {x:Convoyref17World} {e:_} {i:Nat} (h0:rW17 H c x) (he:zaz_ H ce e) (hi:i<x.Parts.length):
  Ct Tryz.prog 91 #[.agg c.toArray,I i,.agg ce.toArray] W0 H [] (fun r H' B=>∃c',r= .agg c'.toArray∧rW17 H' c' {x with Parts:=x.Parts.set i e}∧B=[]):=by
 refine Ct.go (vs:=[.agg c.toArray,I i,.agg ce.toArray]) fun R=>?_;obtain ⟨⟨b1,c1⟩,⟨b2,c2⟩,⟨b3,c3⟩,⟨b4,c4⟩,rfl,h1,h2,h3,h4,h5⟩:=Zo_ h0;have hee:=he;obtain ⟨s1,s2,s3,rfl,_,g1,g2,g3⟩:=he;have hcap:([].length (α:=Part)+x.Parts.length)*80≤zb_:=by simpa using (h1).2
 refine walk ?_;refine qc_ rfl rfl fun p3 _=>?_;refine qc_ rfl rfl fun p5 _=>?_;refine Qb_ rfl fun p6 _=>?_;refine walk ?_;refine QU_ (w:=80) zaz_ rfl fun bn=>?_;refine walk ?_;refine Qq_ rfl rfl (h1).1 hcap fun bm cm=>?_;rw [List.nil_append,List.length_nil,Nat.zero_add];refine walk ?_;refine Qat_ (y':=e) rfl rfl rfl hee hi ?_;refine walk ?_;refine qg_ (.slice bm x.Parts.length cm) fun H1 hl1 hs=>?_;refine fin0 ?_;exact ⟨_,rfl,⟨_,_,_,_,rfl,hs,h2.mono hl1,h3.mono hl1,h4,h5.mono hl1⟩,rfl⟩
theorem Zai_ {W0:World} {H:Heap} {c ce:List Value} {x:Convoyref17World} {e:_} {i:Nat} (h0:rW17 H c x) (he:qu_ H ce e) (hi:i<x.Coords.length):
  Ct Tryz.prog 52 #[.agg c.toArray,I i,.agg ce.toArray] W0 H [] (fun r H' B=>∃c',r= .agg c'.toArray∧rW17 H' c' {x with Coords:=x.Coords.set i e}∧B=[]):=by
 refine Ct.go (vs:=[.agg c.toArray,I i,.agg ce.toArray]) fun R=>?_;obtain ⟨⟨b1,c1⟩,⟨b2,c2⟩,⟨b3,c3⟩,⟨b4,c4⟩,rfl,h1,h2,h3,h4,h5⟩:=Zo_ h0;have hee:=he;obtain ⟨s1,rfl,_,_,_,g1⟩:=he;have hcap:([].length (α:=Coord)+x.Coords.length)*48≤zb_:=by simpa using (h2).2
 refine walk ?_;refine qc_ rfl rfl fun p3 _=>?_;refine qc_ rfl rfl fun p5 _=>?_;refine Qb_ rfl fun p6 _=>?_;refine walk ?_;refine QU_ (w:=48) qu_ rfl fun bn=>?_;refine walk ?_;refine Qq_ rfl rfl (h2).1 hcap fun bm cm=>?_;rw [List.nil_append,List.length_nil,Nat.zero_add];refine walk ?_;refine Qat_ (y':=e) rfl rfl rfl hee hi ?_;refine walk ?_;refine qg_ (.slice bm x.Coords.length cm) fun H1 hl1 hs=>?_;refine fin0 ?_;exact ⟨_,rfl,⟨_,_,_,_,rfl,h1.mono hl1,hs,h3.mono hl1,h4,h5.mono hl1⟩,rfl⟩
def hearX (x:RW) (m:Message) (y:RW) (out:List Message) (rec:List Rec):Prop:=
  (ZR_ m∧∃(i:Nat) (h:i<x.Parts.length) (p':Part),m.To=i∧RHear x.Parts[i] m p' out rec∧y={x with Parts:=x.Parts.set i p'})∨
  (¬ZR_ m∧∃(i:Nat) (h:i<x.Coords.length) (c':Coord) (oc:List ROc),m.To=i∧RCHear x.Coords[i] m c' out rec oc∧y={x with Coords:=x.Coords.set i c'})
theorem hearX.all {x y:RW} {m:Message} {out:List Message} {rec:List Rec} (h:hearX x m y out rec):Zbw_ x m {y with Log:=y.Log++rec.map fun r=>⟨m.To,r⟩} out∧y.Log=x.Log:=by
 rcases h with ⟨k,i,h,p',hm,hr,rfl⟩ | ⟨k,i,h,c',oc,hm,hr,rfl⟩
 ·exact ⟨.inl ⟨k,i,h,p',rec,hm,hr,rfl⟩,rfl⟩
 ·exact ⟨.inr ⟨k,i,h,c',rec,oc,hm,hr,rfl⟩,rfl⟩
theorem hearX.len {x y:RW} {m:Message} {out:List Message} {rec:List Rec} (h:hearX x m y out rec):rec.length≤1:=by
 rcases h with ⟨_,_,_,_,_,hr,_⟩ | ⟨_,_,_,_,_,_,hr,_⟩
 ·cases hr with
  | ack=>split<;>simp
  | _=>simp
 ·cases hr<;>simp
structure ROk (x:RW):Prop where
  p:∀q∈x.Parts,q.T.Held.length≤40*300∧q.T.Prep.length≤300∧(∀r∈q.T.Prep,r.Work.ks.length≤80)∧q.Done.length≤300
  c:∀q∈x.Coords,Qdw_ q.Txns∧q.Txns.Pairwise (fun a b=>ltK a.X.k b.X.k)∧q.Txns.length≤300∧0≤q.Count∧q.Count≤300∧0≤q.Life∧q.Life≤301
  l:∀i (h:i<x.Coords.length),x.Coords[i].Node=i∧(∀q∈openRL x.Coords[i].Txns,OkR x.Coords[i].Node (x.Coords[i].Life+1) q)∧((openRL x.Coords[i].Txns).map (·.Txn.k)).Nodup
theorem WRel.ok {n K:Nat} {B:List BT} {w:PW} {x:RW} (I:WInv n K B w) (hl:w.log.length≤900000000) (R:WRel w x):ROk x:=by
 have hk:=I.k3;refine ⟨fun q hq=>?_,fun q hq=>?_,fun i h=>?_⟩
 rotate_left 2
 ·have hi:i<w.ns.length:=by rw [←R.cl];exact h
  have p:=R.pi I hl hi h;obtain ⟨e1,e2,e3,_⟩:=p.load (by omega);rw [e1,p.r.node,p.r.life];exact ⟨(I.N.sh i hi).2,e2,e3⟩
 ·obtain ⟨i,h,rfl⟩:=List.getElem_of_mem hq;have hi:i<w.ns.length:=by rw [←R.pl];exact h
  have P:=(I.N.P i hi);have r:=R.p i hi h;have e1:=r.r.held P.t;have e2:=r.r.prep P.t;have e3:=r.dones P;refine ⟨?_,?_,fun q hq=>?_,?_⟩
  ·rw [←e1];have:=P.t.hn;unfold Qad_;rw [List.length_map];simp only [ZbA_,List.length_map];omega
  ·rw [←e2,zdb_];have:=P.t.wn;omega
  ·rw [←e2] at hq;exact (P.t.ww _ _ (P.t.recs hq)).1.1.ks_len
  ·rw [←e3,List.length_map,qdh_];have:=P.dn;omega
 ·obtain ⟨i,h,rfl⟩:=List.getElem_of_mem hq;have hi:i<w.ns.length:=by rw [←R.cl];exact h
  have p:=R.pi I hl hi h;have h1:=p.len;have h2:=p.ct;have h3:=p.lf;exact ⟨p.txs,p.r.rise,by omega,by omega,by omega,by rw [p.r.life];omega,by rw [p.r.life];omega⟩
structure HMS where
  H:Heap
  y:RW
  a:Option Addr×Nat
  b:Option Addr×Nat
  c:Option Addr×Nat
  d:Option Addr×Nat
  v:Option Addr×Nat
  w:Option Addr×Nat
  out:List Message
  rec_:List Rec
theorem qbO_ {W0:World} {H:Heap} {c cm:List Value} {x:RW} {m:Message} (h0:rW17 H c x) (hm:Qa_ H cm m) (hx:ROk x) (hg:OkM m) (i:Nat) (hto:m.To=i) (hi:i<x.Parts.length) (hic:i<x.Coords.length) (hll:x.Log.length≤900000000):
  Ct Tryz.prog 54 #[.agg c.toArray,.agg cm.toArray] W0 H [] (fun r H' B=>∃c' y v1 out,r= .tuple #[.agg c'.toArray,v1]∧rW17 H' c' y∧SlB Qa_ 19 216 H' v1 out∧Zbw_ x m y out∧B=[]):=by
 refine Ct.go (vs:=[.agg c.toArray,.agg cm.toArray]) fun R=>?_;have h00:=h0;have hm0:=hm;obtain ⟨⟨b1,c1⟩,⟨b2,c2⟩,⟨b3,c3⟩,⟨b4,c4⟩,rfl,h1,h2,h3,h4,h5⟩:=Zo_ h0;obtain ⟨t1,t2,t3,t4,rfl,k1,k2,k3,k4,k5',k6,k7,j1,j2,k8,k9,k10,k11,j3,k12,k13,k14,j4⟩:=hm;obtain ⟨mb1,mc1,rfl,_,_⟩:=j1.1.shape;obtain ⟨mb2,mc2,rfl,_,_⟩:=j2.1.shape;obtain ⟨mb3,mc3,rfl,_,_⟩:=j3.1.shape;obtain ⟨mb4,mc4,rfl,_,_⟩:=j4.1.shape;refine walk ?_;refine qc_ rfl rfl fun p2 _=>?_;refine qc_ rfl rfl fun p3 _=>?_;refine Qb_ rfl fun p4 _=>?_;refine ZI_ ?_
 refine qaU_ (σ:=HMS) (fun u=>H.le u.H∧rW17 u.H (RWc u.a u.b u.c u.d u.y) u.y∧SlB Qa_ 19 216 u.H (.slice u.v.1 u.out.length u.v.2) u.out∧SlB rRec 9 120 u.H (.slice u.w.1 u.rec_.length u.w.2) u.rec_∧hearX x m u.y u.out u.rec_)
  (fun u=>[(2,.pointer (some ⟨p2,0,none⟩)),(3,.pointer (some ⟨p3,0,none⟩)),(4,.pointer (some ⟨p4,0,none⟩)),(6,.slice u.v.1 u.out.length u.v.2),(7,.slice u.w.1 u.rec_.length u.w.2)]) (fun u=>u.H)
  (fun u=>row p2 65 (RWc u.a u.b u.c u.d u.y)::row p3 106 (m.cv (.slice mb1 m.Work.Take.length mc1) (.slice mb2 m.Work.Drop.length mc2) (.slice mb3 m.Call.Route.Cells.length mc3) (.slice mb4 m.Reply.Route.Cells.length mc4))::row p4 65 [nilS,nilS,nilS,I 0,nilS]::R) (fun K hK=>?_) fun ⟨H',y,a,b,c,d,v,w,out,rec_⟩ ⟨hl',hy,hv,hw,hX⟩=>?_
 ·refine Qe_ rfl (fun hk=>?_) (fun hk=>?_)
  ·obtain ⟨q,hq⟩:∃q,x.Parts[i]=q:=⟨_,rfl⟩;have hqok:=hx.p x.Parts[i] (List.getElem_mem hi);refine walk ?_;rw [hto];refine qe_ rfl rfl h1.1 hi fun ba oa ca hra hca=>?_;rw [hq] at hca hqok;have hcc:=hca;obtain ⟨s1,s2,s3,rfl,e1,e2,e3,e4⟩:=hca;obtain ⟨x1,y1,rfl,_,_⟩:=e2.1.shape;obtain ⟨x2,y2,rfl,_,_⟩:=e3.1.shape;obtain ⟨x3,y3,rfl,_,_⟩:=e4.1.shape;refine zg_ rfl rfl hra rfl ?_;refine Qb_ rfl fun p8 _=>?_;refine walk ?_;have hs:=zcG_ (W0:=W0) (H:=H) (n:=300) hcc hm0 hg (by omega) hqok.1 hqok.2.1 hqok.2.2.1 hqok.2.2.2;refine Za_ rfl rfl hs fun r1 H1 B hl1 ⟨cs,q',v1,v2,out,rec_,er,hq',hv1,hv2,hr,eB⟩=>?_;subst er eB;obtain ⟨d1,g1,rfl,_,_⟩:=hv1.1.shape;obtain ⟨d2,g2,rfl,_,_⟩:=hv2.1.shape;have hqq:=hq';obtain ⟨z1,z2,z3,rfl,w1,w2,w3,w4⟩:=hq';obtain ⟨u1,o1,rfl,_,_⟩:=w2.1.shape;obtain ⟨u2,o2,rfl,_,_⟩:=w3.1.shape;obtain ⟨u3,o3,rfl,_,_⟩:=w4.1.shape;refine walk ?_;rw [hto];refine Za_ rfl rfl (qcf_ (W0:=W0) (H:=H1) (i:=i) (RdOk.mono (R:=rW17) hl1 h00) hqq hi) fun r2 H2 B hl2 ⟨c2',er,hc2',eB⟩=>?_;subst er eB;obtain ⟨a,b,c,d,rfl,_⟩:=Zo_ hc2';refine walk ?_;exact qL_ hK ⟨H2,{x with Parts:=x.Parts.set i q'},a,b,c,d,(d1,g1),(d2,g2),out,rec_⟩ ⟨hl1.trans hl2,hc2',hv1.mono hl2,hv2.mono hl2,.inl ⟨hk,i,hi,q',hto,by rw [hq];exact hr,rfl⟩⟩
  ·obtain ⟨q,hq⟩:∃q,x.Coords[i]=q:=⟨_,rfl⟩;have hqok:=hx.c x.Coords[i] (List.getElem_mem hic);refine walk ?_;rw [hto];refine qe_ rfl rfl h2.1 hic fun ba oa ca hra hca=>?_;rw [hq] at hca hqok;have hcc:=hca;obtain ⟨s1,rfl,e1,e2,e3,e4⟩:=hca;obtain ⟨x1,y1,rfl,_,_⟩:=e4.1.shape;refine zg_ rfl rfl hra rfl ?_;refine Qb_ rfl fun p9 _=>?_;refine walk ?_;have hs:=ZbY_ (W0:=W0) (H:=H) hcc hm0 hqok.1 hqok.2.1 (by omega);refine Za_ rfl rfl hs fun r1 H1 B hl1 ⟨cs,q',v1,v2,v3,out,rec_,oc,er,hq',hv1,hv2,_,hr,eB⟩=>?_;subst er eB;obtain ⟨d1,g1,rfl,_,_⟩:=hv1.1.shape;obtain ⟨d2,g2,rfl,_,_⟩:=hv2.1.shape;have hqq:=hq';obtain ⟨z1,rfl,w1,w2,w3,w4⟩:=hq';obtain ⟨u1,o1,rfl,_,_⟩:=w4.1.shape;refine walk ?_;rw [hto];refine Za_ rfl rfl (Zai_ (W0:=W0) (H:=H1) (i:=i) (RdOk.mono (R:=rW17) hl1 h00) hqq hic) fun r2 H2 B hl2 ⟨c2',er,hc2',eB⟩=>?_;subst er eB;obtain ⟨a,b,c,d,rfl,_⟩:=Zo_ hc2';refine walk ?_;exact qL_ hK ⟨H2,{x with Coords:=x.Coords.set i q'},a,b,c,d,(d1,g1),(d2,g2),out,rec_⟩ ⟨hl1.trans hl2,hc2',hv1.mono hl2,hv2.mono hl2,.inr ⟨hk,i,hic,q',oc,hto,by rw [hq];exact hr,rfl⟩⟩
 ·simp only at hl' hy hv hw hX;dsimp only;obtain ⟨hall,hlog⟩:=hX.all;have hrl:=hX.len;obtain ⟨a1,a2⟩:=a;obtain ⟨e1,e2⟩:=b;obtain ⟨f1,f2⟩:=c;obtain ⟨g1,g2⟩:=d;obtain ⟨v1,v2⟩:=v;obtain ⟨w1,w2⟩:=w;obtain ⟨_,_,_,_,hee,y1,y2,y3,y4,y5⟩:=hy;simp only [List.cons.injEq,and_true,true_and] at hee;obtain ⟨rfl,rfl,rfl,rfl⟩:=hee;dsimp only at hv hw y1 y2 y3 y5⊢;have hcap:([].length (α:=Convoyref17Note)+y.Log.length)*128≤zb_:=by simpa using y5.2
  have hbig:(y.Log.length+rec_.length)*128≤zb_:=by rw [hlog];unfold zb_;omega
  refine walk ?_;refine QU_ (w:=128) qw_ rfl fun bn=>?_;refine walk ?_;refine Qq_ rfl rfl y5.1 hcap fun bm cm=>?_;rw [List.nil_append,List.length_nil,Nat.zero_add];refine walk ?_
  let nt (j:Nat):List Convoyref17Note:=(rec_.take j).map fun r=>⟨m.To,r⟩
  have hlen:∀j,j≤rec_.length→(y.Log++nt j).length=y.Log.length+j:=fun j hj=>by rw [List.length_append,List.length_map,List.length_take];omega
  have hnt:∀j (h:j<rec_.length),nt (j+1)=nt j++[⟨m.To,rec_[j]⟩]:=fun j h=>by
   show (rec_.take (j+1)).map _=_;rw [List.take_succ_eq_append_getElem h,List.map_append];rfl
  have hn0:y.Log++nt 0=y.Log:=by show y.Log++[]=_;rw [List.append_nil]
  have hnl:nt rec_.length=rec_.map fun r=>(⟨m.To,r⟩:Convoyref17Note):=by show (rec_.take _).map _=_;rw [List.take_length]
  generalize nt=nt at hlen hnt hn0 hnl
  refine Qc_ (σ:=Nat×(Option Addr×Nat)) (fun u=>u.1≤rec_.length) (fun u=>[(2,.pointer (some ⟨p2,0,none⟩)),(3,.pointer (some ⟨p3,0,none⟩)),(4,.pointer (some ⟨p4,0,none⟩)),(6,.slice v1 out.length v2),(7,.slice w1 rec_.length w2),(10,.slice u.2.1 (y.Log.length+u.1) u.2.2),(11,I u.1)]) (fun _=>H')
   (fun u=>ownS qw_ 10 128 72 H' (.slice u.2.1 (y.Log.length+u.1) u.2.2) (y.Log++nt u.1)::row p2 65 (RWc (a1,a2) (e1,e2) (f1,f2) (g1,g2) y)::row p3 106 (m.cv (.slice mb1 m.Work.Take.length mc1) (.slice mb2 m.Work.Drop.length mc2) (.slice mb3 m.Call.Route.Cells.length mc3) (.slice mb4 m.Reply.Route.Cells.length mc4))::row p4 65 [nilS,nilS,nilS,I 0,nilS]::R) (fun u=>rec_.length - u.1) (0,(bm,cm)) (Nat.zero_le _) (hs0:=?_) fun ⟨j,⟨bj,cj⟩⟩ hj0 K hL=>?_
  rotate_left
  ·dsimp only;rw [hn0];exact subA
  simp only at hj0;dsimp only;by_cases hj1:j<rec_.length
  ·have hj2:(j:Int)<(rec_.length:Int):=by omega
   obtain ⟨q,hq⟩:∃q,rec_[j]=q:=⟨_,rfl⟩;have hnj:=hnt j hj1;rw [hq] at hnj;refine walk ?_;refine zc_ 10 [row p3 106 (m.cv (.slice mb1 m.Work.Take.length mc1) (.slice mb2 m.Work.Drop.length mc2) (.slice mb3 m.Call.Route.Cells.length mc3) (.slice mb4 m.Reply.Route.Cells.length mc4))] ?_;refine qa_ 0 ?_;refine qa_ 1 ?_;refine qa_ 2 ?_;refine qa_ 3 ?_;refine qa_ 4 ?_;refine Qf_ 5 rfl rfl rfl hw.1 hj1 fun bq oq cq hrq hcq=>?_;rw [hq] at hcq;have hcc:=hcq;obtain ⟨z1,z2,z3,rfl,q1,q2,q3,q4,q5,q6,q7,q8,q9⟩:=hcq;refine Zl_ 6 rfl rfl rfl hrq rfl ?_;refine qa_ 7 ?_;refine Qu_ (y:=(⟨m.To,q⟩:Convoyref17Note)) 8 9 rfl rfl rfl ⟨_,_,_,rfl,k2,q1,q2,q3,q4,q5,q6,q7,q8,q9⟩ (by rw [hlen j hj0];simp only [zb_] at hbig⊢;omega) fun d3 e3=>⟨subA,?_⟩;rw [hlen j hj0];refine qb_ rfl ?_;refine walk ?_;refine Zb_ hL (j+1,(d3,e3)) (by simp only;omega) (hs:=?_);simp only;rw [hnj,←List.append_assoc];exact subA
  ·obtain rfl:j=rec_.length:=by omega
   clear hL;rw [hnl];refine walk ?_;refine qg_ (.slice bj (y.Log.length+rec_.length) cj) fun H9 hl9 hs9=>?_;refine fin0 ?_;have hl9':(y.Log++rec_.map fun r=>(⟨m.To,r⟩:Convoyref17Note)).length=y.Log.length+rec_.length:=by simp
   exact ⟨_,{y with Log:=y.Log++rec_.map fun r=>⟨m.To,r⟩},_,_,rfl,⟨_,_,_,_,rfl,y1.mono hl9,y2.mono hl9,y3.mono hl9,y4,hs9⟩,hv.mono hl9,hall,rfl⟩
def Qcf_ (w:PW) (k a:Int) (works:List Work) (y:RW) (e:Int):Prop:=∀m w' e',PPlay m w k a works w' e'→e'=e∧WRel w' y
theorem qdl_ {w:PW} {x:RW} {k a:Int} {works:List Work} (R:WRel w x) (h:¬okMv w k a works.length):Qcf_ w k a works x 1:=fun m w' e' g=>by
 cases g with
 | bad=>exact ⟨rfl,R⟩
 | begin hk i ha hi hn=>exact absurd (.inl ⟨hk,by unfold qt_;omega,hn⟩) h
 | none hk=>exact absurd (by unfold okMv;omega) h
 | deliver hk=>exact absurd (by unfold okMv;omega) h
 | fail hk=>exact absurd (by unfold okMv;omega) h
 | drop hk=>exact absurd (by unfold okMv;omega) h
 | copy hk=>exact absurd (by unfold okMv;omega) h
 | full hk=>exact absurd (by unfold okMv;omega) h
 | step hk i ha hi=>exact absurd (.inr (.inl ⟨.inl hk,by unfold qt_;omega⟩)) h
 | tick hk h0 h1=>exact absurd (.inr (.inr (.inl ⟨hk,h0,h1⟩))) h
 | crash hk i ha hi=>exact absurd (.inr (.inl ⟨.inr hk,by unfold qt_;omega⟩)) h
theorem QcG_ {w:PW} {x:RW} {k a:Int} {works:List Work} (R:WRel w x) (hk:k=2∨k=3∨k=4∨k=8) (h:¬inN w.net a):Qcf_ w k a works x 4:=fun m w' e' g=>by
 have hin:∀j:Nat,a=j→j<w.net.length→False:=fun j e hj=>h (by unfold inN;omega)
 cases g with
 | bad h=>exact absurd (by unfold okMv;omega) h
 | none=>exact ⟨rfl,R⟩
 | begin h=>omega
 | deliver _ j ha hj=>exact (hin j ha hj).elim
 | fail _ j ha hj=>exact (hin j ha hj).elim
 | drop _ j ha hj=>exact (hin j ha hj).elim
 | copy _ j ha hj=>exact (hin j ha hj).elim
 | full _ j ha hj=>exact (hin j ha hj).elim
 | step h=>omega
 | tick h=>omega
 | crash h=>omega
theorem qdQ_ {w:PW} {x:RW} {j:Nat} {works:List Work} (R:WRel w x) (hj:j<w.net.length):Qcf_ w 3 j works {x with Net:=delM w.net j} 0:=fun m w' e' g=>by
 cases g with
 | bad h=>exact absurd (by unfold okMv;omega) h
 | none _ h=>exact absurd (by unfold inN;omega) h
 | drop _ i ha hi=>
  obtain rfl:j=i:=by omega
  exact ⟨rfl,R.withNet _⟩
 | begin h=>omega
 | deliver h=>omega
 | fail h=>omega
 | copy h=>omega
 | full h=>omega
 | step h=>omega
 | tick h=>omega
 | crash h=>omega
theorem qbx_ {n K:Nat} {B:List BT} {w:PW} {x y:RW} {j:Nat} {works:List Work} {out:List Message} (I:WInv n K B w) (R:WRel w x) (hj:j<w.net.length) (h:Zbw_ {x with Net:=delM w.net j} w.net[j] y out):Qcf_ w 2 j works {y with Net:=Qv_ y.Net out} 0:=fun m w' e' g=>by
 cases g with
 | bad h=>exact absurd (by unfold okMv;omega) h
 | none _ h=>exact absurd (by unfold inN;omega) h
 | deliver _ i ha hi w1 out' hh=>
  obtain rfl:j=i:=by omega
  have I1:WInv n K B {w with net:=delM w.net j}:=I.less (fun g hg=>Zcq_ hg) (Nat.le_trans qcr_ I.nl);obtain ⟨e1,R1⟩:=(R.withNet (delM w.net j)).hear I1 h hh;subst e1;refine ⟨rfl,?_⟩;rw [R1.net];exact R1.withNet _
 | drop h=>omega
 | begin h=>omega
 | fail h=>omega
 | copy h=>omega
 | full h=>omega
 | step h=>omega
 | tick h=>omega
 | crash h=>omega
theorem Zcf_ {n K:Nat} {B:List BT} {w:PW} {x:RW} {i:Nat} {works:List Work} {t:Txn} {out:List Message} {e:Int} {c':Coord} (I:WInv n K B w) (hl:w.log.length≤900000000) (R:WRel w x) (hi:i<w.ns.length) (hic:i<x.Coords.length) (hn:works.length≤w.ns.length) (h:QdC_ x.Coords[i] w.now works t out e c'):Qcf_ w 1 i works {x with Coords:=x.Coords.set i c',Net:=Qv_ w.net out} e:=fun m w' e' g=>by
 cases g with
 | bad h=>exact absurd (.inl ⟨rfl,by unfold qt_;omega,hn⟩) h
 | begin _ j ha hj hn ws hw=>
  obtain rfl:i=j:=by omega
  have p:=R.pi I hl hi hic;have hlen:=I.len;have hn4:=I.n4;have hnow:=I.now;have hk:=I.k3
  have hb:∃x' out' e1,BegA w.ns[i].cs w.now works x' out' e1 (qd_ w.ns[i].cs w.now ws)∧out'=saidB w.ns[i].cs w.now ws∧e1=if ws=[] then 4 else 0:=by
   by_cases hws:ws=[]
   ·exact ⟨⟨0,0,0⟩,[],4,⟨ws,hw,.inl ⟨hws,rfl,rfl,rfl,by unfold qd_;rw [if_pos hws]⟩⟩,by unfold saidB;rw [if_pos hws],by rw [if_pos hws]⟩
   ·exact ⟨newX w.ns[i].cs,_,0,⟨ws,hw,.inr ⟨hws,rfl,rfl,rfl,rfl⟩⟩,by unfold saidB;rw [if_neg hws],by rw [if_neg hws]⟩
  obtain ⟨x',out',e1,hb1,hb2,hb3⟩:=hb;obtain ⟨_,e2,e3,p'⟩:=p.begin (by omega) (by omega) (by unfold fits;omega) hb1 h;rw [←hb3,←hb2];refine ⟨e3,?_⟩;rw [e2];exact (R.setC hi p'.r).withNet _
 | none h=>omega
 | deliver h=>omega
 | fail h=>omega
 | drop h=>omega
 | copy h=>omega
 | full h=>omega
 | step h=>omega
 | tick h=>omega
 | crash h=>omega
theorem ZcG_ {n K:Nat} {B:List BT} {w:PW} {x:RW} {i:Nat} {works:List Work} (I:WInv n K B w) (hl:w.log.length≤900000000) (R:WRel w x) (hi:i<w.ns.length) (hic:i<x.Coords.length) (hip:i<x.Parts.length):
  Qcf_ w 5 i works {x with Coords:=x.Coords.set i {x.Coords[i] with Txns:=zao_ w.now x.Coords[i].Txns x.Coords[i].Txns},Net:=Qv_ (Qv_ w.net (x.Coords[i].Txns.flatMap (Qw_ x.Coords[i].Node w.now))) (x.Parts[i].T.Prep.map (askR x.Parts[i]))} 0:=fun m w' e' g=>by
 cases g with
 | bad h=>exact absurd (.inr (.inl ⟨.inl rfl,by unfold qt_;omega⟩)) h
 | begin h=>omega
 | none h=>omega
 | deliver h=>omega
 | fail h=>omega
 | drop h=>omega
 | copy h=>omega
 | full h=>omega
 | step _ j ha hj=>
  obtain rfl:i=j:=by omega
  have p:=R.pi I hl hi hic;obtain ⟨e1,_,p'⟩:=p.step (now:=w.now);have e2:=(R.p i hi hip).asks (I.N.P i hi);refine ⟨rfl,?_⟩;have e3:askL w.ns[i].ps=x.Parts[i].T.Prep.map (askR x.Parts[i]):=e2;rw [e1,←e3];exact (R.setC hi p'.r).withNet _
 | tick h=>omega
 | crash h=>omega
end Go.Proofs.YtlflbkpmfhhikaaGreatDoor
namespace Go.Proofs.YtlflbkpmfhhikaaGreatDoor
open Go Go.Sx Go.Proofs
end Go.Proofs.YtlflbkpmfhhikaaGreatDoor
namespace Go.Proofs.YtlflbkpmfhhikaaGreatDoor
open Go Go.Sx Go.Proofs
def Zce_ (w:PW) (k a:Int) (works:List Work) (r:Value) (H':Heap) (B:List za_):Prop:=∃c' y e,r= .tuple #[.agg c'.toArray,I e]∧rW17 H' c' y∧Qcf_ w k a works y e∧B=[]
theorem ROk.net {x:RW} (h:ROk x) {l:List Message}:ROk {x with Net:=l}:=⟨h.p,h.c,h.l⟩
theorem Qce_ {W0:World} {H:Heap} {c:List Value} {n K:Nat} {B0:List BT} {w:PW} {x:RW} {a:Int} {v:Value} {works:List Work} (IW:WInv n K B0 w) (hl:w.log.length≤800000000) (R:WRel w x) (h0:rW17 H c x) (ha:fits a) (hs:SlB Qi_ 3 56 H v works):
  Ct Tryz.prog 23 #[.agg c.toArray,I 2,I a,v] W0 H [] (fun r H' B=>Zce_ w 2 a works r H' B):=by
 have hnb:0≤x.Now∧x.Now≤1073741824:=by rw [R.now];exact IW.now
 have hok:=R.ok IW (by omega);have hab: -9223372036854775808≤a∧a≤9223372036854775807:=by unfold fits at ha;omega
 have hpl:=R.pl;have hcl:=R.cl;have hlen:=IW.len;have hn4:=IW.n4;refine Ct.go (vs:=[.agg c.toArray,I 2,I a,v]) fun Rr=>?_;have h00:=h0;obtain ⟨⟨b1,c1⟩,⟨b2,c2⟩,⟨b3,c3⟩,⟨b4,c4⟩,rfl,h1,h2,h3,h4,h5⟩:=Zo_ h0;obtain ⟨bv,cv,rfl,_,_⟩:=hs.1.shape;refine walk ?_;refine qc_ rfl rfl fun p4 _=>?_;refine Qb_ rfl fun p8 _=>?_;refine ZI_ ?_;by_cases hq:inN x.Net a
 ·obtain ⟨j,rfl⟩:∃j:Nat,a=j:=⟨a.toNat,by unfold inN at hq;omega⟩;have hj:j<x.Net.length:=by unfold inN at hq;omega
  have hj':j<w.net.length:=by rw [←R.net];exact hj
  have hmem:w.net[j]∈w.net:=List.getElem_mem hj';have hJ:=IW.J _ hmem;obtain ⟨hM,hto⟩:=IW.msg hJ;have hgm:x.Net[j]=w.net[j]:=by simp only [R.net]
  obtain ⟨m,hme⟩:∃m,w.net[j]=m:=⟨_,rfl⟩;rw [hme] at hJ hM hto hgm;unfold qt_ at hto;obtain ⟨i,hi⟩:∃i:Nat,m.To=i:=⟨m.To.toNat,by omega⟩;have hll:x.Log.length≤900000000:=by rw [R.log,List.length_map];omega
  refine Za_ rfl rfl (Net.refDrop_yes (W0:=W0) (H:=H) h3 hj) fun r1 H1 B hl1 ⟨v1,cm,er,hm,hv,eB⟩=>?_;subst er eB;rw [hgm] at hm;obtain ⟨z1,z2,rfl,_,_⟩:=hv.1.shape;have hmm:=hm;obtain ⟨t1,t2,t3,t4,rfl,_,_,_,_,_,_,_,j1,j2,_,_,_,_,j3,_,_,_,j4⟩:=hm;obtain ⟨mb1,mc1,rfl,_,_⟩:=j1.1.shape;obtain ⟨mb2,mc2,rfl,_,_⟩:=j2.1.shape;obtain ⟨mb3,mc3,rfl,_,_⟩:=j3.1.shape;obtain ⟨mb4,mc4,rfl,_,_⟩:=j4.1.shape;refine walk ?_;refine Qb_ rfl fun p17 _=>?_;refine walk ?_;have hw1:rW17 H1 (RWc (b1,c1) (b2,c2) (z1,z2) (b4,c4) {x with Net:=Net.del x.Net j}) {x with Net:=Net.del x.Net j}:=⟨_,_,_,_,rfl,h1.mono hl1,h2.mono hl1,hv,h4,h5.mono hl1⟩;refine Za_ rfl rfl (qbO_ (W0:=W0) (H:=H1) hw1 hmm hok.net hM i hi (by show i<x.Parts.length;omega) (by show i<x.Coords.length;omega) hll) fun r2 H2 B hl2 ⟨c2',y,v2,out,er,hy,hv2,hX,eB⟩=>?_;subst er eB;have hyy:=hy;obtain ⟨⟨d1,e1⟩,⟨d2,e2⟩,⟨d3,e3⟩,⟨d4,e4⟩,rfl,_⟩:=Zo_ hy;obtain ⟨o1,o2,rfl,_,_⟩:=hv2.1.shape;refine walk ?_;refine Qb_ rfl fun p19 _=>?_;refine walk ?_;rw [R.net] at hX;refine Za_ rfl rfl (ZT_ (W0:=W0) (H:=H2) hyy hv2) fun r3 H3 B hl3 ⟨c3',er,hy3,eB⟩=>?_;subst er eB;have hyy3:=hy3;obtain ⟨⟨f1,g1⟩,⟨f2,g2⟩,⟨f3,g3⟩,⟨f4,g4⟩,rfl,_⟩:=Zo_ hy3;refine walk ?_;refine fin0 ?_;exact ⟨_,_,0,rfl,hyy3,qbx_ IW R hj' (by rw [hme];exact hX),rfl⟩
 ·refine Za_ rfl rfl (Net.refDrop_no (W0:=W0) (H:=H) (i:=a) h3 hq) fun r1 H1 B hl1 ⟨cm,er,hm,eB,eH⟩=>?_;subst er eB eH;obtain ⟨t1,t2,t3,t4,rfl,_,_,_,_,_,_,_,j1,j2,_,_,_,_,j3,_,_,_,j4⟩:=hm;obtain ⟨mb1,mc1,rfl,_,_⟩:=j1.1.shape;obtain ⟨mb2,mc2,rfl,_,_⟩:=j2.1.shape;obtain ⟨mb3,mc3,rfl,_,_⟩:=j3.1.shape;obtain ⟨mb4,mc4,rfl,_,_⟩:=j4.1.shape;refine walk ?_;refine Qb_ rfl fun p17 _=>?_;refine walk ?_;refine fin0 ?_;exact ⟨_,x,4,rfl,⟨_,_,_,_,rfl,h1,h2,h3,h4,h5⟩,QcG_ R (by decide) (by rw [←R.net];exact hq),rfl⟩
end Go.Proofs.YtlflbkpmfhhikaaGreatDoor
