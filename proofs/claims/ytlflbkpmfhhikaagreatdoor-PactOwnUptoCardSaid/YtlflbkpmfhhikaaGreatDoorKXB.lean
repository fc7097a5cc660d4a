/- The net of a world. -/
import Derived.Test.YtlflbkpmfhhikaaGreatDoorKKC
import Derived.Test.YtlflbkpmfhhikaaGreatDoorKKD
import Derived.Test.YtlflbkpmfhhikaaGreatDoorKLP
set_option linter.unusedVariables false
set_option linter.unusedSimpArgs false
namespace Go.Proofs.YtlflbkpmfhhikaaGreatDoor.Net
open Go Go.Sx Go.Proofs
theorem Qba_ {W0:World} {H:Heap} {v:Value} {xs:List ByteArray} (h0:SlB rStr 1 16 H v xs):
  Ct Tryz.prog 30 #[v] W0 H [] (fun r H' B=>B=[ownS rStr 1 16 9 H r xs]∧H'=H):=by
 exact v28_
theorem Qx_ {W0:World} {H:Heap} {v:Value} {xs:List Int} (h0:SlB rInt 1 8 H v xs):
  Ct Tryz.prog 31 #[v] W0 H [] (fun r H' B=>B=[ownS rInt 1 8 3 H r xs]∧H'=H):=by
 exact v29_
abbrev sl (x:Option Addr×Nat) {α:Type} (l:List α):Value:= .slice x.1 l.length x.2
abbrev ownM (H:Heap) (s1 s2 s3 s4:Option Addr×Nat) (m:Message):List za_:=
  [ownS rStr 1 16 9 H (sl s1 m.Work.Take) m.Work.Take,ownS rStr 1 16 9 H (sl s2 m.Work.Drop) m.Work.Drop,ownS rInt 1 8 3 H (sl s3 m.Call.Route.Cells) m.Call.Route.Cells,ownS rInt 1 8 3 H (sl s4 m.Reply.Route.Cells) m.Reply.Route.Cells]
abbrev cvM (s1 s2 s3 s4:Option Addr×Nat) (m:Message):List Value:=m.cv (sl s1 m.Work.Take) (sl s2 m.Work.Drop) (sl s3 m.Call.Route.Cells) (sl s4 m.Reply.Route.Cells)
def okM (m:Message):Prop:=fits m.From∧fits m.To∧fits m.Kind∧(fits m.Txn.Node∧fits m.Txn.Life∧fits m.Txn.Count)∧fits m.Work.Robot∧fits m.ID∧fits m.Call.Verb∧fits m.Call.Epoch∧fits m.Call.Route.Start∧fits m.Reply.Code∧fits m.Reply.Epoch∧fits m.Reply.Route.Start
theorem own_spec {W0:World} {H:Heap} {c:List Value} {m:Message} (h0:Qa_ H c m):
  Ct Tryz.prog 99 #[.agg c.toArray] W0 H [] (fun r H' B=>∃s1 s2 s3 s4,r= .agg (cvM s1 s2 s3 s4 m).toArray∧B=ownM H s1 s2 s3 s4 m∧H'=H):=by
 refine Ct.go fun R=>?_;obtain ⟨s1,s2,s3,s4,rfl,f1,f2,f3,f4,f5,f6,f7,h1,h2,f8,f9,f10,f11,h3,f12,f13,f14,h4⟩:=h0;refine walk ?_;refine qc_ rfl rfl fun p1 _=>?_;refine Qb_ rfl fun p2 _=>?_;refine walk ?_;refine zc_ 10 [row p1 106 (m.cv s1 s2 s3 s4)] ?_
 (first | refine Qt_ 0 rfl rfl ?_ | refine zm_ 0 rfl rfl rfl ?_ | refine Qh_ 0 rfl rfl rfl ?_);(first | refine Qt_ 1 rfl rfl ?_ | refine zm_ 1 rfl rfl rfl ?_ | refine Qh_ 1 rfl rfl rfl ?_);(first | refine Qt_ 2 rfl rfl ?_ | refine zm_ 2 rfl rfl rfl ?_ | refine Qh_ 2 rfl rfl rfl ?_);(first | refine Qt_ 4 rfl rfl ?_ | refine zm_ 4 rfl rfl rfl ?_ | refine Qh_ 4 rfl rfl rfl ?_);(first | refine Qt_ 5 rfl rfl ?_ | refine zm_ 5 rfl rfl rfl ?_ | refine Qh_ 5 rfl rfl rfl ?_);(first | refine Qt_ 6 rfl rfl ?_ | refine zm_ 6 rfl rfl rfl ?_ | refine Qh_ 6 rfl rfl rfl ?_)
 refine zo_ 3 rfl rfl (Qba_ h1) fun r1 H1 B hl1 ⟨eB,eH⟩=>?_;subst eB eH;refine ⟨subA,?_⟩
 (first | refine Qt_ 8 rfl rfl ?_ | refine zm_ 8 rfl rfl rfl ?_ | refine Qh_ 8 rfl rfl rfl ?_);(first | refine Qt_ 9 rfl rfl ?_ | refine zm_ 9 rfl rfl rfl ?_ | refine Qh_ 9 rfl rfl rfl ?_)
 refine zo_ 7 rfl rfl (Qba_ h2) fun r2 H2 B hl2 ⟨eB,eH⟩=>?_;subst eB eH;refine ⟨subA,?_⟩;refine qb_ rfl ?_;refine qq_ r1 fun d1 e1 e _ _ _=>?_;subst e;refine qq_ r2 fun d2 e2 e _ _ _=>?_;subst e;refine walk ?_;refine Za_ rfl rfl (Qx_ h3) fun r3 H3 B hl3 ⟨eB,eH⟩=>?_;subst eB eH;refine qq_ r3 fun d3 e3 e _ _ _=>?_;subst e;refine walk ?_;refine Za_ rfl rfl (Qx_ h4) fun r4 H4 B hl4 ⟨eB,eH⟩=>?_;subst eB eH;refine qq_ r4 fun d4 e4 e _ _ _=>?_;subst e;refine walk ?_;refine finB (ownM _ (d1,e1) (d2,e2) (d3,e3) (d4,e4) m) ?_;exact ⟨_,_,_,_,rfl,rfl,rfl⟩
def netO (H:Heap) (p:Value) (ms:List Message):za_:=fun h=>∃b s,p= .pointer (some ⟨b,0,none⟩)∧big [row b 156 [s],ownS Qa_ 19 216 106 H s ms] h
theorem netO_open {H H':Heap} {p:Value} {ms:List Message} {h:Heap} (hl:H.le H') (ho:netO H p ms h):∃x:Nat×Option Addr×Nat,(p= .pointer (some ⟨x.1,0,none⟩)∧ms.length≤x.2.2∧x.2.2≤9223372036854775807∧ms.length*216≤zb_)∧
  big [row x.1 156 [.slice x.2.1 ms.length x.2.2],ownS Qa_ 19 216 106 H' (.slice x.2.1 ms.length x.2.2) ms] h:=by
 obtain ⟨b,s,hp,hb⟩:=ho;obtain ⟨h1,h2,a,⟨h3,h4,c,d,e,l1,l2⟩,f,l3,l4⟩:=hb;obtain ⟨base,cap,rfl,k1,k2⟩:=ZW_ c;refine ⟨(b,base,cap),⟨hp,k1,k2,qal_ c⟩,h1,h2,a,⟨h3,h4,?_,d,e,l1,l2⟩,f,l3,l4⟩;obtain ⟨cs,⟨u,v⟩,w⟩:=c;exact ⟨cs,⟨u.mono hl,v⟩,w⟩
theorem qai_ {H:Heap} {b:Nat} {s:Value} {ms:List Message} {L:List za_}:Sub (row b 156 [s]::ownS Qa_ 19 216 106 H s ms::L) (netO H (.pointer (some ⟨b,0,none⟩)) ms::L):=
 zbq_ (B:=[row b 156 [s],ownS Qa_ 19 216 106 H s ms]) fun x hx=>⟨b,s,rfl,hx⟩
theorem netO_shut' {H:Heap} {b:Nat} {s:Value} {ms:List Message} {L:List za_}:Sub (ownS Qa_ 19 216 106 H s ms::row b 156 [s]::L) (netO H (.pointer (some ⟨b,0,none⟩)) ms::L):=
 Sub.trans (fun _=>ZS_) qai_
theorem new_spec {W0:World} {H:Heap}:Ct Tryz.prog 32 #[] W0 H [] (fun r H' B=>B=[netO H r []]∧H'=H):=by
 refine Ct.go (vs:=[]) fun R=>?_;refine walk ?_;refine qc_ rfl rfl fun b _=>?_;refine walk ?_;refine finB [netO H (.pointer (some ⟨b,0,none⟩)) []] ?_ (hs:=(ownS_nil.trans netO_shut'));exact ⟨rfl,rfl⟩
theorem len_spec {W0:World} {H H0:Heap} {p:Value} {ms:List Message} (hl:H0.le H):Ct Tryz.prog 63 #[p] W0 H [netO H0 p ms] (fun r H' B=>r=I ms.length∧B=[netO H p ms]∧H'=H):=by
 refine Ct.go fun R=>?_;refine Qj_ .here (fun h=>netO_open hl) fun ⟨b,base,cap⟩ ⟨hp,h1,h2,h3⟩=>?_;simp only at hp h1 h2 h3;subst hp;dsimp only;refine walk ?_;refine finB [netO H (.pointer (some ⟨b,0,none⟩)) ms] ?_ (hs:=qai_);exact v119_
theorem send_yes {W0:World} {H H0:Heap} {p:Value} {c:List Value} {ms:List Message} {m:Message} (hl:H0.le H) (h0:Qa_ H c m) (hlt:ms.length<64):
  Ct Tryz.prog 67 #[p,.agg c.toArray] W0 H [netO H0 p ms] (fun r H' B=>r=I 0∧B=[netO H' p (ms++[m])]):=by
 refine Ct.go fun R=>?_;refine Qj_ .here (fun h=>netO_open hl) fun ⟨b,base,cap⟩ ⟨hp,h1,h2,h3⟩=>?_;simp only at hp h1 h2 h3;subst hp;dsimp only;refine walk ?_;have hc:=h0;obtain ⟨s1,s2,s3,s4,rfl,f1,f2,f3,f4,f5,f6,f7,k1,k2,f8,f9,f10,f11,k3,f12,f13,f14,k4⟩:=h0;refine qc_ rfl rfl fun p1 _=>?_;refine walk ?_;refine zc_ 9 [row b 156 [.slice base ms.length cap],row p1 106 (m.cv s1 s2 s3 s4)] ?_
 (first | refine Qt_ 0 rfl rfl ?_ | refine zm_ 0 rfl rfl rfl ?_ | refine Qh_ 0 rfl rfl rfl ?_);(first | refine Qt_ 1 rfl rfl ?_ | refine zm_ 1 rfl rfl rfl ?_ | refine Qh_ 1 rfl rfl rfl ?_);(first | refine Qt_ 2 rfl rfl ?_ | refine zm_ 2 rfl rfl rfl ?_ | refine Qh_ 2 rfl rfl rfl ?_);(first | refine Qt_ 3 rfl rfl ?_ | refine zm_ 3 rfl rfl rfl ?_ | refine Qh_ 3 rfl rfl rfl ?_);(first | refine Qt_ 4 rfl rfl ?_ | refine zm_ 4 rfl rfl rfl ?_ | refine Qh_ 4 rfl rfl rfl ?_);(first | refine Qt_ 5 rfl rfl ?_ | refine zm_ 5 rfl rfl rfl ?_ | refine Qh_ 5 rfl rfl rfl ?_)
 refine zo_ 6 rfl rfl (own_spec hc) fun r1 H1 B hl1 ⟨t1,t2,t3,t4,er,eB,eH⟩=>?_;subst er eB eH;refine ⟨subA,?_⟩;refine zi_ (sl t1 m.Work.Take) fun H1 g1 q1=>?_;refine zi_ (sl t2 m.Work.Drop) fun H2 g2 q2=>?_;refine zi_ (sl t3 m.Call.Route.Cells) fun H3 g3 q3=>?_;refine zi_ (sl t4 m.Reply.Route.Cells) fun H4 g4 q4=>?_;refine Qu_ 7 8 (y:=m) rfl rfl rfl ⟨_,_,_,_,rfl,f1,f2,f3,f4,f5,f6,f7,q1.mono (g2.trans (g3.trans g4)),q2.mono (g3.trans g4),f8,f9,f10,f11,q3.mono g4,f12,f13,f14,q4⟩ (by simp only [zb_];omega) fun b2 c2=>⟨subA,?_⟩;refine qb_ rfl ?_;refine walk ?_;refine finB [netO H4 (.pointer (some ⟨b,0,none⟩)) (ms++[m])] ?_ (hs:=(fun _ h=>netO_shut' _ (Sub.cons subA _ h)));exact ⟨rfl,rfl⟩
theorem send_no {W0:World} {H H0:Heap} {p:Value} {c:List Value} {ms:List Message} {m:Message} (hl:H0.le H) (h0:Qa_ H c m) (hlt:¬ms.length<64):
  Ct Tryz.prog 67 #[p,.agg c.toArray] W0 H [netO H0 p ms] (fun r H' B=>r=I 5∧B=[netO H p ms]∧H'=H):=by
 refine Ct.go fun R=>?_;refine Qj_ .here (fun h=>netO_open hl) fun ⟨b,base,cap⟩ ⟨hp,h1,h2,h3⟩=>?_;simp only at hp h1 h2 h3;subst hp;dsimp only;refine walk ?_;refine qc_ rfl rfl fun p1 _=>?_;refine walk ?_;refine finB [netO H (.pointer (some ⟨b,0,none⟩)) ms] ?_ (hs:=(fun _ h=>qai_ _ (Sub.drop (Sub.refl _) _ h)));exact v119_
def Qbw_ (H':Heap) (m:Message) (v:Value) (b:List za_) (r:Value) (B:List za_):Prop:=∃s1 s2 s3 s4,r= .tuple #[.agg (cvM s1 s2 s3 s4 m).toArray,v]∧B=ownM H' s1 s2 s3 s4 m++b
abbrev nl:Option Addr×Nat:=(none,0)
def inR (ms:List Message) (i:Int):Prop:=0≤i∧i<ms.length
theorem Zdh_ {H:Heap} {L:List za_}:Sub L (ownM H nl nl nl nl Qk_++L):=((ownS_nil.trans (Sub.cons ownS_nil)).trans (Sub.cons (Sub.cons ownS_nil))).trans (Sub.cons (Sub.cons (Sub.cons ownS_nil)))
theorem v90_ {P:Prop} (h:P:=by
 exact ⟨⟨_,_,_,_,rfl,rfl⟩,rfl⟩):P:=h
theorem Zej_ {W0:World} {H H0:Heap} {p:Value} {ms:List Message} {i:Int} (hl:H0.le H) (hi:¬inR ms i):
  Ct Tryz.prog 68 #[p,I i] W0 H [netO H0 p ms] (fun r H' B=>Qbw_ H Qk_ (.bool false) [netO H p ms] r B∧H'=H):=by
 refine Ct.go fun R=>?_;refine Qj_ .here (fun h=>netO_open hl) fun ⟨b,base,cap⟩ ⟨hp,h1,h2,h3⟩=>?_;simp only at hp h1 h2 h3;subst hp;dsimp only;unfold inR at hi;refine walk ?_;refine Qb_ rfl fun p1 _=>?_;by_cases h0:i<0
 all_goals
  refine walk ?_;refine finB (ownM H nl nl nl nl Qk_++[netO H (.pointer (some ⟨b,0,none⟩)) ms]) ?_ (hs:=(fun _ h=>?_))
  ·exact v90_
  ·rw [List.append_assoc];exact Zdh_ _ (qai_ _ (Sub.drop (Sub.refl _) _ h))
theorem Qec_ {W0:World} {H H0:Heap} {p:Value} {ms:List Message} {j:Nat} (hl:H0.le H) (hj:j<ms.length):
  Ct Tryz.prog 68 #[p,I j] W0 H [netO H0 p ms] (fun r H' B=>Qbw_ H ms[j] (.bool true) [netO H p ms] r B∧H'=H):=by
 refine Ct.go fun R=>?_;refine Qj_ .here (fun h=>netO_open hl) fun ⟨b,base,cap⟩ ⟨hp,h1,h2,h3⟩=>?_;simp only at hp h1 h2 h3;subst hp;dsimp only;refine walk ?_;refine Qb_ rfl fun p1 _=>?_;refine walk ?_;refine qbp_ rfl rfl rfl hj fun c hc=>?_;refine Za_ rfl rfl (own_spec hc) fun r1 H1 B hl1 ⟨t1,t2,t3,t4,er,eB,eH⟩=>?_;subst er eB eH;refine walk ?_;refine finB (ownM H1 t1 t2 t3 t4 ms[j]++[netO H1 (.pointer (some ⟨b,0,none⟩)) ms]) ?_ (hs:=(fun _ h=>?_))
 ·exact v90_
 ·rw [List.append_assoc];exact (Sub.cons (Sub.cons (Sub.cons (Sub.cons ((Sub.drop (Sub.refl _)).trans qai_))))) _ h
theorem Zcc_ {W0:World} {H:Heap} {b n cap k:Nat} {cs sp:List Value} (hk:k<n) (h1:n≤cap) (h2:cap≤9223372036854775807) (h3:cs.length=n*19) (h4:(cs++sp).length=cap*19) (h5:cs.all (·.oneCell')=true):
  Ct Tryz.prog 69 #[.slice (some ⟨b,0,none⟩) n cap,I k,I (k+1:Int)] W0 H [row b 106 (cs++sp)]
   (fun r H' B=>r= .slice (some ⟨b,0,none⟩) (n - 1) cap∧B=[own 106 19 (.slice (some ⟨b,0,none⟩) (n - 1) cap) (n - 1) (cs.take (k*19)++cs.drop ((k+1)*19))]∧H'=H):=by
 refine Ct.go fun R=>?_;have hspl:sp.length=cap*19 - n*19:=by rw [List.length_append] at h4;omega
 have hfin:∀zs:List Value,zs.length=19→Sub (row b 106 (cs.take (k*19)++cs.drop ((k+1)*19)++zs++sp)::R) ([own 106 19 (.slice (some ⟨b,0,none⟩) (n - 1) cap) (n - 1) (cs.take (k*19)++cs.drop ((k+1)*19))]++R):=by
  intro zs hz;rw [List.append_assoc];refine QE_ ?_ (by omega) h2 ?_
  ·rw [List.length_append,List.length_take,List.length_drop,h3];omega
  ·simp only [List.length_append,List.length_take,List.length_drop,h3,hz,hspl];omega
 by_cases hlast:k+1<cap
 ·refine walk ?_;refine zc_ 6 [] ?_
  (first | refine Qt_ 0 rfl rfl ?_ | refine zm_ 0 rfl rfl rfl ?_ | refine Qh_ 0 rfl rfl rfl ?_);(first | refine Qt_ 1 rfl rfl ?_ | refine zm_ 1 rfl rfl rfl ?_ | refine Qh_ 1 rfl rfl rfl ?_);(first | refine Qt_ 2 rfl rfl ?_ | refine zm_ 2 rfl rfl rfl ?_ | refine Qh_ 2 rfl rfl rfl ?_);(first | refine Qt_ 3 rfl rfl ?_ | refine zm_ 3 rfl rfl rfl ?_ | refine Qh_ 3 rfl rfl rfl ?_);(first | refine Qt_ 4 rfl rfl ?_ | refine zm_ 4 rfl rfl rfl ?_ | refine Qh_ 4 rfl rfl rfl ?_);(first | refine Qt_ 5 rfl rfl ?_ | refine zm_ 5 rfl rfl rfl ?_ | refine Qh_ 5 rfl rfl rfl ?_)
  refine qb_ rfl ?_;refine qI_ rfl rfl (zaX_ (m:=k) (k:=n - (k+1)) (mk:=n - 1) (cs':=cs.take (k*19)++cs.drop ((k+1)*19)++cs.drop ((n - 1)*19)++sp) (news:=cs.drop ((k+1)*19)) rfl rfl (by repeat (first | exact Has.here | apply Has.there)) (ZdL_ (sz:=19) (c:=cap - (k+1)) (by repeat (first | exact Has.here | apply Has.there)) (off:=0+(k+1)*19) (fun j v hj=>?_) ?_ ?_) (by omega) ?_ (by omega) ?_ ?_)
  ·rw [List.getElem?_drop] at hj;rw [Nat.zero_add,List.getElem?_append_left (List.getElem?_eq_some_iff.1 hj).1];exact hj
  ·rw [List.length_drop,h3];omega
  ·simp only [List.all_eq_true] at h5⊢;exact fun x hx=>h5 x (List.mem_of_mem_drop hx)
  ·rw [List.length_drop,h3,Nat.zero_add,List.take_append_of_le_length (by omega),List.drop_append_of_le_length (by omega),←List.append_assoc];congr 3;omega
  ·rw [List.length_drop,List.length_append,h3];omega
  refine walk ?_;refine Zbo_ (qbr_ (m:=1) (cap:=cap - (n - 1)) (off:=0+(n - 1)*19) (congrArg (fun z=>some (Value.slice (some ⟨b,0+(n - 1)*19,none⟩) z (cap - (n - 1)))) (show n - (n - 1)=1 by omega)) (by repeat (first | exact Has.here | apply Has.there)) ?_ (by decide+kernel) fun zs hz=>?_)
  ·simp only [List.length_append,List.length_take,List.length_drop,h3,hspl];omega
  refine walk ?_;refine finB [own 106 19 (.slice (some ⟨b,0,none⟩) (n - 1) cap) (n - 1) (cs.take (k*19)++cs.drop ((k+1)*19))] ?_ (hs:=?_)
  ·exact v119_
  refine Sub.trans ?_ (hfin zs hz);have e:(cs.take (k*19)++cs.drop ((k+1)*19)).length=(n - 1)*19:=by rw [List.length_append,List.length_take,List.length_drop,h3];omega
  have e2:(cs.drop ((n - 1)*19)).length=19:=by rw [List.length_drop,h3];omega
  rw [show (cs.take (k*19)++cs.drop ((k+1)*19)++cs.drop ((n - 1)*19)++sp).take (0+(n - 1)*19)=cs.take (k*19)++cs.drop ((k+1)*19) by
    rw [Nat.zero_add,←e,List.append_assoc,List.take_left],
   show (cs.take (k*19)++cs.drop ((k+1)*19)++cs.drop ((n - 1)*19)++sp).drop (0+(n - 1)*19+1*19)=sp by
    rw [show 0+(n - 1)*19+1*19=(cs.take (k*19)++cs.drop ((k+1)*19)++cs.drop ((n - 1)*19)).length by rw [List.length_append,e,e2];omega,List.drop_left]]
  exact Sub.refl _
 ·have hn:k+1=n:=by omega
  have hc:n=cap:=by omega
  subst hc;subst hn;refine walk ?_;refine zc_ 6 [] ?_
  (first | refine Qt_ 0 rfl rfl ?_ | refine zm_ 0 rfl rfl rfl ?_ | refine Qh_ 0 rfl rfl rfl ?_);(first | refine Qt_ 1 rfl rfl ?_ | refine zm_ 1 rfl rfl rfl ?_ | refine Qh_ 1 rfl rfl rfl ?_);(first | refine Qt_ 2 rfl rfl ?_ | refine zm_ 2 rfl rfl rfl ?_ | refine Qh_ 2 rfl rfl rfl ?_);(first | refine Qt_ 3 rfl rfl ?_ | refine zm_ 3 rfl rfl rfl ?_ | refine Qh_ 3 rfl rfl rfl ?_);(first | refine Qt_ 4 rfl rfl ?_ | refine zm_ 4 rfl rfl rfl ?_ | refine Qh_ 4 rfl rfl rfl ?_)
  refine qaa_ 5 rfl (zH_ (l:=((k:Int)+1)) (h:=((k+1:Nat):Int)) rfl rfl rfl (by omega) (by omega) (by omega)) ?_ (by decide+kernel) (fun _ _ _ h=>h) (.refl _) subA rfl;refine qb_ rfl ?_;refine qI_ rfl rfl (zaX_ (m:=k) (k:=0) (mk:=k) (cs':=cs++sp) (news:=[]) rfl (congrArg some (show slc (some ⟨b,0,none⟩) (k+1) (k+1) (k+1) 19= .slice (some ⟨b,0,none⟩) 0 0 by simp [slc])) (by repeat (first | exact Has.here | apply Has.there)) Zdt_ rfl ?_ (by omega) ?_ ?_)
  ·simp
  ·simp only [List.length_nil,List.length_append,h3];omega
  refine walk ?_;refine Zbo_ (qbr_ (m:=1) (cap:=1) (off:=0+k*19) (congrArg some (show Value.slice (some ⟨b,0+k*19,none⟩) (k+1 - k) (k+1 - k)= .slice (some ⟨b,0+k*19,none⟩) 1 1 by rw [show k+1 - k=1 by omega])) (by repeat (first | exact Has.here | apply Has.there)) ?_ (by decide+kernel) fun zs hz=>?_)
  ·simp only [List.length_append,h3];omega
  refine walk ?_;refine finB [own 106 19 (.slice (some ⟨b,0,none⟩) (k+1 - 1) (k+1)) (k+1 - 1) (cs.take (k*19)++cs.drop ((k+1)*19))] ?_ (hs:=?_)
  ·exact v119_
  refine Sub.trans ?_ (hfin zs hz);have e0:sp=[]:=List.eq_nil_of_length_eq_zero (by rw [hspl];omega);subst e0;have e1:(cs++[]).take (0+k*19)=cs.take (k*19):=by simp
  have e2:(cs++[]).drop (0+k*19+1*19)=[]:=List.drop_eq_nil_of_le (by simp [h3];omega);have e3:cs.drop ((k+1)*19)=[]:=List.drop_eq_nil_of_le (by simp [h3]);rw [e1,e2,e3];simp only [List.append_nil];exact Sub.refl _
def del (ms:List Message) (k:Nat):List Message:=ms.take k++ms.drop (k+1)
theorem qdi_ {ms:List Message} {k:Nat} (hk:k<ms.length):(del ms k).length=ms.length - 1:=by simp [del];omega
theorem netO_ptr {H:Heap} {p:Value} {ms:List Message} {h:Heap} (ho:netO H p ms h):∃b,p= .pointer (some ⟨b,0,none⟩):=by obtain ⟨b,_,h,_⟩:=ho;exact ⟨b,h⟩
theorem deliver_no {W0:World} {H H0:Heap} {p:Value} {ms:List Message} {i:Int} (hl:H0.le H) (hi:¬inR ms i):
  Ct Tryz.prog 38 #[p,I i] W0 H [netO H0 p ms] (fun r H' B=>Qbw_ H Qk_ (I 4) [netO H p ms] r B∧H'=H):=by
 refine Ct.go fun R=>?_;refine walk ?_;refine Qb_ rfl fun p1 _=>?_;refine walk ?_;refine Za_ rfl rfl (Zej_ hl hi) fun r1 H1 B hl1 ⟨⟨t1,t2,t3,t4,er,eB⟩,eH⟩=>?_;subst er eB eH;refine walk ?_;refine Qb_ rfl fun p2 _=>?_;refine walk ?_;refine finB (ownM H1 t1 t2 t3 t4 Qk_++[netO H1 p ms]) ?_;exact v90_
theorem deliver_yes {W0:World} {H H0:Heap} {p:Value} {ms:List Message} {j:Nat} (hl:H0.le H) (hj:j<ms.length):
  Ct Tryz.prog 38 #[p,I j] W0 H [netO H0 p ms] (fun r H' B=>Qbw_ H ms[j] (I 0) [netO H p (del ms j)] r B∧H'=H):=by
 refine Ct.go fun R=>?_;refine qaV_ .here (fun h=>netO_ptr) fun ⟨b0,hp0⟩=>?_;subst hp0;refine walk ?_;refine Qb_ rfl fun p1 _=>?_;refine walk ?_;refine Za_ rfl rfl (Qec_ hl hj) fun r1 H1 B hl1 ⟨⟨t1,t2,t3,t4,er,eB⟩,eH⟩=>?_;subst er eB eH;refine walk ?_;refine Qb_ rfl fun p2 _=>?_;refine walk ?_;refine qo_ (A:=netO H1 (.pointer (some ⟨b0,0,none⟩)) ms) (by repeat (first | exact Has.here | apply Has.there)) (fun h=>netO_open (.refl _)) fun ⟨b,base,cap⟩ ⟨hp,h1,h2,h3⟩=>?_;simp only at hp h1 h2 h3
 cases hp
 dsimp only;refine Qal_ (.slice base ms.length cap) (by omega) fun b2 cap2 cs sp e q1 q2 q3 q4 q5 q6=>?_
 cases e
 refine walk ?_;refine Za_ rfl rfl (Zcc_ hj q1 q2 q3 q4 q5.one) fun r2 H2 B hl2 hB=>?_;obtain ⟨er,eB,eH⟩:=hB;subst er eB eH;refine walk ?_;refine finB (ownM H2 t1 t2 t3 t4 ms[j]++[netO H2 (.pointer (some ⟨b0,0,none⟩)) (del ms j)]) ?_ (hs:=?_)
 ·exact v90_
 ·have hd:RL Qa_ H2 (cs.take (j*19)++cs.drop ((j+1)*19)) (del ms j):=(q5.take (by omega)).app (q5.drop (by omega))
  have hk:Sub (own 106 19 (.slice (some ⟨b2,0,none⟩) (ms.length - 1) cap) (ms.length - 1) (cs.take (j*19)++cs.drop ((j+1)*19))::row b0 156 [.slice (some ⟨b2,0,none⟩) (ms.length - 1) cap]::R) (netO H2 (.pointer (some ⟨b0,0,none⟩)) (del ms j)::R):=by
   rw [←qdi_ hj];exact (QK_ hd (by rw [qdi_ hj];simp only [zb_] at q6⊢;omega)).trans netO_shut'
  rw [List.append_assoc];refine Sub.trans ?_ (Sub.cons (Sub.cons (Sub.cons (Sub.cons hk))));exact subA
theorem ops_frzM {P:Program} {n:Nat} {W0:World} {Q:Exit→Act→World→Prop} {F:zd_} {H H0:Heap} {L L1 L2 L3 L4:List za_} {ops:Array Oper} {rest:List Oper} {k:List Fr} (t1 t2 t3 t4:Option Addr×Nat) (m:Message)
  [h1:HasS L (sl t1 m.Work.Take) ByteArray rStr 1 16 9 H0 m.Work.Take L1] [h2:HasS L1 (sl t2 m.Work.Drop) ByteArray rStr 1 16 9 H0 m.Work.Drop L2] [h3:HasS L2 (sl t3 m.Call.Route.Cells) Int rInt 1 8 3 H0 m.Call.Route.Cells L3] [h4:HasS L3 (sl t4 m.Reply.Route.Cells) Int rInt 1 8 3 H0 m.Reply.Route.Cells L4] (hm:okM m)
  (h:∀H',H.le H'→Qa_ H' (cvM t1 t2 t3 t4 m) m→Ops P n W0 Q F H' L4 false ops rest k) (hl:H0.le H:=by repeat (first | exact Go.Sx.Heap.le.refl _ | assumption | refine Go.Sx.Heap.le.trans ?_ ‹Go.Sx.Heap.le _ _›)):Ops P n W0 Q F H L false ops rest k:=by
 obtain ⟨f1,f2,f3,⟨f4,f5,f6⟩,f7,f8,f9,f10,f11,f12,f13,f14⟩:=hm;refine Zd_ (sl t1 m.Work.Take) fun H1 g1 q1=>?_;refine Zd_ (sl t2 m.Work.Drop) fun H2 g2 q2=>?_;refine Zd_ (sl t3 m.Call.Route.Cells) fun H3 g3 q3=>?_;refine Zd_ (sl t4 m.Reply.Route.Cells) fun H4 g4 q4=>?_;exact h H4 (g1.trans (g2.trans (g3.trans g4))) ⟨_,_,_,_,rfl,f1,f2,f3,f4,f5,f6,f7,q1.mono (g2.trans (g3.trans g4)),q2.mono (g3.trans g4),f8,f9,f10,f11,q3.mono g4,f12,f13,f14,q4⟩
theorem rMessage_ok {H:Heap} {c:List Value} {m:Message} (h:Qa_ H c m):okM m:=by
 obtain ⟨_,_,_,_,_,f1,f2,f3,f4,f5,f6,f7,h1,h2,f8,f9,f10,f11,h3,f12,f13,f14,h4⟩:=h;exact ⟨f1,f2,f3,⟨f4,f5,f6⟩,f7,f8,f9,f10,f11,f12,f13,f14⟩
theorem netO_ok {H:Heap} {p:Value} {ms:List Message} {h:Heap} (ho:netO H p ms h):∀m∈ms,okM m:=by
 obtain ⟨b,s,_,hb⟩:=ho;obtain ⟨_,_,_,⟨_,_,⟨cs,⟨hr,_⟩,_⟩,_⟩,_⟩:=hb;exact RL.all (fun _ _ _ h=>rMessage_ok h) hr
def clr (to:Int) (ms:List Message):List Message:=ms.filter fun m=> !decide (m.To=to)
theorem netO_up {H H':Heap} {p:Value} {ms:List Message} {L:List za_} (hl:H.le H'):Sub (netO H p ms::L) (netO H' p ms::L):=fun h ⟨h1,h2,ho,q,d,l1,l2⟩=>by
 obtain ⟨x,⟨hp,_⟩,hb⟩:=netO_open hl ho;exact ⟨h1,h2,⟨x.1,_,hp,hb⟩,q,d,l1,l2⟩
end Go.Proofs.YtlflbkpmfhhikaaGreatDoor.Net
