/- Does the world tell what the document's does? -/
import Derived.Test.YtlflbkpmfhhikaaGreatDoorKE44
import Derived.Test.YtlflbkpmfhhikaaGreatDoorKMD
import Derived.Test.YtlflbkpmfhhikaaGreatDoorKTX
import Derived.Test.YtlflbkpmfhhikaaGreatDoorKWC
import Derived.Test.YtlflbkpmfhhikaaGreatDoorKXL
import Derived.Test.YtlflbkpmfhhikaaGreatDoorKYA
import Derived.Test.YtlflbkpmfhhikaaGreatDoorKYI
import Derived.Test.YtlflbkpmfhhikaaGreatDoorKZN
set_option linter.unusedVariables false
set_option linter.unusedSimpArgs false
namespace Go.Proofs.YtlflbkpmfhhikaaGreatDoor
open Go Go.Sx Go.Proofs
def Quiet (w:PW):Prop:=∀x t,(absW w).st x=some t→t.op=true
def PU (a:AS) (x:Txn) (p:Int):Prop:=∃t,a.st x=some t∧t.op=true∧p∈t.ps∧t.hd p=false
def PV (a:AS) (x:Txn) (p:Int):Prop:=a.wk p x≠none
theorem Quiet.op {n K:Nat} {B:List BT} {w:PW} (I:WInv n K B w) (Q:Quiet w) {i:Nat} (h:i<w.ns.length):∀k t,mget k w.ns[i].cs.ts=some t→t.op=true:=fun k t hg=>by
 have hn:(toTx k).Node=i:=by rw [←(I.N.sh i h).2];exact ((I.N.C i h).kn k t hg).1
 exact Q (toTx k) (viewT t) (by rw [Zba_ h hn,ZV_,hg];rfl)
theorem PU.node {n K:Nat} {B:List BT} {w:PW} (I:WInv n K B w) {x:Txn} {p:Int} (h:PU (absW w) x p):∃(i:Nat) (_:i<w.ns.length),x.Node=i:=by
 obtain ⟨t,ht,_⟩:=h;obtain ⟨b,hb,e,_⟩:=I.S.sb x t ht;obtain ⟨i,hi,h1,_⟩:=I.bx b hb;exact ⟨i,hi,by rw [←e];exact h1⟩
theorem PV.node {n K:Nat} {B:List BT} {w:PW} (I:WInv n K B w) {x:Txn} {p:Int} (h:PV (absW w) x p):∃(i:Nat) (_:i<w.ns.length),p=i:=by
 obtain ⟨u,hu⟩:=Option.ne_none_iff_exists'.1 h;have:=I.part (I.S.wb _ _ _ hu).pt;have hl:=I.len;exact ⟨p.toNat,by omega,by omega⟩
inductive Dels (m:Nat) (w:PW):Nat→PW→Prop
  | nil:Dels m w 0 w
  | more {j:Nat} {w' w'':PW} {e:Int} (h:Dels m w j w') (hn:w'.net≠[]) (hp:PPlay m w' 2 0 [] w'' e):Dels m w (j+1) w''
def RoundR (m:Nat) (w w':PW):Prop:=∃w1 w2 w3 w4 e1 e2 e3 e4,PPlay m w 6 8 [] w1 e1∧PPlay m w1 5 0 [] w2 e2∧PPlay m w2 5 1 [] w3 e3∧PPlay m w3 5 2 [] w4 e4∧∃j,Dels m w4 j w'∧(j=2000∨w'.net=[])
inductive Rounds (m:Nat) (w:PW):Nat→PW→Prop
  | nil:Rounds m w 0 w
  | more {k:Nat} {w' w'':PW} (h:Rounds m w k w') (hr:RoundR m w' w''):Rounds m w (k+1) w''
theorem PPlay.nowUp {m:Nat} {w w':PW} {k a e:Int} {works:List Work} (h:PPlay m w k a works w' e):w.now≤w'.now∧(k≠6→w'.now=w.now):=by
 cases h with
 | deliver h1 j ha hj w1 out hh=>cases hh<;>exact ⟨Int.le_refl _,fun _=>rfl⟩
 | fail h1 j ha hj w1 w2 out hh i hi hc=>cases hc;cases hh<;>exact ⟨Int.le_refl _,fun _=>rfl⟩
 | crash h1 i ha hi _ hc=>cases hc;exact ⟨Int.le_refl _,fun _=>rfl⟩
 | tick hk h0 h=>exact ⟨by simp only;omega,fun h=>absurd hk h⟩
 | _=>exact ⟨Int.le_refl _,fun _=>rfl⟩
theorem Dels.now {m:Nat} {w w':PW} {j:Nat} (h:Dels m w j w'):w.now≤w'.now:=by
 induction h with
 | nil=>exact Int.le_refl _
 | more _ _ hp ih=>exact Int.le_trans ih hp.nowUp.1
theorem RoundR.now {m:Nat} {w w':PW} (h:RoundR m w w'):w.now≤w'.now:=by
 obtain ⟨w1,w2,w3,w4,e1,e2,e3,e4,p1,p2,p3,p4,j,hd,_⟩:=h;have:=p1.nowUp.1;have:=p2.nowUp.1;have:=p3.nowUp.1;have:=p4.nowUp.1;have:=hd.now;omega
theorem Rounds.now {m:Nat} {w w':PW} {k:Nat} (h:Rounds m w k w'):w.now≤w'.now:=by
 induction h with
 | nil=>exact Int.le_refl _
 | more _ hp ih=>exact Int.le_trans ih hp.now
theorem zB_ {H H':Heap} {p:Nat} {w:PW} {L:List za_} (hl:H.le H'):Sub (Zc_ H p w::L) (Zc_ H' p w::L):=fun h ⟨h1,h2,⟨nv,nb,lv,es,hb,hn⟩,r⟩=>by
 have:=zC_ (L:=[]) (H':=H') hn hl hl hl hl h1 hb;obtain ⟨g1,g2,a,_,_,l1,l2⟩:=this;obtain ⟨nv',nb',lv',es',hb',hn'⟩:=a;exact ⟨h1,h2,⟨nv',nb',lv',es',Go.Sx.big_mono l1 hb',hn'⟩,r⟩
theorem zdO_ {H:Heap} {v:Value} {l:List Work} (h:SlR Qi_ 3 H v l):∀x∈ownP l,OkW x:=fun x hx=>by
 unfold ownP at hx;obtain ⟨y,hy,rfl⟩:=List.mem_map.1 hx;obtain ⟨c,s1,s2,rfl,hr,g1,g2⟩:=zaZ_ h (List.mem_of_mem_take hy);refine ⟨by show (y.Take.take 20).length≤40;rw [List.length_take];omega,by show (y.Drop.take 20).length≤40;rw [List.length_take];omega,hr,fun k hk=>?_⟩;have hk2:k∈y.Take.take 20++y.Drop.take 20:=hk;rcases List.mem_append.1 hk2 with hk2 | hk2
 ·obtain ⟨c,_,hc⟩:=zaZ_ g1.1 (List.mem_of_mem_take hk2);exact hc
 ·obtain ⟨c,_,hc⟩:=zaZ_ g2.1 (List.mem_of_mem_take hk2);exact hc
theorem Agr.at {l:List PactNote} (h:Agr l) {i:Nat} (hi:i<l.length) (hk:l[i].Rec.Kind=3) (hf:Qdj_ (l.take i) l[i]):(l[i].Rec.Yes=true→com (l.take i) l[i].Rec.Txn)∧(l[i].Rec.Yes=false→¬com l l[i].Rec.Txn):=
 h (l.take i) l[i] (l.drop (i+1)) (by rw [←List.drop_eq_getElem_cons hi,List.take_append_drop]) hk hf
theorem Zcr_ {H:Heap} {b off k:Nat} {cs us:List Value} (h:HRow H b off cs) (hu:∀i v,us[i]?=some v→cs[k+i]?=some v):HRow H b (off+k) us:=fun i v hi=>by rw [Nat.add_assoc];exact h _ _ (hu i v hi)
end Go.Proofs.YtlflbkpmfhhikaaGreatDoor
namespace Go.Proofs.YtlflbkpmfhhikaaGreatDoor
open Go Go.Sx Go.Proofs
end Go.Proofs.YtlflbkpmfhhikaaGreatDoor
namespace Go.Proofs.YtlflbkpmfhhikaaGreatDoor
open Go Go.Sx Go.Proofs
theorem WInv.ts {n K:Nat} {B:List BT} {w:PW} (I:WInv n K B w):∀q∈w.ns,TsOk q.ps.t:=fun q hq=>by
 obtain ⟨i,h,rfl⟩:=List.getElem_of_mem hq;exact (I.N.P i h).t.ok (by have:=I.k3;omega)
inductive Steps (m:Nat) (w:PW):Nat→PW→Prop
  | nil:Steps m w 0 w
  | more {j:Nat} {w' w'':PW} {e:Int} (h:Steps m w j w') (hp:PPlay m w' 5 j [] w'' e):Steps m w (j+1) w''
theorem WInv.pl7 {n K:Nat} {B:List BT} {w:PW} (I:WInv n K B w) (hl:w.log.length≤900000000):∀q∈w.ns,∀k t,mget k q.cs.ts=some t→t.parts.length*8≤zb_:=fun q hq k t hg=>by
 have:=(I.ok hl).pl q hq k t hg;unfold zb_;omega
end Go.Proofs.YtlflbkpmfhhikaaGreatDoor
set_option maxHeartbeats 16000000
set_option maxRecDepth 100000
namespace Go.Proofs.YtlflbkpmfhhikaaGreatDoor
open Go Go.Sx Go.Proofs
theorem mv12 {j:Nat} (hj:j<mvA.length):mvA[j].Kind=1∨mvA[j].Kind=2:=by
 have h:∀m∈mvA,m.Kind=1∨m.Kind=2:=fun m hm=>by
  simp only [mvA,List.mem_cons,List.not_mem_nil,or_false] at hm;rcases hm with rfl | rfl | rfl | rfl | rfl<;>simp
 exact h _ (List.getElem_mem hj)
theorem Qbb_ {m:Move} (k12:m.Kind=1∨m.Kind=2) {W0:World} {H:Heap} {p n K:Nat} {s:Value} {B:List BT} {w:PW} (hP:PkH H) (I:WInv n K B w) (hll:w.log.length≤800000000) (hs:SlB Qi_ 3 56 H s m.Works) (hk:fits m.Kind) (ha:fits m.A):
  Ct Tryz.prog 14 #[ptrC p,.agg (m.cv s).toArray] W0 H [Zc_ H p w] (fun r H' B=>zcC_ (K+1) H' p w m r B):=by
 have KW:WOk K w:=I.ok (by omega);have hn:=I.k3;have hnow:=I.now;have hlen:=I.len;have hn4:=I.n4;have up:∀{r H' B},zcC_ K H' p w m r B→zcC_ (K+1) H' p w m r B:=fun ⟨w',e,h,h2⟩=>⟨w',e,h.more (Nat.le_succ K),h2⟩;by_cases hb:okMv w m.Kind m.A m.Works.length
 case neg=>exact (Zdx_ (n:=K+1) hs hnow hk ha hb)
 have hms:∀g∈w.net,OkM g∧qt_ w g.To:=fun g hg=>I.msg (I.J g hg);rcases k12 with k1 | k2
 ·obtain ⟨hi,hwl⟩:qt_ w m.A∧m.Works.length≤w.ns.length:=by
   rcases hb with ⟨_,h⟩ | ⟨h,_⟩ | ⟨h,_⟩ | h | h | h | h
   ·exact h
   all_goals omega
  obtain ⟨i,hai⟩:∃i:Nat,m.A=i:=⟨m.A.toNat,by unfold qt_ at hi;omega⟩;exact (qcC_ KW hs hnow hk ha k1 hai (by unfold qt_ at hi;omega) hwl (by omega)).mono fun r H' B _ h=>up h
 ·exact ZbK_ hP KW (by omega) (by omega) hms hs hnow hk ha k2
theorem WInv.playS {n K m:Nat} {B:List BT} {w w':PW} {k a e:Int} {works:List Work} (I:WInv n K B w) (k12:k=1∨k=2) (hK:K<300) (hok:∀x∈works,OkW x) (h:PPlay m w k a works w' e):∃B',WInv n (K+1) B' w'∧(B'=B∨((k=1∧e=0)∧∃b,B'=b::B∧b.ws=works0 0 works)):=by
 cases h with
 | bad=>exact ⟨B,I.more (Nat.le_succ K) hK,.inl rfl⟩
 | begin h1 i ha hi hn ws hw=>
  obtain ⟨B',h2,h3⟩:=I.begin hK hi hn hok hw (fun g hg=>QbM_ hg) (ZbM_ I.nl);refine ⟨B',h2,h3.imp id fun ⟨hne,hb⟩=>⟨⟨h1,if_neg hne⟩,_,hb,rfl⟩⟩
 | none=>exact ⟨B,I.more (Nat.le_succ K) hK,.inl rfl⟩
 | deliver h1 j ha hj w1 out hh=>
  have I1:WInv n K B {w with net:=delM w.net j}:=I.less (fun g hg=>Zcq_ hg) (Nat.le_trans qcr_ I.nl);have hnet:w1.net=delM w.net j:=by cases hh<;>rfl
  have I2:=I1.hear (nt:=Qv_ w1.net out) (I.J _ (List.getElem_mem hj)) hh (fun g hg=>by rw [hnet] at hg;exact QbM_ hg) (ZbM_ (by rw [hnet];exact I1.nl));exact ⟨B,I2.more (Nat.le_succ K) hK,.inl rfl⟩
 | fail h1=>omega
 | drop h1=>omega
 | copy h1=>omega
 | full h1=>omega
 | step h1=>omega
 | tick h1=>omega
 | crash h1=>omega
theorem zbO_ {W0:World} {H:Heap} (hP:PkH H):
  Ct Tryz.prog 10 #[] W0 H [] (fun r H' B=>r= .bool true∧B=[]):=by
 refine Ct.go (vs:=[]) fun R=>?_;have hf1:fits (1:Int):=by unfold fits;omega
 have hf2:fits (2:Int):=by unfold fits;omega
 refine walk ?_;refine Za_ rfl rfl (zbK_ (W0:=W0) (H:=H) (nodes:=2)) fun r1 H1 B hl1 hq=>?_;obtain ⟨h,_⟩ | ⟨n,p,hn,_,er,eB⟩:=hq
 ·exact absurd ⟨by decide,by decide⟩ h
 obtain rfl:n=2:=by omega
 subst er eB;refine walk ?_;refine qI_ rfl rfl (Ze_ rfl rfl rfl fun b9=>?_);refine walk ?_;refine qI_ rfl rfl (Ze_ rfl rfl rfl fun b10=>?_);refine walk ?_;refine zr_ (L':=row b9 9 [.string kaW]::row b10 9 [.string kbW]::Zc_ H1 p (newW 2)::R) subA ?_;refine zL_ .here fun H2 hl2 hr2=>?_;refine zL_ .here fun H3 hl3 hr3=>?_;have hsa:SlB rStr 1 16 H3 (.slice (some ⟨b9,0,none⟩) 1 1) [kaW]:=⟨Qn_ (R:=rStr) (xs:=[kaW]) (hr2.mono hl3) ⟨[.string kaW],[],rfl,⟨rfl,by decide⟩,rfl⟩ (by simp) (by omega),by decide⟩;have hsb:SlB rStr 1 16 H3 (.slice (some ⟨b10,0,none⟩) 1 1) [kbW]:=⟨Qn_ (R:=rStr) (xs:=[kbW]) hr3 ⟨[.string kbW],[],rfl,⟨rfl,by decide⟩,rfl⟩ (by simp) (by omega),by decide⟩;refine Zde_ (sz:=3) [[I 1,.slice (some ⟨b9,0,none⟩) 1 1,nilS],[I 1,.slice (some ⟨b10,0,none⟩) 1 1,nilS]] rfl rfl ⟨⟨rfl,rfl⟩,⟨rfl,rfl⟩,trivial⟩ (fun pb _=>?_);refine zL_ .here fun H4 hl4 hr4=>?_;have hwa:Qi_ H4 [I 1,.slice (some ⟨b9,0,none⟩) 1 1,nilS] aW:=⟨_,_,rfl,hf1,hsa.mono hl4,SlB.nil⟩;have hwb:Qi_ H4 [I 1,.slice (some ⟨b10,0,none⟩) 1 1,nilS] bW:=⟨_,_,rfl,hf1,hsb.mono hl4,SlB.nil⟩;have hsw:SlB Qi_ 3 56 H4 (.slice (some ⟨pb,0,none⟩) 2 2) [aW,bW]:=⟨Qn_ (R:=Qi_) (xs:=[aW,bW]) hr4 ⟨_,_,rfl,hwa,⟨_,[],rfl,hwb,rfl⟩⟩ (by simp) (by omega),by decide⟩;refine walk ?_;refine Zde_ (sz:=3) [[I 1,I 0,.slice (some ⟨pb,0,none⟩) 2 2],[I 2,I 0,nilS],[I 2,I 0,nilS],[I 2,I 0,nilS],[I 2,I 0,nilS]] rfl rfl ⟨⟨rfl,rfl⟩,⟨rfl,rfl⟩,⟨rfl,rfl⟩,⟨rfl,rfl⟩,⟨rfl,rfl⟩,trivial⟩ (fun pm _=>?_);refine zL_ .here fun H5 hl5 hr5=>?_;have hma:QcW_ H5 [I 1,I 0,.slice (some ⟨pb,0,none⟩) 2 2] ⟨1,0,[aW,bW]⟩:=⟨_,rfl,hf1,Zg_,hsw.mono hl5⟩;have hmd:QcW_ H5 [I 2,I 0,nilS] ⟨2,0,[]⟩:=⟨_,rfl,hf2,Zg_,SlB.nil⟩;have hsm:SlR QcW_ 3 H5 (.slice (some ⟨pm,0,none⟩) 5 5) mvA:=Qn_ (R:=QcW_) (xs:=mvA) hr5 ⟨_,_,rfl,hma,_,_,rfl,hmd,_,_,rfl,hmd,_,_,rfl,hmd,_,[],rfl,hmd,rfl⟩ (by simp [mvA]) (by omega);refine zr_ (L':=Zc_ H5 p (newW 2)::R) ?_ ?_
 ·refine Sub.trans (B:=Zc_ H1 p (newW 2)::R) subA ?_;exact zB_ (hl2.trans (hl3.trans (hl4.trans hl5)))
 have hlH:H.le H5:=hl1.trans (hl2.trans (hl3.trans (hl4.trans hl5)));refine walk ?_
 refine Qc_ (σ:=Nat×PW×Heap) (fun u=>(u.1≤5∧AtA u.1 u.2.1∧(∃B,WInv 2 u.1 B u.2.1)∧u.2.1.log.length≤u.1)∧H5.le u.2.2) (fun u=>[(1,ptrC p),(25,.slice (some ⟨pm,0,none⟩) 5 5),(26,I 5),(27,I u.1)]) (fun u=>u.2.2)
  (fun u=>Zc_ u.2.2 p u.2.1::R) (fun u=>5 - u.1) (0,newW 2,H5) ⟨⟨Nat.zero_le _,rfl,⟨[],QdO_ (by decide)⟩,Nat.le_refl _⟩,.refl _⟩ fun ⟨j,w,HK⟩ ⟨⟨hj0,hA,⟨B0,I0⟩,hlg⟩,hlK⟩ K hL=>?_
 simp only at hj0 hA I0 hlg hlK;dsimp only;by_cases hj1:j<5
 ·have hj2:(j:Int)<5:=by omega
  have hj3:j<mvA.length:=hj1;refine walk ?_;obtain ⟨q1,q2,c,q3,q4,q5,hc⟩:=(hsm.mono hlK).get hj3
  cases q3
  obtain ⟨s1,ec,hk1,hk2,hk3⟩:=hc;subst ec;obtain ⟨sb,sc,rfl,_,_⟩:=hk3.1.shape;refine zg_ rfl rfl q5 rfl ?_;refine walk ?_;refine Qb_ rfl fun p4 _=>?_;refine walk ?_;refine Za_ rfl rfl (Qbb_ (mv12 hj3) (W0:=W0) (H:=HK) (p:=p) (m:=mvA[j]) (hP.mono (hlH.trans hlK)) I0 (by omega) hk3 hk1 hk2) fun r2 H6 B hl6 ⟨w',e,hp,er,eB⟩=>?_;obtain ⟨rfl,hA'⟩:=hA.next hj3 hp;subst er eB;refine walk ?_;obtain ⟨B',I1,_⟩:=I0.playS (mv12 hj3) (by omega) (Qee_ hj3) hp;exact Zb_ hL (j+1,w',H6) ⟨⟨by simp only;omega,hA',⟨B',I1⟩,by have:=hp.log;simp only;omega⟩,hlK.trans hl6⟩
 ·obtain rfl:j=5:=by omega
  clear hL;obtain ⟨c1,c2,d,d',rfl⟩:∃c1 c2 d d',w=W5 (tW c1 c2) d d':=hA;refine walk ?_;refine Za_ rfl rfl (ZaK_ (W0:=W0) (H:=HK) (p:=p) (w:=W5 (tW c1 c2) d d')) fun r2 H6 B hl6 ⟨er,eB,eH⟩=>?_;subst er eB eH;rw [show (W5 (tW c1 c2) d d').net.length=2 from rfl];refine walk ?_;refine Za_ rfl rfl (ZbJ_ (W0:=W0) (H:=H6) (p:=p) (w:=W5 (tW c1 c2) d d') (by show 3*128≤zb_;decide)) fun r3 H7 B hl7 eB=>?_;subst eB;refine qq_ r3 fun d3 e3 e _ _ _=>?_;rw [show (W5 (tW c1 c2) d d').log.length=3 from rfl] at e;subst e;refine walk ?_
  have hpl:∀q∈(W5 (tW c1 c2) d d').ns,∀k t,mget k q.cs.ts=some t→t.parts.length*8≤zb_:=fun q hq k t hk=>by
   simp only [W5,List.mem_cons,List.not_mem_nil,or_false] at hq;rcases hq with rfl | rfl
   ·simp only [cW,mget] at hk;split at hk
    ·cases hk;show 2*8≤zb_;decide
    ·cases hk
   ·cases hk
  have hol:(QbL_ (W5 (tW c1 c2) d d') 0).length=1:=by
   have hs1:allC (cW (Zav_ (tW c1 c2)))=[(0,1,1)]:=List.perm_singleton.1 (by unfold allC sort3;exact List.mergeSort_perm ..);show (openL (cW (Zav_ (tW c1 c2)))).length=1;unfold openL;rw [hs1];rfl
  refine Za_ rfl rfl (Zbj_ (W0:=W0) (H:=H7) (p:=p) (n:=5) (w:=W5 (tW c1 c2) d d') (a:=0) (I0.ok (by omega)).c (by omega) hpl) fun r4 H8 B hl8 eB=>?_;subst eB;refine qq_ r4 fun d4 e4 e _ _ _=>?_;rw [hol] at e;subst e;refine walk ?_;refine fin0 ?_;exact ⟨rfl,rfl⟩
theorem WRel.telV {n K:Nat} {B:List BT} {w:PW} {x:RW} (I:WInv n K B w) (R:WRel w x) {i:Nat} (hi:i<w.ns.length) (hc:i<x.Coords.length) (hp:i<x.Parts.length):
  Qau_ w i=(x.Coords[i].Txns.filter fun t=> !t.Open).map (·.X)∧QbL_ w i=openRL x.Coords[i].Txns∧ZaZ_ w i=x.Parts[i].T.Held∧zcb_ w i=x.Parts[i].T.Prep:=by
 have hn:=zbv_ hi;have r:=R.c i hi hc;have q:=R.p i hi hp;have IC:=I.N.C i hi;have IP:=I.N.P i hi;unfold Qau_ QbL_ ZaZ_ zcb_;rw [hn];exact ⟨r.voting IC,(r.open IC).trans (qby_).symm,q.r.held IP.t,q.r.prep IP.t⟩
theorem Qcd_ {W0:World} {H:Heap} {p n K:Nat} {B0:List BT} {w:PW} {x:RW} {c:List Value} (IW:WInv n K B0 w) (hl:w.log.length≤800000000) (Rl:WRel w x) (h0:rW17 H c x):
  Ct Tryz.prog 24 #[ptrC p,.agg c.toArray] W0 H [Zc_ H p w] (fun r H' B=>r= .bool true∧B=[Zc_ H' p w]):=by
 refine Ct.go (vs:=[ptrC p,.agg c.toArray]) fun R=>?_;have h00:=h0;obtain ⟨⟨b1,c1⟩,⟨b2,c2⟩,⟨b3,c3⟩,⟨b4,c4⟩,rfl,h1,h2,h3,h4,h5⟩:=Zo_ h0;have hok:=Rl.ok IW (by omega);have hpl:=Rl.pl;have hcl:=Rl.cl;have hts:=IW.ts;have hcs:=(IW.ok (by omega)).c;have hpl7:=IW.pl7 (by omega);have hK3:=IW.k3;have hlen:=IW.len;have hn4:=IW.n4;refine walk ?_;refine qc_ rfl rfl fun p3 _=>?_;refine walk ?_;refine zc_ 13 [row p3 65 (RWc (b1,c1) (b2,c2) (b3,c3) (b4,c4) x)] ?_;refine qa_ 0 ?_;refine qa_ 2 ?_;refine qa_ 3 ?_;refine ze_ 1 rfl rfl rfl (zdg_ (W0:=W0) (H:=H) (p:=p) (w:=w)) fun r1 H1 B hl1 ⟨er,eB,eH⟩=>?_;subst er eB eH;refine ⟨subA,?_⟩;refine qa_ 4 ?_;refine qa_ 5 ?_;rw [decide_eq_false (p:=¬w.now=x.Now) (fun h=>h Rl.now.symm)];refine qa_ 6 ?_;refine qa_ 8 ?_;refine qa_ 9 ?_;refine qa_ 10 ?_;refine ze_ 7 rfl rfl rfl (ZaK_ (W0:=W0) (H:=H1) (p:=p) (w:=w)) fun r7 H7 B hl7 ⟨er,eB,eH⟩=>?_;subst er eB eH;refine ⟨subA,?_⟩;refine qa_ 11 ?_;rw [decide_eq_false (p:=¬(w.net.length:Int)=(x.Net.length:Int)) (fun h=>h (by rw [Rl.net]))];refine qa_ 12 ?_;refine qb_ rfl ?_;refine walk ?_
 refine Qc_ (σ:=Nat×Heap) (fun u=>u.1≤x.Parts.length∧H7.le u.2) (fun u=>[(0,ptrC p),(3,.pointer (some ⟨p3,0,none⟩)),(5,I u.1)]) (fun u=>u.2)
  (fun u=>Zc_ u.2 p w::row p3 65 (RWc (b1,c1) (b2,c2) (b3,c3) (b4,c4) x)::R) (fun u=>x.Parts.length - u.1) (0,H7) ⟨Nat.zero_le _,.refl _⟩ fun ⟨i,HK⟩ ⟨hi0,hlK⟩ K1 hL=>?_
 simp only at hi0 hlK;dsimp only;by_cases hi1:i<x.Parts.length
 ·have hi2:(i:Int)<(x.Parts.length:Int):=by omega
  have hiw:i<w.ns.length:=by omega
  have hic:i<x.Coords.length:=by omega
  obtain ⟨tv,to,th,tp⟩:=Rl.telV IW hiw hic hi1;have hcok:=hok.c _ (List.getElem_mem hic);have hpok:=hok.p _ (List.getElem_mem hi1);obtain ⟨q,hq⟩:∃q,x.Coords[i]=q:=⟨_,rfl⟩;obtain ⟨pq,hpq⟩:∃pq,x.Parts[i]=pq:=⟨_,rfl⟩;rw [hq] at tv to hcok;rw [hpq] at th tp hpok;refine walk ?_;refine Za_ rfl rfl (ZbL_ (W0:=W0) (H:=HK) (p:=p) (n:=_) (w:=w) (a:=i) hcs (by omega)) fun r5 H5 B hl5 eB=>?_;subst eB;rw [tv];refine Zd_ r5 fun H6 hl6 hsv=>?_;obtain ⟨bv,cv,rfl,hcv,hdv⟩:=hsv.1.shape;refine zr_ (L':=Zc_ H6 p w::row p3 65 (RWc (b1,c1) (b2,c2) (b3,c3) (b4,c4) x)::R) ?_ ?_
  ·refine Sub.trans (B:=Zc_ H5 p w::row p3 65 (RWc (b1,c1) (b2,c2) (b3,c3) (b4,c4) x)::R) subA ?_;exact zB_ hl6
  have hl36:H7.le H6:=hlK.trans (hl5.trans hl6);refine walk ?_;refine qe_ rfl rfl (h2.mono hl36).1 hic fun ba oa ca hra hca=>?_;rw [hq] at hca;obtain ⟨s1,rfl,e1,e2,e3,e4⟩:=hca;obtain ⟨bt,ct,rfl,hct,hdt⟩:=e4.1.shape;change HRow H6 ba oa [I q.Node,I q.Life,I q.Count,.slice bt q.Txns.length ct] at hra;refine walk ?_;obtain ⟨l,hl0⟩:∃l,q.Txns=l:=⟨_,rfl⟩;rw [hl0] at hsv hcv hct tv;have hs2:=e4.1;rw [hl0] at hs2;rw [hl0];have hfl:∀k,((l.take k).filter fun t=> !t.Open).length≤k:=fun k=>Nat.le_trans (List.length_filter_le _ _) (by rw [List.length_take];exact Nat.min_le_left _ _);have hln:l.length≤300:=by rw [←hl0];exact hcok.2.2.1
  refine Qc_ (σ:=Nat) (fun k=>k≤l.length) (fun k=>[(0,ptrC p),(3,.pointer (some ⟨p3,0,none⟩)),(5,I i),(6,.slice bv ((l.filter fun t=> !t.Open).map (·.X)).length cv),(7,I ((l.take k).filter fun t=> !t.Open).length),(38,.slice bt l.length ct),(39,I l.length),(40,I k)]) (fun _=>H6) (fun _=>Zc_ H6 p w::row p3 65 (RWc (b1,c1) (b2,c2) (b3,c3) (b4,c4) x)::R) (fun k=>l.length - k) 0 (Nat.zero_le _) fun k hk0 K2 hL2=>?_;have hfk:=hfl k;by_cases hk1:k<l.length
  ·have hk2:(k:Int)<(l.length:Int):=by omega
   have ht:=List.take_succ_eq_append_getElem hk1;refine walk ?_;refine qe_ rfl rfl hs2 hk1 fun b o cc hr hc=>?_;obtain ⟨y,hle⟩:∃y,l[k]=y:=⟨_,rfl⟩;rw [hle] at hc;obtain ⟨⟨x1,x2,x3⟩,op,bg,ps,wk,hd⟩:=y;obtain ⟨u1,u2,u3,rfl,g1,g2,g3,g4,g5,g6,g7⟩:=hc;obtain ⟨m1,n1,rfl,_,_⟩:=g5.1.shape;obtain ⟨m2,n2,rfl,_,_⟩:=g6.1.shape;obtain ⟨m3,n3,rfl,_,_⟩:=g7.1.shape;dsimp only at g1 g2 g3;refine zg_ rfl rfl hr rfl ?_;refine Qb_ rfl fun p9 _=>?_;refine walk ?_;refine QI_ rfl Iff.rfl (fun hq=>?_) (fun hq=>?_)
   rotate_left
   ·have hqt:op=true:=by simpa using hq
    have he:((l.take (k+1)).filter fun t=> !t.Open)=(l.take k).filter fun t=> !t.Open:=by
     rw [ht,hle,List.filter_append];simp [hqt]
    rw [←he];refine walk ?_;exact Zb_ hL2 (k+1) (by omega)
   have hqf:op=false:=by simpa using hq
   have he:((l.take (k+1)).filter fun t=> !t.Open)=((l.take k).filter fun t=> !t.Open)++[l[k]]:=by
    rw [ht,List.filter_append];simp [hle,hqf]
   obtain ⟨hg1,hg2⟩:=qdO_ (p:=fun t:RTx=> !t.Open) hk1 (by rw [hle,hqf];rfl);have hg3:((l.take k).filter fun t=> !t.Open).length<((l.filter fun t=> !t.Open).map (·.X)).length:=by rw [List.length_map];exact hg1
   have hg4:((l.filter fun t=> !t.Open).map (·.X))[((l.take k).filter fun t=> !t.Open).length]=⟨x1,x2,x3⟩:=by rw [List.getElem_map,hg2,hle]
   have hg5:¬(((l.filter fun t=> !t.Open).map (·.X)).length:Int)≤(((l.take k).filter fun t=> !t.Open).length:Int):=by omega
   generalize hnn:((l.take k).filter fun t=> !t.Open).length=nn at hfk he hg3 hg4 hg5⊢;clear hg1 hg2;refine walk ?_;refine qe_ rfl rfl hsv.1 hg3 fun b2 o2 cc2 hr2 hc2=>?_;rw [hg4] at hc2;obtain ⟨rfl,_⟩:=hc2;change HRow H6 b2 o2 [I x1,I x2,I x3] at hr2;refine walk ?_;refine zg_ rfl rfl hr2 rfl ?_;refine walk ?_;refine Qe_ rfl (fun h=>(h ⟨rfl,rfl,rfl⟩).elim) (fun _=>?_);refine walk ?_;rw [show (nn:Int)+1=((((l.take (k+1)).filter fun t=> !t.Open).length:Nat):Int) by rw [he,List.length_append,hnn];rfl];exact Zb_ hL2 (k+1) (by omega)
  ·obtain rfl:k=l.length:=by omega
   clear hL2;rw [List.take_length];have heq:(((l.filter fun t=> !t.Open).length:Nat):Int)=((((l.filter fun t=> !t.Open).map (·.X)).length:Nat):Int):=by rw [List.length_map]
   refine walk ?_;refine zc_ 45 [row p3 65 (RWc (b1,c1) (b2,c2) (b3,c3) (b4,c4) x)] ?_;refine qa_ 0 ?_;refine qa_ 1 ?_;refine qa_ 2 ?_;refine qa_ 3 ?_;refine qa_ 4 ?_;refine qa_ 5 ?_;refine qa_ 6 ?_;refine qa_ 8 ?_;refine qa_ 9 ?_;refine qa_ 10 ?_;refine Qf_ 11 rfl rfl rfl (h1.mono hl36).1 hi1 fun ba oa ca hra hca=>?_;rw [hpq] at hca;obtain ⟨z1,z2,z3,rfl,w1,w2,w3,w4⟩:=hca;obtain ⟨m1,n1,rfl,_,_⟩:=w2.1.shape;refine qa_ 12 ?_;refine qa_ 13 ?_;refine zl_ 14 1 rfl rfl hra rfl rfl ?_;refine ze_ 7 rfl rfl rfl (Qcb_ (W0:=W0) (H:=H6) (p:=p) (w:=w) (a:=i) hts) fun r7 H8 B hl8 eB=>?_;subst eB;refine ⟨subA,?_⟩;rw [th];refine zi_ r7 fun H9 hl9 hsh=>?_;obtain ⟨bh,ch,rfl,_,_⟩:=hsh.1.shape;refine Qcw_ (L':=Zc_ H9 p w::row p3 65 (RWc (b1,c1) (b2,c2) (b3,c3) (b4,c4) x)::R) ?_ ?_
   ·refine Sub.trans (B:=Zc_ H8 p w::row p3 65 (RWc (b1,c1) (b2,c2) (b3,c3) (b4,c4) x)::R) subA ?_;exact zB_ hl9
   refine zq_ 15 rfl rfl rfl (Qbe_ hsh.1 (w2.mono (hl8.trans hl9)).1) ?_;refine qa_ 16 ?_;refine qa_ 17 ?_;refine qa_ 18 ?_;refine qa_ 19 ?_;refine qa_ 20 ?_;refine qa_ 22 ?_;refine qa_ 23 ?_;refine qa_ 24 ?_;refine Qf_ 25 rfl rfl rfl (h1.mono hl36).1 hi1 fun bb ob cb hrb hcb=>?_;rw [hpq] at hcb;obtain ⟨z4,z5,z6,rfl,w5,w6,w7,w8⟩:=hcb;obtain ⟨m2,n2,rfl,_,_⟩:=w7.1.shape;refine qa_ 26 ?_;refine qa_ 27 ?_;refine zl_ 28 2 rfl rfl hrb rfl rfl ?_;refine ze_ 21 rfl rfl rfl (qcD_ (W0:=W0) (H:=H9) (p:=p) (w:=w) (a:=i) hts) fun r21 H10 B hl10 eB=>?_;subst eB;refine ⟨subA,?_⟩;rw [tp];refine zi_ r21 fun H11 hl11 hsp=>?_;obtain ⟨bp,cp,rfl,_,_⟩:=hsp.1.shape;refine Qcw_ (L':=Zc_ H11 p w::row p3 65 (RWc (b1,c1) (b2,c2) (b3,c3) (b4,c4) x)::R) ?_ ?_
   ·refine Sub.trans (B:=Zc_ H10 p w::row p3 65 (RWc (b1,c1) (b2,c2) (b3,c3) (b4,c4) x)::R) subA ?_;exact zB_ hl11
   refine zq_ 29 rfl rfl rfl (Qab_ hsp.1 (w7.mono (hl8.trans (hl9.trans (hl10.trans hl11)))).1) ?_;refine qa_ 30 ?_;refine qa_ 31 ?_;refine qa_ 32 ?_;refine qa_ 33 ?_;refine qa_ 34 ?_;refine qa_ 36 ?_;refine qa_ 37 ?_;refine qa_ 38 ?_;refine Qf_ 39 rfl rfl rfl (h2.mono hl36).1 hic fun bc oc cc hrc hcc=>?_;rw [hq] at hcc;have hcc0:=hcc;obtain ⟨z7,rfl,y1,y2,y3,y4⟩:=hcc;obtain ⟨m3,n3,rfl,_,_⟩:=y4.1.shape;refine Zl_ 40 rfl rfl rfl hrc rfl ?_;refine ze_ 35 rfl rfl rfl (Zbj_ (W0:=W0) (H:=H11) (p:=p) (n:=_) (w:=w) (a:=i) hcs (by omega) hpl7) fun r35 H12 B hl12 eB=>?_;subst eB;refine ⟨subA,?_⟩;rw [to];refine zi_ r35 fun H13 hl13 hso=>?_;obtain ⟨bo,co,rfl,_,_⟩:=hso.1.shape;refine Qcw_ (L':=Zc_ H13 p w::row p3 65 (RWc (b1,c1) (b2,c2) (b3,c3) (b4,c4) x)::R) ?_ ?_
   ·refine Sub.trans (B:=Zc_ H12 p w::row p3 65 (RWc (b1,c1) (b2,c2) (b3,c3) (b4,c4) x)::R) subA ?_;exact zB_ hl13
   refine ze_ 41 rfl rfl rfl (ZbZ_ (W0:=W0) (H:=H13) (RdOk.mono (R:=qu_) (hl8.trans (hl9.trans (hl10.trans (hl11.trans (hl12.trans hl13))))) hcc0) (by omega)) fun r41 H14 B hl14 ⟨eB,eH⟩=>?_;subst eB eH;refine ⟨subA,?_⟩;refine zi_ r41 fun H15 hl15 hsq=>?_;obtain ⟨bq,cq,rfl,_,_⟩:=hsq.1.shape;refine Qcw_ (L':=Zc_ H15 p w::row p3 65 (RWc (b1,c1) (b2,c2) (b3,c3) (b4,c4) x)::R) ?_ ?_
   ·refine Sub.trans (B:=Zc_ H14 p w::row p3 65 (RWc (b1,c1) (b2,c2) (b3,c3) (b4,c4) x)::R) subA ?_;exact zB_ hl15
   refine zq_ 42 rfl rfl rfl (Qab_ (hso.mono hl15).1 hsq.1) ?_;refine qa_ 43 ?_;refine qa_ 44 ?_;refine qb_ rfl ?_;refine walk ?_;exact Zb_ hL (i+1,H15) ⟨by simp only;omega,hl36.trans (hl8.trans (hl9.trans (hl10.trans (hl11.trans (hl12.trans (hl13.trans hl15))))))⟩
 ·obtain rfl:i=x.Parts.length:=by omega
  clear hL;refine walk ?_;refine finB [Zc_ HK p w] ?_;exact ⟨rfl,rfl⟩
end Go.Proofs.YtlflbkpmfhhikaaGreatDoor
