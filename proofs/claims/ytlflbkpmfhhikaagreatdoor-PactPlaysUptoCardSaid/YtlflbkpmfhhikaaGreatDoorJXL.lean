/- Log: the notes, their lists new. -/
import Derived.Test.YtlflbkpmfhhikaaGreatDoorJXI
import Derived.Test.YtlflbkpmfhhikaaGreatDoorJZF
import Derived.Test.YtlflbkpmfhhikaaGreatDoorJZM
set_option maxHeartbeats 16000000
set_option maxRecDepth 100000
set_option linter.unusedVariables false
set_option linter.unusedSimpArgs false
namespace Go.Proofs.YtlflbkpmfhhikaaGreatDoor
open Go Go.Sx Go.Proofs
theorem PPlay.more {m m':Nat} {w w':PW} {k a e:Int} {works:List Work} (h:PPlay m w k a works w' e) (hm:m≤m'):PPlay m' w k a works w' e:=by
 have hc:∀{w w':PW} {i:Nat},PCrash m w i w'→PCrash m' w i w':=fun h=>by
  cases h with
  | mk h s' hs hI=>exact .mk h s' hs (hI.more hm)
 cases h with
 | bad h=>exact .bad h
 | begin hk i ha h hn ws hw=>exact .begin hk i ha h hn ws hw
 | none hk h=>exact .none hk h
 | deliver hk j ha h w' out hh=>exact .deliver hk j ha h w' out hh
 | fail hk j ha h w' w'' out hh i hi h1=>exact .fail hk j ha h w' _ out hh i hi (hc h1)
 | drop hk j ha h=>exact .drop hk j ha h
 | copy hk j ha h hf=>exact .copy hk j ha h hf
 | full hk j ha h hf=>exact .full hk j ha h hf
 | step hk i ha h=>exact .step hk i ha h
 | tick hk h0 h=>exact .tick hk h0 h
 | crash hk i ha h w' h1=>exact .crash hk i ha h _ (hc h1)
theorem zbw_ {W0:World} {H:Heap} {p n K:Nat} {s:Value} {B:List BT} {w:PW} {m:Move} (hP:PkH H) (I:WInv n K B w) (hll:w.log.length≤800000000) (hs:SlB zj_ 3 56 H s m.Works) (hk:fits m.Kind) (ha:fits m.A):
  Ct Tryz.prog 14 #[ptrC p,.agg (m.cv s).toArray] W0 H [qd_ H p w] (fun r H' B=>QaR_ (K+1) H' p w m r B):=by
 have KW:WOk K w:=I.ok (by omega);have hn:=I.k3;have hnow:=I.now;have hlen:=I.len;have hn4:=I.n4;have up:∀{r H' B},QaR_ K H' p w m r B→QaR_ (K+1) H' p w m r B:=fun ⟨w',e,h,h2⟩=>⟨w',e,h.more (Nat.le_succ K),h2⟩;by_cases hb:okMv w m.Kind m.A m.Works.length
 case neg=>exact (zdO_ (n:=K+1) hs hnow hk ha hb)
 have hms:∀g∈w.net,OkM g∧zn_ w g.To:=fun g hg=>I.msg (I.J g hg);rcases hb with ⟨k1,hi,hwl⟩|⟨k5 | k7,hi⟩|⟨k6,h0,h1⟩ | k2 | k3 | k4 | k8
 ·obtain ⟨i,hai⟩:∃i:Nat,m.A=i:=⟨m.A.toNat,by unfold zn_ at hi;omega⟩;exact (qcR_ KW hs hnow hk ha k1 hai (by unfold zn_ at hi;omega) hwl (by omega)).mono fun r H' B _ h=>up h
 ·obtain ⟨i,hai⟩:∃i:Nat,m.A=i:=⟨m.A.toNat,by unfold zn_ at hi;omega⟩;exact (zdt_ KW hs hnow hk ha k5 hai (by unfold zn_ at hi;omega)).mono fun r H' B _ h=>up h
 ·obtain ⟨i,hai⟩:∃i:Nat,m.A=i:=⟨m.A.toNat,by unfold zn_ at hi;omega⟩;exact (zcR_ KW hs hnow hk ha k7 hai (by unfold zn_ at hi;omega)).mono fun r H' B _ h=>up h
 ·exact qdu_ hs hnow hk ha k6 h0 h1
 ·exact ZbV_ hP KW (by omega) (by omega) hms hs hnow hk ha k2
 ·exact Qdt_ hs hnow hk ha k3
 ·exact Zdt_ hs hnow hk ha k4
 ·exact qdt_ hP KW (by omega) (by omega) hms hs hnow hk ha k8
theorem qcI_ {ι:Type} {A:ι→za_} {l:List ι} {x:ι} {L:List za_}:Sub (A x::bigL A l::L) (bigL A (l++[x])::L):=by
 have h:=bigL_in (A:=A) (l1:=l) (x:=x) (l2:=[]) (L:=L);rwa [List.append_nil] at h
def NewQ (nodes:Int) (r:Value) (H':Heap) (B:List za_):Prop:=
  (¬(1≤nodes∧nodes≤4)∧r= .tuple #[.pointer none,I 1]∧B=[])∨(∃(n:Nat) (p:Nat),nodes=n∧(1≤n∧n≤4)∧r= .tuple #[ptrC p,I 0]∧B=[qd_ H' p (newW n)])
theorem ZbY_ {W0:World} {H:Heap} {nodes:Int}:
  Ct Tryz.prog 13 #[I nodes] W0 H [] (fun r H' B=>NewQ nodes r H' B):=by
 refine Ct.go (vs:=[I nodes]) fun R=>?_;by_cases h1:nodes<1
 ·refine walk ?_;refine fin0 ?_;exact .inl ⟨by omega,rfl,rfl⟩
 by_cases h2:4<nodes
 ·refine walk ?_;refine fin0 ?_;exact .inl ⟨by omega,rfl,rfl⟩
 obtain ⟨n,rfl⟩:∃n:Nat,nodes=n:=⟨nodes.toNat,by omega⟩;refine walk ?_;refine Za_ (vs:=[]) rfl rfl (Net.new_spec (H:=H)) fun r1 H1 B hl1 ⟨eB,eH⟩=>?_;subst eB eH;refine Qan_ .here (fun h=>Net.netO_ptr) fun ⟨nb,e⟩=>?_;subst e;refine walk ?_;refine qc_ rfl rfl fun p _=>?_;refine walk ?_;have hrs:∀k,(List.range (k+1)).map newN=(List.range k).map newN++[newN k]:=fun k=>by rw [List.range_succ,List.map_append];rfl
 refine Qc_ (σ:=Nat×List NE×(Option Addr×Nat)) (fun u=>u.1≤n∧u.2.1.map NE.q=(List.range u.1).map newN) (fun u=>[(4,ptrC p),(15,I n),(16,I u.1)]) (fun _=>H1)
  (fun u=>wRow p (.slice u.2.2.1 u.2.1.length u.2.2.2) nb 0 nilS::wNs (.slice u.2.2.1 u.2.1.length u.2.2.2) u.2.1::bigL (ndP H1) u.2.1::bigL (ndC H1) u.2.1::Net.netO H1 (ptrC nb) []::R) (fun u=>n - u.1) (0,[],none,0) ⟨Nat.zero_le _,rfl⟩ (hs0:=?hs0) fun ⟨k,es,d,e⟩ ⟨hk0,hes⟩ K hL=>?_
 case hs0=>
  refine Sub.trans (B:=wRow p nilS nb 0 nilS::Net.netO H1 (ptrC nb) []::R) subA ?_;refine Sub.trans (Sub.trans (Sub.trans ZbA_ (Sub.cons ZbA_)) (Sub.cons (Sub.cons ownS_nil))) (show Sub (bigL (ndC H1) []::bigL (ndP H1) []::wNs nilS []::wRow p nilS nb 0 nilS::Net.netO H1 (ptrC nb) []::R) _ from ?_);exact subA
 simp only at hk0 hes;dsimp only;have hel:es.length=k:=by have:=congrArg List.length hes;simpa using this
 refine walk ?_;refine ze_ rfl (fun hk=>?_) (fun hk=>?_)
 ·have hk1:k<n:=by omega
  have hfk:fits (k:Int):=by unfold fits;omega
  refine walk ?_;refine zc_ 12 [wRow p (.slice d es.length e) nb 0 nilS] ?_;refine qa_ 0 ?_;refine qa_ 1 ?_;refine qa_ 2 ?_;refine qa_ 3 ?_;refine qa_ 4 ?_;refine qa_ 5 ?_;refine qa_ 7 ?_;refine qe_ 6 rfl rfl rfl (Zdv_ (H:=H1) (sh:=(k:Int)) hfk) fun r2 H2 B hl2 ⟨pp,er,eB,eH⟩=>?_;subst er eB eH;refine ⟨subA,?_⟩;refine qe_ 8 rfl rfl rfl (zbU_ (H:=H2) (node:=(k:Int)) (life:=1)) fun r3 H3 B hl3 ⟨cp,er,eB,eH⟩=>?_;subst er eB eH;refine ⟨subA,?_⟩;refine qa_ 9 ?_;refine zx_ (y:=(⟨pp,cp,newN k⟩:NE)) 10 11 rfl rfl rfl rfl (by rw [hel];simp only [Qb_];omega) (hl:=QcB_ _) fun d3 e3=>⟨subA,?_⟩;refine qb_ rfl ?_;refine walk ?_;have hl3:es.length+1=(es++[(⟨pp,cp,newN k⟩:NE)]).length:=by simp
  rw [hl3];refine Zb_ hL (k+1,es++[⟨pp,cp,newN k⟩],d3,e3) ⟨by simp only;omega,by simp only;rw [List.map_append,hes,hrs];rfl⟩ (hs:=?_);refine Sub.trans (B:=ownS rNE 3 24 92 H3 (.slice d3 (es++[(⟨pp,cp,newN k⟩:NE)]).length e3) (es++[⟨pp,cp,newN k⟩])::ndC H3 ⟨pp,cp,newN k⟩::bigL (ndC H3) es::ndP H3 ⟨pp,cp,newN k⟩::bigL (ndP H3) es::wRow p (.slice d3 (es++[(⟨pp,cp,newN k⟩:NE)]).length e3) nb 0 nilS::Net.netO H3 (ptrC nb) []::R) (by rw [show ndC H3 ⟨pp,cp,newN k⟩=zh_ H3 cp ⟨k,1,0,[]⟩ from rfl,show ndP H3 ⟨pp,cp,newN k⟩=Zn_ H3 pp ⟨k,⟨[],[],[]⟩,[]⟩ from rfl];exact subA) ?_;refine Sub.trans (QcA_ H3 Heap.empty) ?_;refine Sub.trans (Sub.cons (Sub.trans qcI_ (Sub.cons qcI_))) ?_;dsimp only;exact subA
 ·clear hL;obtain rfl:k=n:=by omega
  refine walk ?_;refine finB [qd_ H1 p (newW k)] ?_ (hs:=?_)
  ·exact .inr ⟨k,p,rfl,by omega,rfl,rfl⟩
  ·refine Sub.trans (B:=wRow p (.slice d es.length e) nb 0 nilS::wNs (.slice d es.length e) es::bigL (ndP H1) es::bigL (ndC H1) es::Net.netO H1 (ptrC nb) []::R) subA ?_;refine Sub.trans (Sub.cons (Sub.cons (Sub.cons (Sub.cons (Sub.cons (ownS_nil (R:=qaB_) (sz:=10) (w:=128) (T:=71) (H:=H1) (base:=none))))))) ?_;exact zE_ (w:=newW k) (nv:= .slice d es.length e) (nb:=nb) (lv:=nilS) hes.symm
theorem ZaN_ {W0:World} {H:Heap} {c:List Value} {n K:Nat} {B0:List BT} {w:PW} {x:RW} {k a:Int} {v:Value} {works:List Work} (IW:WInv n K B0 w) (hl:w.log.length≤800000000) (R:WRel w x) (h0:rW17 H c x) (ha:fits a) (hs:SlB zj_ 3 56 H v works):
  Ct Tryz.prog 23 #[.agg c.toArray,I k,I a,v] W0 H [] (fun r H' B=>zW_ w k a works r H' B):=by
 by_cases hk:1≤k∧k≤8
 ·obtain rfl|rfl|rfl|rfl|rfl|rfl|rfl|rfl:k=1∨k=2∨k=3∨k=4∨k=5∨k=6∨k=7∨k=8:=by omega
  ·exact Qca_ IW hl R h0 ha hs
  ·exact Zca_ IW hl R h0 ha hs
  ·exact qcc_ IW hl R h0 ha hs
  ·exact zcc_ IW hl R h0 ha hs
  ·exact zca_ IW hl R h0 ha hs
  ·exact Qcb_ IW hl R h0 ha hs
  ·exact Zcb_ IW hl R h0 ha hs
  ·exact qcb_ IW hl R h0 ha hs
 ·exact zcb_ IW hl R h0 ha hs hk
def zaW_ (i:Nat):Part:=⟨i,⟨[],[]⟩,[]⟩
def qaz_ (i:Nat):Coord:=⟨i,1,0,[]⟩
def zbI_ (n:Nat):RW:=⟨(List.range n).map zaW_,(List.range n).map qaz_,[],0,[]⟩
theorem Qew_ {n:Nat}:WRel (newW n) (zbI_ n):=by
 refine ⟨by simp [zbI_,newW],by simp [zbI_,newW],fun i h h'=>?_,fun i h h'=>?_,rfl,rfl,rfl⟩
 ·simp only [newW,zbI_,List.getElem_map,List.getElem_range];exact qex_
 ·simp only [newW,zbI_,List.getElem_map,List.getElem_range];exact crel0
theorem Zar_ {α:Type} {f:Nat→α} {i:Nat}:(List.range (i+1)).map f=(List.range i).map f++[f i]:=by rw [List.range_succ,List.map_append];rfl
theorem qca_ {W0:World} {H:Heap} {n:Nat} (hn:n≤1000):
  Ct Tryz.prog 22 #[I n] W0 H [] (fun r H' B=>∃c',r= .agg c'.toArray∧rW17 H' c' (zbI_ n)∧B=[]):=by
 refine Ct.go (vs:=[I n]) fun R=>?_;refine walk ?_;refine zb_ rfl fun p2 _=>?_;refine walk ?_;refine zb_ rfl fun p3 _=>?_;refine walk ?_
 refine Qc_ (σ:=Nat×(Option Addr×Nat)×(Option Addr×Nat)) (fun u=>u.1≤n) (fun u=>[(0,I n),(2,.pointer (some ⟨p2,0,none⟩)),(3,.pointer (some ⟨p3,0,none⟩)),(4,I u.1)]) (fun _=>H)
  (fun u=>ownS ZaA_ 4 80 129 H (.slice u.2.1.1 u.1 u.2.1.2) ((List.range u.1).map zaW_)::ownS Qu_ 4 48 132 H (.slice u.2.2.1 u.1 u.2.2.2) ((List.range u.1).map qaz_)::row p3 65 [.slice u.2.1.1 u.1 u.2.1.2,.slice u.2.2.1 u.1 u.2.2.2,nilS,I 0,nilS]::row p2 65 [nilS,nilS,nilS,I 0,nilS]::R) (fun u=>n - u.1) (0,(none,0),(none,0)) (Nat.zero_le _) (hs0:=?_) fun ⟨i,⟨b1,c1⟩,⟨b2,c2⟩⟩ hi0 K hL=>?_
 rotate_left
 ·show Sub _ (ownS ZaA_ 4 80 129 H nilS []::ownS Qu_ 4 48 132 H nilS []::row p3 65 [nilS,nilS,nilS,I 0,nilS]::row p2 65 [nilS,nilS,nilS,I 0,nilS]::R);refine Sub.trans (Sub.trans (B:=row p3 65 [nilS,nilS,nilS,I 0,nilS]::row p2 65 [nilS,nilS,nilS,I 0,nilS]::R) subA (ownS_nil (R:=Qu_) (sz:=4) (w:=48) (T:=132) (H:=H))) (ownS_nil (R:=ZaA_) (sz:=4) (w:=80) (T:=129) (H:=H))
 simp only at hi0;dsimp only;by_cases hi1:i<n
 ·have hi2:(i:Int)<(n:Int):=by omega
  have hfi:fits (i:Int):=by unfold fits;omega
  have hf1:fits (1:Int):=by unfold fits;omega
  have e1:((List.range i).map zaW_).length=i:=by simp
  have e2:((List.range i).map qaz_).length=i:=by simp
  refine walk ?_;refine Zj_ (y:=zaW_ i) rfl rfl rfl ⟨_,_,_,rfl,hfi,SlB.nil,SlB.nil,SlB.nil⟩ (by rw [e1];unfold Qb_;omega) fun d3 e3=>?_;rw [e1,←Zar_];refine walk ?_;refine Zj_ (y:=qaz_ i) rfl rfl rfl ⟨_,rfl,hfi,hf1,qh_,SlB.nil⟩ (by rw [e2];unfold Qb_;omega) fun d4 e4=>?_;rw [e2,←Zar_];refine walk ?_;refine Zb_ hL (i+1,(d3,e3),(d4,e4)) (by simp only;omega)
 ·obtain rfl:i=n:=by omega
  clear hL;refine walk ?_;refine qg_ (.slice b1 i c1) fun H1 hl1 hs1=>?_;refine qg_ (.slice b2 i c2) fun H2 hl2 hs2=>?_;refine fin0 ?_;have e1:((List.range i).map zaW_).length=i:=by simp
  have e2:((List.range i).map qaz_).length=i:=by simp
  exact ⟨_,rfl,⟨_,_,_,_,rfl,hs1.mono hl2,hs2,SlB.nil,qh_,SlB.nil⟩,rfl⟩
theorem Qcu_ {α:Type} {R:Sx.Rd α} {sz:Nat} [RdOk R sz] {H:Heap} {v:Value} {xs:List α} (h:SlR R sz H v xs) {x:α} (hx:x∈xs):∃c,R H c x:=by
 obtain ⟨k,hk,rfl⟩:=List.getElem_of_mem hx;obtain ⟨b,c,e,_,_⟩:=h.shape;subst e;obtain ⟨_,_,c,_,_,_,hc⟩:=h.get hk;exact ⟨c,hc⟩
theorem zbZ_ {α:Type} {R:Sx.Rd α} {sz:Nat} [RdOk R sz] {H:Heap} {base:Option Addr} {m cap k:Nat} {xs:List α} (hr:SlR R sz H (.slice base m cap) xs) (h:k≤xs.length):SlR R sz H (.slice base k cap) (xs.take k):=by
 obtain ⟨cs,⟨base',cap',e,hc,hl,h1c,he⟩,b⟩:=hr
 cases e
 have hk:(xs.take k).length=k:=by simp;omega
 have hmul:k*sz≤xs.length*sz:=Nat.mul_le_mul_right _ h;refine ⟨cs.take (k*sz),hk.symm▸⟨_,_,rfl,by omega,by rw [List.length_take,hl];omega,?_,?_⟩,b.take h⟩
 ·simp only [List.all_eq_true] at h1c⊢;exact fun u hu=>h1c u (List.mem_of_mem_take hu)
 ·rcases he with he | ⟨b,off,rfl,hrow⟩
  ·exact .inl (by omega)
  ·exact .inr ⟨b,off,rfl,hrow.take⟩
def Zay_ (w:Work):Work:=⟨w.Robot,w.Take.take 20,w.Drop.take 20⟩
def ownP (l:List Work):List Work:=(l.take 8).map Zay_
theorem qdA_ {l:List Work} {j:Nat} (hj:j<l.length):(l.take (j+1)).map Zay_=(l.take j).map Zay_++[Zay_ l[j]]:=by
 rw [List.take_succ_eq_append_getElem hj,List.map_append];rfl
theorem v122_ {P:Prop} (h:P:=by
 unfold ownP
 first | rfl | rw [List.take_of_length_le (Nat.le_refl _),List.take_of_length_le hj8]):P:=h
theorem v18_ {P:Prop} (h:P:=by
 refine zt_ 35 rfl (QF_ rfl ht2 hcap2 fun d35 e35=>⟨.refl _,subA,?_⟩);simp only [List.length_nil,Nat.zero_add,List.nil_append];refine qf_ (.slice d20 (wt.take 20).length e20) fun H2 hl2 g1=>?_;refine qf_ (.slice d35 (wd.take 20).length e35) fun H3 hl3 g2=>?_;refine ZW_ 36 rfl rfl rfl ?_;refine zx_ (y:=Zay_ ⟨wr,wt,wd⟩) 37 38 rfl rfl rfl ⟨_,_,rfl,raf,g1.mono hl3,g2⟩ (by rw [hll];simp only [Qb_];omega) fun d9 e9=>⟨subA,?_⟩;rw [←hsn,show ((l.take j).map Zay_).length+1=((l.take (j+1)).map Zay_).length by rw [hsn,List.length_append];rfl];refine qb_ rfl ?_;refine walk ?_;refine Zb_ hL (j+1,d9,e9,H3) ⟨by simp only;omega,by simp only;omega,hlK.trans (hl2.trans hl3)⟩ (hs:=?_);dsimp only;exact subA):P:=h
theorem QbZ_ {W0:World} {H:Heap} {v:Value} {l:List Work} (h0:SlB zj_ 3 56 H v l):
  Ct Tryz.prog 15 #[v] W0 H [] (fun r H' B=>B=[ownS zj_ 3 56 50 H' r (ownP l)]):=by
 refine Ct.go (vs:=[v]) fun R=>?_;obtain ⟨b0,c0,rfl,hc0,hd0⟩:=h0.1.shape;refine walk ?_;refine Qc_ (σ:=Nat×Option Addr×Nat×Heap) (fun u=>u.1≤l.length∧u.1≤8∧H.le u.2.2.2) (fun u=>[(0,.slice b0 l.length c0),(3,.slice u.2.1 ((l.take u.1).map Zay_).length u.2.2.1),(4,I u.1)]) (fun u=>u.2.2.2) (fun u=>ownS zj_ 3 56 50 u.2.2.2 (.slice u.2.1 ((l.take u.1).map Zay_).length u.2.2.1) ((l.take u.1).map Zay_)::R) (fun u=>l.length - u.1) (0,none,0,H) ⟨Nat.zero_le _,Nat.zero_le _,.refl _⟩ (hs0:=?_) fun ⟨j,dd,e,HK⟩ ⟨hj0,hj8,hlK⟩ K hL=>?_
 rotate_left
 ·show Sub _ (ownS zj_ 3 56 50 H (.slice none 0 0) []::_);exact v34_
 simp only at hj0 hj8 hlK;dsimp only;by_cases hk1:j<l.length
 ·by_cases hk8:j<8
  ·have hk1':(j:Int)<(l.length:Int):=by omega
   have hk8':(j:Int)<8:=by omega
   have hsn:=qdA_ hk1;have hll:((l.take j).map Zay_).length=j:=by simp;omega
   have hsl:=(h0.mono hlK).1;obtain ⟨w,hwj⟩:∃w,l[j]=w:=⟨_,rfl⟩;rw [hwj] at hsn;obtain ⟨wr,wt,wd⟩:=w;have hk3:(min (wt.length:Int) 20).toNat=(wt.take 20).length:=by rw [List.length_take];omega
   have hk4:(min (wd.length:Int) 20).toNat=(wd.take 20).length:=by rw [List.length_take];omega
   have hq1:wt.take (wt.take 20).length=wt.take 20:=by rw [List.length_take,List.take_eq_take_min];simp [Nat.min_assoc,Nat.min_comm]
   have hq2:wd.take (wd.take 20).length=wd.take 20:=by rw [List.length_take,List.take_eq_take_min];simp [Nat.min_assoc,Nat.min_comm]
   have hlt:(wt.take 20).length≤20:=by rw [List.length_take];omega
   have hld:(wd.take 20).length≤20:=by rw [List.length_take];omega
   refine walk ?_;refine zc_ 39 [] ?_;refine qa_ 0 ?_;refine qa_ 1 ?_;refine qa_ 2 ?_;refine zg_ 3 rfl rfl rfl hsl hk1 fun rab rao rac rahr rahc=>?_;rw [hwj] at rahc;obtain ⟨ra1,ra2,rfl,raf,rag1,rag2⟩:=rahc;obtain ⟨rax1,ray1,rfl,raz1,_⟩:=rag1.1.shape;obtain ⟨rax2,ray2,rfl,raz2,_⟩:=rag2.1.shape;dsimp only at raz1 raz2 rag1 rag2 raf;change HRow HK rab rao [I wr,.slice rax1 wt.length ray1,.slice rax2 wd.length ray2] at rahr;refine qa_ 4 ?_;refine qn_ 5 0 rfl rfl rahr rfl rfl ?_;refine qa_ 7 ?_;refine qa_ 8 ?_;refine zg_ 9 rfl rfl rfl hsl hk1 fun rbb rbo rbc rbhr rbhc=>?_;rw [hwj] at rbhc;obtain ⟨rb1,rb2,rfl,rbf,rbg1,rbg2⟩:=rbhc;obtain ⟨rbx1,rby1,rfl,rbz1,_⟩:=rbg1.1.shape;obtain ⟨rbx2,rby2,rfl,rbz2,_⟩:=rbg2.1.shape;dsimp only at rbz1 rbz2 rbg1 rbg2 rbf;change HRow HK rbb rbo [I wr,.slice rbx1 wt.length rby1,.slice rbx2 wd.length rby2] at rbhr;refine qa_ 10 ?_;refine qn_ 11 1 rfl rfl rbhr rfl rfl ?_;refine qa_ 12 ?_;refine qa_ 13 ?_;refine zg_ 14 rfl rfl rfl hsl hk1 fun rcb rco rcc rchr rchc=>?_;rw [hwj] at rchc;obtain ⟨rc1,rc2,rfl,rcf,rcg1,rcg2⟩:=rchc;obtain ⟨rcx1,rcy1,rfl,rcz1,_⟩:=rcg1.1.shape;obtain ⟨rcx2,rcy2,rfl,rcz2,_⟩:=rcg2.1.shape;dsimp only at rcz1 rcz2 rcg1 rcg2 rcf;change HRow HK rcb rco [I wr,.slice rcx1 wt.length rcy1,.slice rcx2 wd.length rcy2] at rchr;refine qa_ 15 ?_;refine qn_ 16 1 rfl rfl rchr rfl rfl ?_;refine qa_ 17 ?_;refine qa_ 18 ?_;refine qa_ 19 ?_;refine qa_ 22 ?_;refine qa_ 23 ?_;refine zg_ 24 rfl rfl rfl hsl hk1 fun rdb rdo rdc rdhr rdhc=>?_;rw [hwj] at rdhc;obtain ⟨rd1,rd2,rfl,rdf,rdg1,rdg2⟩:=rdhc;obtain ⟨rdx1,rdy1,rfl,rdz1,_⟩:=rdg1.1.shape;obtain ⟨rdx2,rdy2,rfl,rdz2,_⟩:=rdg2.1.shape;dsimp only at rdz1 rdz2 rdg1 rdg2 rdf;change HRow HK rdb rdo [I wr,.slice rdx1 wt.length rdy1,.slice rdx2 wd.length rdy2] at rdhr;refine qa_ 25 ?_;refine qn_ 26 2 rfl rfl rdhr rfl rfl ?_;refine qa_ 27 ?_;refine qa_ 28 ?_;refine zg_ 29 rfl rfl rfl hsl hk1 fun reb reo rec rehr rehc=>?_;rw [hwj] at rehc;obtain ⟨re1,re2,rfl,ref,reg1,reg2⟩:=rehc;obtain ⟨rex1,rey1,rfl,rez1,_⟩:=reg1.1.shape;obtain ⟨rex2,rey2,rfl,rez2,_⟩:=reg2.1.shape;dsimp only at rez1 rez2 reg1 reg2 ref;change HRow HK reb reo [I wr,.slice rex1 wt.length rey1,.slice rex2 wd.length rey2] at rehr;refine qa_ 30 ?_;refine qn_ 31 2 rfl rfl rehr rfl rfl ?_;refine qa_ 32 ?_;refine qa_ 33 ?_;refine qa_ 34 ?_;rw [hk3,hk4];have ht1:=zbZ_ (k:=(wt.take 20).length) rbg1.1 (by rw [List.length_take];omega);have ht2:=zbZ_ (k:=(wd.take 20).length) rdg2.1 (by rw [List.length_take];omega);rw [hq1] at ht1;have hcap1:(([]:List ByteArray).length+(wt.take 20).length)*16≤Qb_:=by simp only [Qb_,List.length_nil];omega
   have hcap2:(([]:List ByteArray).length+(wd.take 20).length)*16≤Qb_:=by simp only [Qb_,List.length_nil];omega
   rw [hq2] at ht2;refine qaC_ 6 21 rfl rfl (Qag_ (wd:=16) rStr fun b6=>⟨.refl _,subA,?_⟩) (Qag_ (wd:=16) rStr fun b21=>⟨.refl _,subA,?_⟩)
   ·refine qaC_ 20 21 rfl rfl (QF_ rfl ht1 hcap1 fun d20 e20=>⟨.refl _,subA,?_⟩) (Qag_ (wd:=16) rStr fun b21=>⟨.refl _,subA,?_⟩)
    ·refine zt_ 21 rfl (Qag_ (wd:=16) rStr fun b21=>⟨.refl _,subA,?_⟩);exact v18_
    ·refine zt_ 20 rfl (QF_ rfl ht1 hcap1 fun d20 e20=>⟨.refl _,subA,?_⟩);exact v18_
   ·refine zt_ 6 rfl (Qag_ (wd:=16) rStr fun b6=>⟨.refl _,subA,?_⟩);refine zt_ 20 rfl (QF_ rfl ht1 hcap1 fun d20 e20=>⟨.refl _,subA,?_⟩);exact v18_
  ·obtain rfl:j=8:=by omega
   have hk1':(8:Int)<(l.length:Int):=by omega
   clear hL;refine walk ?_;refine finB [ownS zj_ 3 56 50 HK (.slice dd ((l.take (8)).map Zay_).length e) ((l.take (8)).map Zay_)] ?_;exact v122_
 ·obtain rfl:j=l.length:=by omega
  clear hL;refine walk ?_;refine finB [ownS zj_ 3 56 50 HK (.slice dd ((l.take (l.length)).map Zay_).length e) ((l.take (l.length)).map Zay_)] ?_;exact v122_
theorem Zct_ {p c q:List Value} {o k:Nat} {v:Value} (hp:p.length=o) (hk:k<c.length):(p++c++q).set (o+k) v=p++c.set k v++q:=by
 rw [List.append_assoc,List.set_append_right _ _ (by omega),hp,Nat.add_sub_cancel_left,List.set_append_left _ _ hk,←List.append_assoc]
theorem qcu_ {p c q:List Value} {o k:Nat} {v:Value} (hp:p.length=o) (hk:c[k]?=some v):(p++c++q)[o+k]?=some v:=by
 have hl:k<c.length:=(List.getElem?_eq_some_iff.1 hk).1;rw [List.append_assoc,List.getElem?_append_right (by omega),hp,Nat.add_sub_cancel_left,List.getElem?_append_left hl,hk]
theorem Zeg_ {cs c r:List Value} {o:Nat} (h:cs.drop o=c++r) (hc:0<c.length):∃p,cs=p++c++r∧p.length=o:=by
 refine ⟨cs.take o,by rw [List.append_assoc,←h,List.take_append_drop],?_⟩;have h2:(cs.drop o).length=(c++r).length:=by rw [h]
 rw [List.length_drop,List.length_append] at h2;rw [List.length_take];omega
theorem zcu_ {W0:World} {H:Heap} {b0:Option Addr} {c0:Nat} {l:List PactNote} (hb:l.length*128≤Qb_):
  Ct Tryz.prog 29 #[.slice b0 l.length c0] W0 H [wLog H (.slice b0 l.length c0) l] (fun r H' B=>B=[wLog H r l,wLog H (.slice b0 l.length c0) l]∧H'=H):=by
 refine Ct.go fun R=>?_;refine walk ?_;refine ze_ rfl (fun h=>?_) (fun h=>?_)
 ·subst h;refine walk ?_;refine zdC_ .here (p:=l.length=0) (fun h ho=>?_) fun h0=>?_
  ·obtain ⟨cs,_,ho⟩:=ho;obtain ⟨_,ho⟩:=ho;rcases ho with ⟨h,_⟩|⟨b,cap,sp,h,_⟩
   ·exact h
   ·cases h
  obtain rfl:l=[]:=List.eq_nil_of_length_eq_zero h0;refine finB [wLog H (.slice none 0 0) [],wLog H (.slice none 0 c0) []] ?_ (hs:=ownS_nil);exact ⟨rfl,rfl⟩
 ·refine walk ?_;refine QW_ (w:=128) qaB_ rfl fun b=>?_;refine walk ?_;refine ZcZ_ rfl rfl (by simpa using hb) fun base cap=>?_;refine walk ?_;refine finB [wLog H (.slice base ([].length+l.length) cap) ([]++l),wLog H (.slice b0 l.length c0) l] ?_;exact ⟨rfl,rfl⟩
theorem qbZ_ {W0:World} {H:Heap} {p:Nat} {w:PW} (hb:w.log.length*128≤Qb_):
  Ct Tryz.prog 12 #[ptrC p] W0 H [qd_ H p w] (fun r H' B=>B=[wLog H' r w.log,qd_ H' p w]):=by
 refine Ct.go (vs:=[ptrC p]) fun R=>?_;refine Zg_ (A:=qd_ H p w) (σ:=Value×Nat×Value×List NE) (B:=fun a=>[wRow p a.1 a.2.1 (PW.now w) a.2.2.1,wNs a.1 a.2.2.2,bigL (ndP H) a.2.2.2,bigL (ndC H) a.2.2.2,Net.netO H (ptrC a.2.1) (PW.net w),wLog H a.2.2.1 (PW.log w)]) (p:=fun a=>PW.ns w=a.2.2.2.map NE.q) (by repeat (first | exact Has.here | apply Has.there)) (fun h ⟨nv,nb,lv,es,hb,hk⟩=>⟨(nv,nb,lv,es),hk,hb⟩) fun ⟨nv,nb,lv,es⟩ hns=>?_;dsimp only at hns⊢;refine qs_ lv fun lb lc e _ _ _=>?_;subst e;obtain ⟨l,hll⟩:∃l,w.log=l:=⟨_,rfl⟩
 have hwf:∀H':Heap,H.le H'→Sub (wRow p nv nb w.now (.slice lb l.length lc)::wNs nv es::bigL (ndP H) es::bigL (ndC H) es::Net.netO H (ptrC nb) w.net::wLog H (.slice lb l.length lc) l::R) (qd_ H' p w::R):=fun H' hl=>by
  rw [←hll];exact Zr_ hns hl hl hl hl
 rw [hll] at hb⊢;refine walk ?_;refine Za_ rfl rfl (zcu_ (H:=H) (b0:=lb) (c0:=lc) hb) fun r1 H1 B hl1 ⟨eB,eH⟩=>?_;subst eB eH;refine Qp_ r1 fun b1 c1 e k1 k2 k3=>?_;subst e;refine walk ?_
 refine Qc_ (σ:=Nat×Heap) (fun u=>u.1≤l.length∧H1.le u.2) (fun u=>[(3,.slice b1 l.length c1),(12,I l.length),(13,I u.1)]) (fun u=>u.2)
  (fun u=>wLog u.2 (.slice b1 l.length c1) l::wRow p nv nb w.now (.slice lb l.length lc)::wNs nv es::bigL (ndP H1) es::bigL (ndC H1) es::Net.netO H1 (ptrC nb) w.net::wLog H1 (.slice lb l.length lc) l::R) (fun u=>l.length - u.1) (0,H1) ⟨Nat.zero_le _,.refl _⟩ fun ⟨j,HK⟩ ⟨hj0,hlK⟩ K hL=>?_
 simp only at hj0 hlK;dsimp only;by_cases hj1:j<l.length
 ·have hj2:(j:Int)<(l.length:Int):=by omega
  refine walk ?_;refine zab_ (.slice b1 l.length c1) (Nat.lt_of_le_of_lt (Nat.zero_le j) hj1) fun b2 cap2 cs sp e q1 q2 q3 q4 q5 q6=>?_
  cases e
  obtain ⟨c,rr,hcr,hcc⟩:=q5.get hj1;have hcl:c.length=10:=RdOk.len hcc;obtain ⟨pp,rfl,hpl⟩:=Zeg_ hcr (by rw [hcl];decide);rw [List.append_assoc (pp++c)];obtain ⟨qq,hqq⟩:∃qq,rr++sp=qq:=⟨_,rfl⟩;rw [hqq];obtain ⟨s1,s2,s3,rfl,f0,f1,f2,f3,f4,f5,g1,g2,g3⟩:=hcc;obtain ⟨x1,y1,rfl,_,_⟩:=g1.1.shape;obtain ⟨x2,y2,rfl,_,_⟩:=g2.1.shape;obtain ⟨x3,y3,rfl,_,_⟩:=g3.1.shape;obtain ⟨x,hx⟩:∃x,l[j]=x:=⟨_,rfl⟩;rw [hx] at f0 f1 f2 f3 f4 f5 g1 g2 g3⊢;refine walk ?_;refine ex_z 31 ?_;refine zcH_ 1 rfl rfl ?_;refine zcH_ 2 rfl rfl ?_;refine qef_ 20 [row b2 71 (pp++PactNote.cv x (.slice x1 x.Rec.Work.Take.length y1) (.slice x2 x.Rec.Work.Drop.length y2) (.slice x3 x.Rec.Parts.length y3)++qq)] ?_;refine qa_ 0 ?_;refine qa_ 3 ?_;refine qa_ 4 ?_;refine qa_ 5 ?_;refine qa_ 6 ?_;refine qa_ 9 ?_;refine qa_ 10 ?_;refine qa_ 11 ?_;refine qa_ 12 ?_;refine qa_ 15 ?_;refine qa_ 16 ?_;refine qa_ 17 ?_;refine Zag_ 7 rfl rfl rfl (by rw [Nat.zero_add];exact qcu_ (k:=6) hpl rfl) ?_;refine Zag_ 13 rfl rfl rfl (by rw [Nat.zero_add];exact qcu_ (k:=7) hpl rfl) ?_;refine Zag_ 18 rfl rfl rfl (by rw [Nat.zero_add];exact qcu_ (k:=9) hpl rfl) ?_;refine qe_ 8 rfl rfl rfl (Zac_ (H:=HK) g1) fun r8 H8 B hl8 ⟨eB,eH⟩=>?_;subst eB eH;refine ⟨subA,?_⟩;refine qe_ 14 rfl rfl rfl (Zac_ (H:=H8) g2) fun r14 H9 B hl9 ⟨eB,eH⟩=>?_;subst eB eH;refine ⟨subA,?_⟩;refine qe_ 19 rfl rfl rfl (Zv_ (H:=H9) g3) fun r19 H10 B hl10 ⟨eB,eH⟩=>?_;subst eB eH;refine ⟨subA,?_⟩;refine qaj_ 31 [] ?_;refine qf_ r8 fun H2 hl2 h1=>?_;refine qf_ r14 fun H3 hl3 h2=>?_;refine qf_ r19 fun H4 hl4 h3=>?_;obtain ⟨u1,v1,rfl,_,_⟩:=h1.1.shape;obtain ⟨u2,v2,rfl,_,_⟩:=h2.1.shape;obtain ⟨u3,v3,rfl,_,_⟩:=h3.1.shape;have hcw:∀v1 v2 v3,(PactNote.cv x v1 v2 v3).length=10:=fun _ _ _=>rfl;refine qa_ 20 ?_;refine qa_ 21 ?_;refine qa_ 22 ?_;refine zk_ 23 (cs':=pp++PactNote.cv x (.slice u1 x.Rec.Work.Take.length v1) (.slice x2 x.Rec.Work.Drop.length y2) (.slice x3 x.Rec.Parts.length y3)++qq) rfl rfl rfl rfl (by simp only [Nat.zero_add,List.length_append,hcw,hpl,List.length_singleton];omega) (by rw [Nat.zero_add,qaM_ (by simp only [List.length_append,hcw,hpl];omega)];exact Zct_ (k:=6) hpl (by rw [hcw];decide)) ⟨subA,?_⟩;refine qa_ 24 ?_;refine qa_ 25 ?_;refine qa_ 26 ?_;refine zk_ 27 (cs':=pp++PactNote.cv x (.slice u1 x.Rec.Work.Take.length v1) (.slice u2 x.Rec.Work.Drop.length v2) (.slice x3 x.Rec.Parts.length y3)++qq) rfl rfl rfl rfl (by simp only [Nat.zero_add,List.length_append,hcw,hpl,List.length_singleton];omega) (by rw [Nat.zero_add,qaM_ (by simp only [List.length_append,hcw,hpl];omega)];exact Zct_ (k:=7) hpl (by rw [hcw];decide)) ⟨subA,?_⟩;refine qa_ 28 ?_;refine qa_ 29 ?_;refine zk_ 30 (cs':=pp++PactNote.cv x (.slice u1 x.Rec.Work.Take.length v1) (.slice u2 x.Rec.Work.Drop.length v2) (.slice u3 x.Rec.Parts.length v3)++qq) rfl rfl rfl rfl (by simp only [Nat.zero_add,List.length_append,hcw,hpl,List.length_singleton];omega) (by rw [Nat.zero_add,qaM_ (by simp only [List.length_append,hcw,hpl];omega)];exact Zct_ (k:=9) hpl (by rw [hcw];decide)) ⟨subA,?_⟩;refine qb_ rfl ?_;refine walk ?_;have hs5:=RL.set (q5.mono (hl2.trans (hl3.trans hl4))) (us:=PactNote.cv x (.slice u1 x.Rec.Work.Take.length v1) (.slice u2 x.Rec.Work.Drop.length v2) (.slice u3 x.Rec.Parts.length v3)) (y:=x) ⟨_,_,_,rfl,f0,f1,f2,f3,f4,f5,h1.mono (hl3.trans hl4),h2.mono hl4,h3⟩ hj1;have hsx:l.set j x=l:=by rw [←hx,List.set_getElem_self]
  rw [hsx,hcw,List.append_assoc pp,List.take_left' hpl,←List.append_assoc pp,List.drop_left' (by rw [List.length_append,hpl];rfl)] at hs5;have e3:pp++PactNote.cv x (.slice u1 x.Rec.Work.Take.length v1) (.slice u2 x.Rec.Work.Drop.length v2) (.slice u3 x.Rec.Parts.length v3)++qq=pp++PactNote.cv x (.slice u1 x.Rec.Work.Take.length v1) (.slice u2 x.Rec.Work.Drop.length v2) (.slice u3 x.Rec.Parts.length v3)++rr++sp:=by rw [←hqq,List.append_assoc (pp++_)]
  rw [e3];refine Zb_ hL (j+1,H4) ⟨by simp only;omega,hlK.trans (hl2.trans (hl3.trans hl4))⟩ (hs:=?_);refine (zJ_ ?_ q1 q2 ?_).trans (qR_ hs5 q6)
  ·rw [←q3];simp only [List.length_append,hcw];rfl
  ·rw [←q4];simp only [List.length_append,hcw];rfl
 ·obtain rfl:j=l.length:=by omega
  clear hL;refine walk ?_;refine finB [wLog HK (.slice b1 l.length c1) l,qd_ HK p w] ?_ (hs:=Sub.cons (hwf HK hlK));rfl
end Go.Proofs.YtlflbkpmfhhikaaGreatDoor
