/- PactSettles, walked. -/
import Derived.Test.YtlflbkpmfhhikaaGreatDoorJLO
import Derived.Test.YtlflbkpmfhhikaaGreatDoorJTR
import Derived.Test.YtlflbkpmfhhikaaGreatDoorJXL
import Derived.Test.YtlflbkpmfhhikaaGreatDoorJYA
import Derived.Test.YtlflbkpmfhhikaaGreatDoorJZF
set_option linter.unusedVariables false
set_option linter.unusedSimpArgs false
namespace Go.Proofs.YtlflbkpmfhhikaaGreatDoor
open Go Go.Sx Go.Proofs
def kaW:ByteArray:=⟨#[97]⟩
def kbW:ByteArray:=⟨#[98]⟩
def aW:Work:=⟨1,[kaW],[]⟩
def bW:Work:=⟨1,[kbW],[]⟩
def xW:Txn:=⟨0,1,1⟩
def nd0 (i:Int):PS:=⟨i,⟨[],[],[]⟩,[]⟩
def nd1 (i:Int) (w:Work) (d:List Value):PS:=⟨i,zU_ ⟨[],[],[]⟩ xW w d,[]⟩
def tW (c1 c2:List Value):TX:=Zp_ 0 [((0:Int),(c1,aW)),(1,(c2,bW))]
def cW (t:TX):CS:=⟨0,1,1,[((0,1,1),t)]⟩
def cN (i:Int):CS:=⟨i,1,0,[]⟩
def QcX_ (i:Int):Message:={Zk_ with From:=i,To:=0,Kind:=2,Txn:=xW,Yes:=true}
def recV (w:Work):Rec:=⟨2,xW,w,false,[]⟩
theorem prW {w:Work} (hw:w=aW∨w=bW):QE_ ⟨[],[],[]⟩ xW w=0:=by
 unfold QE_;rcases hw with rfl|rfl
 ·rw [if_neg (by decide),if_neg (by rw [Qac_];decide),if_pos (by decide)]
 ·rw [if_neg (by decide),if_neg (by rw [Qac_];decide),if_pos (by decide)]
theorem qev_ {i:Int} {w:Work} {d:List Value} (hw:w=aW∨w=bW):Qk_ (nd0 i) (ZB_ 0 xW i w)=[QcX_ i]∧Qh_ (nd0 i) (ZB_ 0 xW i w)=[recV w]∧Qm_ (nd0 i) (ZB_ 0 xW i w) d=nd1 i w d:=by
 have hf:¬¬forMe (nd0 i) (ZB_ 0 xW i w):=fun h=>h ⟨rfl,rfl⟩;have h1:(ZB_ 0 xW i w).Kind=1:=rfl;have hd:¬isD (nd0 i) (ZB_ 0 xW i w).Txn:=by unfold isD;simp [nd0,mget]
 have hp:¬isP (nd0 i) (ZB_ 0 xW i w).Txn:=by unfold isP;simp [nd0,mget]
 have h0:QE_ (nd0 i).t (ZB_ 0 xW i w).Txn (ZB_ 0 xW i w).Work=0:=prW hw;refine ⟨?_,?_,?_⟩
 ·unfold Qk_;rw [if_neg hf,if_pos h1,if_neg hd,decide_eq_true (p:=_∨_) (.inr h0)];rfl
 ·unfold Qh_;rw [if_neg hf,if_pos h1,if_neg hd,if_neg hp,if_pos h0];rfl
 ·unfold Qm_;rw [if_neg hf,if_pos h1,if_neg hd,if_neg hp,if_pos h0];rfl
theorem dl0 {n:Nat} {w w':PW} {m:Message} {l:List Message} {e:Int} {works:List Work} (hn:w.net=m::l) (h:PPlay n w 2 0 works w' e):e=0∧∃w1 out,PHear {w with net:=l} m w1 out∧w'={w1 with net:=Zq_ w1.net out}:=by
 have hin:inN w.net 0:=by unfold inN;rw [hn,List.length_cons];omega
 cases h with
 | bad h=>exact absurd (.inr (.inr (.inr (.inl rfl)))) h
 | begin hk=>omega
 | none hk h=>exact absurd hin h
 | deliver hk j ha h w1 out hh=>
  obtain rfl:j=0:=by omega
  have e1:delM w.net 0=l:=by rw [hn];rfl
  have e2:w.net[0]=m:=by simp only [hn];rfl
  rw [e1,e2] at hh;exact ⟨rfl,w1,out,hh,rfl⟩
 | fail hk=>omega
 | drop hk=>omega
 | copy hk=>omega
 | full hk=>omega
 | step hk=>omega
 | tick hk=>omega
 | crash hk=>omega
theorem bg0 {n:Nat} {w':PW} {e:Int} (h:PPlay n (newW 2) 1 0 [aW,bW] w' e):e=0∧∃c1 c2,w'=⟨[⟨nd0 0,cW (tW c1 c2)⟩,⟨nd0 1,cN 1⟩],[ZB_ 0 xW 0 aW,ZB_ 0 xW 1 bW],0,[]⟩:=by
 have hl:(newW 2).ns.length=2:=rfl
 cases h with
 | bad h=>exact absurd (.inl ⟨rfl,⟨Int.le_refl _,by rw [hl];decide⟩,by rw [hl];decide⟩) h
 | begin hk i ha h hn ws hw=>
  obtain rfl:i=0:=by omega
  have hw2:pq ws=[((0:Int),aW),(1,bW)]:=hw
  match ws,hw2 with
  | [(a,(c1,w1)),(b,(c2,w2))],h=>
   simp only [pq,List.map_cons,List.map_nil,List.cons.injEq,Prod.mk.injEq,and_true] at h;obtain ⟨⟨rfl,rfl⟩,rfl,rfl⟩:=h;exact ⟨rfl,c1,c2,rfl⟩
  | [],h=>simp [pq] at h
  | [_],h=>simp [pq] at h
  | _::_::_::_,h=>simp [pq] at h
 | none hk=>omega
 | deliver hk=>omega
 | fail hk=>omega
 | drop hk=>omega
 | copy hk=>omega
 | full hk=>omega
 | step hk=>omega
 | tick hk=>omega
 | crash hk=>omega
theorem hp0 {w w':PW} {m:Message} {out:List Message} (k:ZN_ m) {i:Nat} (hm:m.To=i) (hi:i<w.ns.length) (h:PHear w m w' out):∃cs,w'={setN w i ⟨Qm_ w.ns[i].ps m cs,w.ns[i].cs⟩ with log:=w.log++zm_ m.To (Qh_ w.ns[i].ps m)}∧out=Qk_ w.ns[i].ps m:=by
 cases h with
 | part k' j hj h cs=>
  obtain rfl:j=i:=by omega
  exact ⟨cs,rfl,rfl⟩
 | coord k'=>exact absurd k k'
theorem hc0 {w w':PW} {m:Message} {out:List Message} (k:¬ZN_ m) {i:Nat} (hm:m.To=i) (hi:i<w.ns.length) (h:PHear w m w' out):w'={setN w i ⟨w.ns[i].ps,(Zh_ w.ns[i].cs m).s⟩ with log:=w.log++zm_ m.To (Zh_ w.ns[i].cs m).rc}∧out=(Zh_ w.ns[i].cs m).out:=by
 cases h with
 | part k'=>exact absurd k' k
 | coord k' j hj h=>
  obtain rfl:j=i:=by omega
  exact ⟨rfl,rfl⟩
def W1 (t:TX):PW:=⟨[⟨nd0 0,cW t⟩,⟨nd0 1,cN 1⟩],[ZB_ 0 xW 0 aW,ZB_ 0 xW 1 bW],0,[]⟩
def W2 (t:TX) (d:List Value):PW:=⟨[⟨nd1 0 aW d,cW t⟩,⟨nd0 1,cN 1⟩],[ZB_ 0 xW 1 bW,QcX_ 0],0,[⟨0,recV aW⟩]⟩
def W3 (t:TX) (d d':List Value):PW:=⟨[⟨nd1 0 aW d,cW t⟩,⟨nd1 1 bW d',cN 1⟩],[QcX_ 0,QcX_ 1],0,[⟨0,recV aW⟩,⟨1,recV bW⟩]⟩
def W4 (t:TX) (d d':List Value):PW:=⟨[⟨nd1 0 aW d,cW (zy_ t 0)⟩,⟨nd1 1 bW d',cN 1⟩],[QcX_ 1],0,[⟨0,recV aW⟩,⟨1,recV bW⟩]⟩
def W5 (t:TX) (d d':List Value):PW:=⟨[⟨nd1 0 aW d,cW (ZaG_ t)⟩,⟨nd1 1 bW d',cN 1⟩],[decM 0 xW 0 true,decM 0 xW 1 true],0,[⟨0,recV aW⟩,⟨1,recV bW⟩,⟨0,recC xW [0,1]⟩]⟩
theorem dl1 {n:Nat} {t:TX} {w':PW} {e:Int} {works:List Work} (h:PPlay n (W1 t) 2 0 works w' e):e=0∧∃d,w'=W2 t d:=by
 obtain ⟨he,w1,out,hh,rfl⟩:=dl0 (w:=W1 t) rfl h;obtain ⟨d,rfl,rfl⟩:=hp0 (.inl rfl) (i:=0) rfl (show _<2 by decide) hh;obtain ⟨h1,h2,h3⟩:=qev_ (i:=0) (d:=d) (.inl rfl);refine ⟨he,d,?_⟩;show PW.mk [⟨Qm_ (nd0 0) (ZB_ 0 xW 0 aW) d,cW t⟩,⟨nd0 1,cN 1⟩] (Zq_ [ZB_ 0 xW 1 bW] (Qk_ (nd0 0) (ZB_ 0 xW 0 aW))) 0 ([]++zm_ 0 (Qh_ (nd0 0) (ZB_ 0 xW 0 aW)))=_;rw [h1,h2,h3];rfl
theorem dl2 {n:Nat} {t:TX} {d:List Value} {w':PW} {e:Int} {works:List Work} (h:PPlay n (W2 t d) 2 0 works w' e):e=0∧∃d',w'=W3 t d d':=by
 obtain ⟨he,w1,out,hh,rfl⟩:=dl0 (w:=W2 t d) rfl h;obtain ⟨d',rfl,rfl⟩:=hp0 (.inl rfl) (i:=1) rfl (show _<2 by decide) hh;obtain ⟨h1,h2,h3⟩:=qev_ (i:=1) (d:=d') (.inr rfl);refine ⟨he,d',?_⟩;show PW.mk [⟨nd1 0 aW d,cW t⟩,⟨Qm_ (nd0 1) (ZB_ 0 xW 1 bW) d',cN 1⟩] (Zq_ [QcX_ 0] (Qk_ (nd0 1) (ZB_ 0 xW 1 bW))) 0 ([⟨0,recV aW⟩]++zm_ 1 (Qh_ (nd0 1) (ZB_ 0 xW 1 bW)))=_;rw [h1,h2,h3];rfl
theorem v115_ {P:Prop} (h:P:=by
 obtain ⟨rfl,rfl⟩:=hc0 (by decide) (i:=0) rfl (show _<2 by decide) hh;exact ⟨he,rfl⟩):P:=h
theorem dl3 {n:Nat} {c1 c2 d d':List Value} {w':PW} {e:Int} {works:List Work} (h:PPlay n (W3 (tW c1 c2) d d') 2 0 works w' e):e=0∧w'=W4 (tW c1 c2) d d':=by
 obtain ⟨he,w1,out,hh,rfl⟩:=dl0 (w:=W3 (tW c1 c2) d d') rfl h;exact v115_
theorem dl4 {n:Nat} {c1 c2 d d':List Value} {w':PW} {e:Int} {works:List Work} (h:PPlay n (W4 (tW c1 c2) d d') 2 0 works w' e):e=0∧w'=W5 (tW c1 c2) d d':=by
 obtain ⟨he,w1,out,hh,rfl⟩:=dl0 (w:=W4 (tW c1 c2) d d') rfl h;exact v115_
def mvA:List Move:=[⟨1,0,[aW,bW]⟩,⟨2,0,[]⟩,⟨2,0,[]⟩,⟨2,0,[]⟩,⟨2,0,[]⟩]
def AtA:Nat→PW→Prop
  | 0,w=>w=newW 2
  | 1,w=>∃c1 c2,w=W1 (tW c1 c2)
  | 2,w=>∃c1 c2 d,w=W2 (tW c1 c2) d
  | 3,w=>∃c1 c2 d d',w=W3 (tW c1 c2) d d'
  | 4,w=>∃c1 c2 d d',w=W4 (tW c1 c2) d d'
  | _,w=>∃c1 c2 d d',w=W5 (tW c1 c2) d d'
theorem AtA.next {n j:Nat} {w w':PW} {e:Int} (h:AtA j w) (hj:j<mvA.length) (hp:PPlay n w mvA[j].Kind mvA[j].A mvA[j].Works w' e):e=0∧AtA (j+1) w':=by
 match j,h,hj,hp with
 | 0,h,_,hp=>
  cases h
  obtain ⟨he,c1,c2,rfl⟩:=bg0 hp;exact ⟨he,c1,c2,rfl⟩
 | 1,h,_,hp=>
  obtain ⟨c1,c2,rfl⟩:=h;obtain ⟨he,d,rfl⟩:=dl1 hp;exact ⟨he,c1,c2,d,rfl⟩
 | 2,h,_,hp=>
  obtain ⟨c1,c2,d,rfl⟩:=h;obtain ⟨he,d',rfl⟩:=dl2 hp;exact ⟨he,c1,c2,d,d',rfl⟩
 | 3,h,_,hp=>
  obtain ⟨c1,c2,d,d',rfl⟩:=h;obtain ⟨he,rfl⟩:=dl3 hp;exact ⟨he,c1,c2,d,d',rfl⟩
 | 4,h,_,hp=>
  obtain ⟨c1,c2,d,d',rfl⟩:=h;obtain ⟨he,rfl⟩:=dl4 hp;exact ⟨he,c1,c2,d,d',rfl⟩
 | j+5,_,hj,_=>exact absurd hj (by simp [mvA])
theorem zev_:OkW aW∧OkW bW:=by
 have h1:fits (1:Int):=by unfold fits;omega
 exact ⟨⟨by decide,by decide,h1,by decide⟩,⟨by decide,by decide,h1,by decide⟩⟩
theorem Qev_ {j:Nat} (hj:j<mvA.length):∀x∈mvA[j].Works,OkW x:=by
 have h:∀m∈mvA,∀x∈m.Works,OkW x:=fun m hm x hx=>by
  simp only [mvA,List.mem_cons,List.not_mem_nil,or_false] at hm;rcases hm with rfl|rfl|rfl|rfl|rfl
  ·simp only [List.mem_cons,List.not_mem_nil,or_false] at hx;rcases hx with rfl|rfl
   ·exact zev_.1
   ·exact zev_.2
  all_goals cases hx
 exact h _ (List.getElem_mem hj)
end Go.Proofs.YtlflbkpmfhhikaaGreatDoor
set_option maxHeartbeats 16000000
set_option maxRecDepth 100000
namespace Go.Proofs.YtlflbkpmfhhikaaGreatDoor
open Go Go.Sx Go.Proofs
theorem zK_ {H H':Heap} {p:Nat} {w:PW} {L:List za_} (hl:H.le H'):Sub (qd_ H p w::L) (qd_ H' p w::L):=fun h ⟨h1,h2,⟨nv,nb,lv,es,hb,hn⟩,r⟩=>by
 have:=Zr_ (L:=[]) (H':=H') hn hl hl hl hl h1 hb;obtain ⟨g1,g2,a,_,_,l1,l2⟩:=this;obtain ⟨nv',nb',lv',es',hb',hn'⟩:=a;exact ⟨h1,h2,⟨nv',nb',lv',es',Go.Sx.big_mono l1 hb',hn'⟩,r⟩
theorem Qct_ {W0:World} {H:Heap} (hP:PkH H):
  Ct Tryz.prog 10 #[] W0 H [] (fun r H' B=>r= .bool true∧B=[]):=by
 refine Ct.go (vs:=[]) fun R=>?_;have hf1:fits (1:Int):=by unfold fits;omega
 have hf2:fits (2:Int):=by unfold fits;omega
 refine walk ?_;refine Za_ rfl rfl (ZbY_ (H:=H) (nodes:=2)) fun r1 H1 B hl1 hq=>?_;obtain ⟨h,_⟩|⟨n,p,hn,_,er,eB⟩:=hq
 ·exact absurd ⟨by decide,by decide⟩ h
 obtain rfl:n=2:=by omega
 subst er eB;refine walk ?_;refine ZK_ rfl rfl (Ze_ rfl rfl rfl fun b9=>?_);refine walk ?_;refine ZK_ rfl rfl (Ze_ rfl rfl rfl fun b10=>?_);refine walk ?_;refine Zw_ (L':=row b9 9 [.string kaW]::row b10 9 [.string kbW]::qd_ H1 p (newW 2)::R) subA ?_;refine qO_ .here fun H2 hl2 hr2=>?_;refine qO_ .here fun H3 hl3 hr3=>?_;have hsa:SlB rStr 1 16 H3 (.slice (some ⟨b9,0,none⟩) 1 1) [kaW]:=⟨Qn_ (R:=rStr) (xs:=[kaW]) (hr2.mono hl3) ⟨[.string kaW],[],rfl,⟨rfl,by decide⟩,rfl⟩ (by simp) (by omega),by decide⟩;have hsb:SlB rStr 1 16 H3 (.slice (some ⟨b10,0,none⟩) 1 1) [kbW]:=⟨Qn_ (R:=rStr) (xs:=[kbW]) hr3 ⟨[.string kbW],[],rfl,⟨rfl,by decide⟩,rfl⟩ (by simp) (by omega),by decide⟩;refine qdz_ (sz:=3) [[I 1,.slice (some ⟨b9,0,none⟩) 1 1,nilS],[I 1,.slice (some ⟨b10,0,none⟩) 1 1,nilS]] rfl rfl ⟨⟨rfl,rfl⟩,⟨rfl,rfl⟩,trivial⟩ (fun pb _=>?_);refine qO_ .here fun H4 hl4 hr4=>?_;have hwa:zj_ H4 [I 1,.slice (some ⟨b9,0,none⟩) 1 1,nilS] aW:=⟨_,_,rfl,hf1,hsa.mono hl4,SlB.nil⟩;have hwb:zj_ H4 [I 1,.slice (some ⟨b10,0,none⟩) 1 1,nilS] bW:=⟨_,_,rfl,hf1,hsb.mono hl4,SlB.nil⟩;have hsw:SlB zj_ 3 56 H4 (.slice (some ⟨pb,0,none⟩) 2 2) [aW,bW]:=⟨Qn_ (R:=zj_) (xs:=[aW,bW]) hr4 ⟨_,_,rfl,hwa,⟨_,[],rfl,hwb,rfl⟩⟩ (by simp) (by omega),by decide⟩;refine walk ?_;refine qdz_ (sz:=3) [[I 1,I 0,.slice (some ⟨pb,0,none⟩) 2 2],[I 2,I 0,nilS],[I 2,I 0,nilS],[I 2,I 0,nilS],[I 2,I 0,nilS]] rfl rfl ⟨⟨rfl,rfl⟩,⟨rfl,rfl⟩,⟨rfl,rfl⟩,⟨rfl,rfl⟩,⟨rfl,rfl⟩,trivial⟩ (fun pm _=>?_);refine qO_ .here fun H5 hl5 hr5=>?_;have hma:qcd_ H5 [I 1,I 0,.slice (some ⟨pb,0,none⟩) 2 2] ⟨1,0,[aW,bW]⟩:=⟨_,rfl,hf1,qh_,hsw.mono hl5⟩;have hmd:qcd_ H5 [I 2,I 0,nilS] ⟨2,0,[]⟩:=⟨_,rfl,hf2,qh_,SlB.nil⟩;have hsm:SlR qcd_ 3 H5 (.slice (some ⟨pm,0,none⟩) 5 5) mvA:=Qn_ (R:=qcd_) (xs:=mvA) hr5 ⟨_,_,rfl,hma,_,_,rfl,hmd,_,_,rfl,hmd,_,_,rfl,hmd,_,[],rfl,hmd,rfl⟩ (by simp [mvA]) (by omega);refine Zw_ (L':=qd_ H5 p (newW 2)::R) ?_ ?_
 ·refine Sub.trans (B:=qd_ H1 p (newW 2)::R) subA ?_;exact zK_ (hl2.trans (hl3.trans (hl4.trans hl5)))
 have hlH:H.le H5:=hl1.trans (hl2.trans (hl3.trans (hl4.trans hl5)));refine walk ?_
 refine Qc_ (σ:=Nat×PW×Heap) (fun u=>(u.1≤5∧AtA u.1 u.2.1∧(∃B,WInv 2 u.1 B u.2.1)∧u.2.1.log.length≤u.1)∧H5.le u.2.2) (fun u=>[(1,ptrC p),(25,.slice (some ⟨pm,0,none⟩) 5 5),(26,I 5),(27,I u.1)]) (fun u=>u.2.2)
  (fun u=>qd_ u.2.2 p u.2.1::R) (fun u=>5 - u.1) (0,newW 2,H5) ⟨⟨Nat.zero_le _,rfl,⟨[],qeh_ (by decide)⟩,Nat.le_refl _⟩,.refl _⟩ fun ⟨j,w,HK⟩ ⟨⟨hj0,hA,⟨B0,I0⟩,hlg⟩,hlK⟩ K hL=>?_
 simp only at hj0 hA I0 hlg hlK;dsimp only;by_cases hj1:j<5
 ·have hj2:(j:Int)<5:=by omega
  have hj3:j<mvA.length:=hj1;refine walk ?_;obtain ⟨q1,q2,c,q3,q4,q5,hc⟩:=(hsm.mono hlK).get hj3
  cases q3
  obtain ⟨s1,ec,hk1,hk2,hk3⟩:=hc;subst ec;obtain ⟨sb,sc,rfl,_,_⟩:=hk3.1.shape;refine zf_ rfl rfl q5 rfl ?_;refine walk ?_;refine zb_ rfl fun p4 _=>?_;refine walk ?_;refine Za_ rfl rfl (zbw_ (H:=HK) (p:=p) (m:=mvA[j]) (hP.mono (hlH.trans hlK)) I0 (by omega) hk3 hk1 hk2) fun r2 H6 B hl6 ⟨w',e,hp,er,eB⟩=>?_;obtain ⟨rfl,hA'⟩:=hA.next hj3 hp;subst er eB;refine walk ?_;obtain ⟨B',I1,_⟩:=I0.play (by omega) (Qev_ hj3) hp;exact Zb_ hL (j+1,w',H6) ⟨⟨by simp only;omega,hA',⟨B',I1⟩,by have:=hp.log;simp only;omega⟩,hlK.trans hl6⟩
 ·obtain rfl:j=5:=by omega
  clear hL;obtain ⟨c1,c2,d,d',rfl⟩:∃c1 c2 d d',w=W5 (tW c1 c2) d d':=hA;refine walk ?_;refine Za_ rfl rfl (qaQ_ (H:=HK) (p:=p) (w:=W5 (tW c1 c2) d d')) fun r2 H6 B hl6 ⟨er,eB,eH⟩=>?_;subst er eB eH;rw [show (W5 (tW c1 c2) d d').net.length=2 from rfl];refine walk ?_;refine Za_ rfl rfl (qbZ_ (H:=H6) (p:=p) (w:=W5 (tW c1 c2) d d') (by show 3*128≤Qb_;decide)) fun r3 H7 B hl7 eB=>?_;subst eB;refine Qp_ r3 fun d3 e3 e _ _ _=>?_;rw [show (W5 (tW c1 c2) d d').log.length=3 from rfl] at e;subst e;refine walk ?_
  have hpl:∀q∈(W5 (tW c1 c2) d d').ns,∀k t,mget k q.cs.ts=some t→t.parts.length*8≤Qb_:=fun q hq k t hk=>by
   simp only [W5,List.mem_cons,List.not_mem_nil,or_false] at hq;rcases hq with rfl|rfl
   ·simp only [cW,mget] at hk;split at hk
    ·cases hk;show 2*8≤Qb_;decide
    ·cases hk
   ·cases hk
  have hol:(zbp_ (W5 (tW c1 c2) d d') 0).length=1:=by
   have hs1:allC (cW (ZaG_ (tW c1 c2)))=[(0,1,1)]:=List.perm_singleton.1 (by unfold allC sort3;exact List.mergeSort_perm ..);show (openL (cW (ZaG_ (tW c1 c2)))).length=1;unfold openL;rw [hs1];rfl
  refine Za_ rfl rfl (QaM_ (H:=H7) (p:=p) (n:=5) (w:=W5 (tW c1 c2) d d') (a:=0) (I0.ok (by omega)).c (by omega) hpl) fun r4 H8 B hl8 eB=>?_;subst eB;refine Qp_ r4 fun d4 e4 e _ _ _=>?_;rw [hol] at e;subst e;refine walk ?_;exact v94_
theorem Qeg_ {H:Heap} {v:Value} {l:List Work} (h:SlR zj_ 3 H v l):∀x∈ownP l,OkW x:=fun x hx=>by
 unfold ownP at hx;obtain ⟨y,hy,rfl⟩:=List.mem_map.1 hx;obtain ⟨c,s1,s2,rfl,hr,g1,g2⟩:=Qcu_ h (List.mem_of_mem_take hy);refine ⟨by show (y.Take.take 20).length≤40;rw [List.length_take];omega,by show (y.Drop.take 20).length≤40;rw [List.length_take];omega,hr,fun k hk=>?_⟩;have hk2:k∈y.Take.take 20++y.Drop.take 20:=hk;rcases List.mem_append.1 hk2 with hk2 | hk2
 ·obtain ⟨c,_,hc⟩:=Qcu_ g1.1 (List.mem_of_mem_take hk2);exact hc
 ·obtain ⟨c,_,hc⟩:=Qcu_ g2.1 (List.mem_of_mem_take hk2);exact hc
theorem Agr.at {l:List PactNote} (h:Agr l) {i:Nat} (hi:i<l.length) (hk:l[i].Rec.Kind=3) (hf:ZcY_ (l.take i) l[i]):(l[i].Rec.Yes=true→com (l.take i) l[i].Rec.Txn)∧(l[i].Rec.Yes=false→¬com l l[i].Rec.Txn):=
 h (l.take i) l[i] (l.drop (i+1)) (by rw [←List.drop_eq_getElem_cons hi,List.take_append_drop]) hk hf
theorem zcI_ {H:Heap} {b off k:Nat} {cs us:List Value} (h:HRow H b off cs) (hu:∀i v,us[i]?=some v→cs[k+i]?=some v):HRow H b (off+k) us:=fun i v hi=>by rw [Nat.add_assoc];exact h _ _ (hu i v hi)
open Go Go.Sx Go.Proofs
open Go Go.Sx Go.Proofs
open Go Go.Sx Go.Proofs
theorem WInv.ts {n K:Nat} {B:List BT} {w:PW} (I:WInv n K B w):∀q∈w.ns,TsOk q.ps.t:=fun q hq=>by
 obtain ⟨i,h,rfl⟩:=List.getElem_of_mem hq;exact (I.N.P i h).t.ok (by have:=I.k3;omega)
inductive Steps (m:Nat) (w:PW):Nat→PW→Prop
  | nil:Steps m w 0 w
  | more {j:Nat} {w' w'':PW} {e:Int} (h:Steps m w j w') (hp:PPlay m w' 5 j [] w'' e):Steps m w (j+1) w''
theorem WInv.pl7 {n K:Nat} {B:List BT} {w:PW} (I:WInv n K B w) (hl:w.log.length≤900000000):∀q∈w.ns,∀k t,mget k q.cs.ts=some t→t.parts.length*8≤Qb_:=fun q hq k t hg=>by
 have:=(I.ok hl).pl q hq k t hg;unfold Qb_;omega
end Go.Proofs.YtlflbkpmfhhikaaGreatDoor
