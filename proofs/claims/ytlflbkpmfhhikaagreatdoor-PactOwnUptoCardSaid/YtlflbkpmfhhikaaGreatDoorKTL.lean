/- A coordinator: which are voting. -/
import Derived.Test.YtlflbkpmfhhikaaGreatDoorKTK
set_option maxHeartbeats 16000000
set_option maxRecDepth 100000
set_option linter.unusedVariables false
set_option linter.unusedSimpArgs false
namespace Go.Proofs.YtlflbkpmfhhikaaGreatDoor
open Go Go.Sx Go.Proofs
def ZX_ (C:Txn→Prop):Rd Txn:=fun H c x=>rTxn H c x∧C x
instance {C:Txn→Prop}:RdOk (ZX_ C) 3:=⟨fun h=>RdOk.len h.1,fun h=>RdOk.one h.1,fun hl h=>⟨RdOk.mono hl h.1,h.2⟩⟩
section
variable {C:Txn→Prop}
theorem zcA_ {W0:World} {H HS:Heap} {v:Value} {xs:List Txn} {f:FuncId} {cap:List Value} {a:za_} {p:Txn→Bool} [hf:TFn Tryz.prog f] (hl:HS.le H) (hask:Asks Tryz.prog W0 H (ZX_ C) f cap (fun c=> .agg c.toArray) [a] p):
  Ct Tryz.prog 122 #[v,.func (.func f) #[] cap.toArray] W0 H [ownS (ZX_ C) 3 24 47 HS v xs,a]
   (fun r H' B=>B=[ownS (ZX_ C) 3 24 47 HS v xs,a]∧H'=H∧∃j,j≤xs.length∧(∀i (h:i<xs.length),i<j→p xs[i]=false)∧((j=xs.length∧r=I (-1))∨(∃h:j<xs.length,p xs[j]=true∧r=I j))):=by
 refine Ct.go fun R=>?_;refine Qs_ v fun base cp e q1 q2 q3=>?_;subst e;refine walk ?_;refine Qc_ (fun k=>k≤xs.length∧∀i (h:i<xs.length),i<k→p xs[i]=false) (fun k=>[(0,.slice base xs.length cp),(1,.func (.func f) #[] cap.toArray),(7,I xs.length),(8,I k)]) (fun _=>H) (fun _=>ownS (ZX_ C) 3 24 47 HS (.slice base xs.length cp) xs::a::R) (fun k=>xs.length - k) 0 ⟨Nat.zero_le _,fun i _ h=>by omega⟩ fun k ⟨hk0,hno⟩ K hL=>?_;refine walk ?_;refine Qe_ rfl (fun hk=>?_) (fun hk=>?_)
 ·have hk1:k<xs.length:=by omega
  refine walk ?_;refine qbp_ rfl rfl rfl hk1 fun c hc=>?_;refine zaU_ rfl rfl rfl (hask c _ (RdOk.mono hl hc)) fun r H' B hl' ⟨er,eB,eH⟩=>?_;subst er eB eH;refine walk ?_;refine QI_ rfl Iff.rfl (fun hp=>?_) (fun hp=>?_)
  ·refine walk ?_;refine finB [ownS (ZX_ C) 3 24 47 HS (.slice base xs.length cp) xs,a] ?_;exact ⟨rfl,rfl,k,hk0,hno,.inr ⟨hk1,hp,rfl⟩⟩
  ·exact v65_
 ·refine walk ?_;refine finB [ownS (ZX_ C) 3 24 47 HS (.slice base xs.length cp) xs,a] ?_;exact v95_
theorem QcA_ {W0:World} {H HS:Heap} {v:Value} {xs:List Txn} {f:FuncId} {cap:List Value} {a:za_} {p:Txn→Bool} [hf:TFn Tryz.prog f] (hl:HS.le H) (hask:Asks Tryz.prog W0 H (ZX_ C) f cap (fun c=> .agg c.toArray) [a] p):
  Ct Tryz.prog 85 #[v,.func (.func f) #[] cap.toArray] W0 H [ownS (ZX_ C) 3 24 47 HS v xs,a] (fun r H' B=>B=[ownS (ZX_ C) 3 24 47 HS r (xs.filter fun x=> !p x),a]∧H'=H):=by
 refine Ct.go fun R=>?_;refine walk ?_;refine Za_ rfl rfl (zcA_ (v:=v) (xs:=xs) hl hask) fun r1 H1 B hl1 ⟨eB,eH,j,hj,hno,hcase⟩=>?_;subst eB eH;rcases hcase with ⟨rfl,rfl⟩ | ⟨hj1,hpj,rfl⟩
 ·refine walk ?_;refine finB [ownS (ZX_ C) 3 24 47 HS v xs,a] ?_;refine ⟨?_,rfl⟩;rw [List.filter_eq_self.2 fun x hx=>?_];obtain ⟨i,hi,rfl⟩:=List.getElem_of_mem hx;simp [hno i hi hi]
 refine Qal_ v (by omega) fun b cp cs sp e g1 g2 g3 g4 hr hsm=>?_;subst e;refine walk ?_
 have hfj:(xs.take (j+1)).filter (fun x=> !p x)=xs.take j:=by
  rw [List.take_succ_eq_append_getElem hj1,List.filter_append,List.filter_eq_self.2 fun x hx=>?_]
  ·simp [hpj]
  ·obtain ⟨i,hi,rfl⟩:=List.getElem_of_mem hx;simp only [List.length_take] at hi;simp [List.getElem_take,hno i (by omega) (by omega)]
 have hmj:(j+1)*3≤cs.length:=by rw [g3];exact Nat.mul_le_mul_right _ hj1
 refine Qc_ (σ:=Nat×Nat×List Value×List Value) (fun s=>s.1≤xs.length∧RL (ZX_ C) HS s.2.2.1 ((xs.take s.1).filter fun x=> !p x)∧s.2.1=((xs.take s.1).filter fun x=> !p x).length∧s.2.1<s.1∧s.2.2.2.length=(s.1 - s.2.1)*3∧s.2.2.2.all (·.oneCell')=true)
  (fun s=>[(0,.slice (some ⟨b,0,none⟩) xs.length cp),(1,.func (.func f) #[] cap.toArray),(5,I s.2.1),(6,I s.1)]) (fun _=>H1) (fun s=>row b 47 (s.2.2.1++s.2.2.2++cs.drop (s.1*3)++sp)::a::R) (fun s=>xs.length - s.1) (j+1,j,cs.take (j*3),(cs.drop (j*3)).take 3) ?h0 (hs0:=?hs) fun ⟨k,i,A,J⟩ ⟨hk0,hA,hi,hik,hJ,hJ1⟩ K hL=>?_
 case h0=>
  refine ⟨hj1,?_,?_,Nat.lt_succ_self _,?_,?_⟩
  ·simp only;rw [hfj];exact hr.take hj
  ·simp only;rw [hfj];simp;omega
  ·simp only [List.length_take,List.length_drop];omega
  ·have h5:=hr.one;simp only [List.all_eq_true] at h5⊢;exact fun x hx=>h5 x (List.mem_of_mem_drop (List.mem_of_mem_take hx))
 case hs=>
  dsimp only
  have e:cs.take (j*3)++(cs.drop (j*3)).take 3++cs.drop ((j+1)*3)=cs:=by
   rw [show (j+1)*3=j*3+3 by omega,←List.drop_drop,List.append_assoc,List.take_append_drop,List.take_append_drop]
  rw [e];exact subA
 simp only at hk0 hA hi hik hJ hJ1;dsimp only;have hAl:=hA.len;rw [←hi] at hAl;have hAJ:(A++J).length=k*3:=by rw [List.length_append,hAl,hJ,←Nat.add_mul];congr 1;omega
 refine walk ?_;refine Qe_ rfl (fun hk=>?_) (fun hk=>?_)
 ·have hk1:k<xs.length:=by omega
  obtain ⟨c,r,hcr,hc⟩:=hr.get hk1;have hcl:c.length=3:=RdOk.len hc
  have hr':cs.drop ((k+1)*3)=r:=by
   rw [show (k+1)*3=k*3+3 by omega,←List.drop_drop,hcr,←hcl,List.drop_left]
  have hft:(xs.take (k+1)).filter (fun x=> !p x)=(xs.take k).filter (fun x=> !p x)++[xs[k]].filter (fun x=> !p x):=by
   rw [List.take_succ_eq_append_getElem hk1,List.filter_append]
  refine walk ?_;refine Zdr_ (us:=c) rfl rfl (fun o u ho=>?_) hcl ?_
  ·rw [hcr,show 0+k*3+o=(A++J).length+o by rw [hAJ];omega,List.append_assoc (A++J),List.getElem?_append_right (by omega)];rw [show (A++J).length+o - (A++J).length=o by omega,List.append_assoc,List.getElem?_append_left (List.getElem?_eq_some_iff.1 ho).1];exact ho
  refine Qb_ rfl fun p7 _=>?_;refine QcQ_ rfl hcl rfl (RdOk.one hc) ?_;refine walk ?_;refine ZbD_ rfl rfl hcl ?_;refine zaU_ rfl rfl rfl (hask c _ (RdOk.mono hl hc)) fun r2 H2 B hl2 ⟨er,eB,eH⟩=>?_;subst er eB eH;refine walk ?_;refine QI_ rfl Iff.rfl (fun hp=>?_) (fun hp=>?_)
  ·refine walk ?_;refine ZbD_ rfl rfl hcl ?_;refine walk ?_;refine Zbo_ (zN_ (b:=b) (off:=0+i*3) (vs:=c) (cs:=A++J++cs.drop (k*3)++sp) rfl rfl rfl hcl (RdOk.one hc) (by repeat (first | exact Has.here | apply Has.there)) ?_ ?_)
   ·rw [List.length_append,List.length_append,hAJ,hcl];have:(i+1)*3≤k*3:=Nat.mul_le_mul_right _ hik;omega
   refine walk ?_;refine Zb_ hL (k+1,i+1,A++c,J.drop 3++c) ⟨by simp only;omega,?_,?_,by simp only;omega,?_,?_⟩ (hs:=?_)
   ·simp only;rw [hft];simp only [hp,List.filter_cons,List.filter_nil,if_true];exact hA.snoc hc
   ·simp only;rw [hft,List.length_append,←hi];simp [hp]
   ·simp only [List.length_append,List.length_drop,hJ,hcl];have:k+1 - (i+1)=k - i:=by omega
    rw [this];have:1*3≤(k - i)*3:=Nat.mul_le_mul_right _ (by omega);omega
   ·simp only [List.all_append,Bool.and_eq_true];refine ⟨?_,RdOk.one hc⟩;simp only [List.all_eq_true] at hJ1⊢;exact fun x hx=>hJ1 x (List.mem_of_mem_drop hx)
   ·dsimp only;have hJs:3≤J.length:=by rw [hJ];have:1*3≤(k - i)*3:=Nat.mul_le_mul_right _ (by omega);omega
    have e:(A++J++cs.drop (k*3)++sp).take (0+i*3)++c++(A++J++cs.drop (k*3)++sp).drop (0+i*3+c.length)=A++c++(J.drop 3++c)++cs.drop ((k+1)*3)++sp:=by
     rw [hr',hcr,hcl,Nat.zero_add,←hAl];simp only [List.append_assoc];rw [List.take_left,←List.drop_drop,List.drop_left,List.drop_append_of_le_length hJs]
    rw [e];exact subA
  ·refine walk ?_;refine Zb_ hL (k+1,i,A,J++c) ⟨by simp only;omega,?_,?_,by simp only;omega,?_,?_⟩ (hs:=?_)
   ·simp only;rw [hft];simp at hp;simp [hp];exact hA
   ·simp only;rw [hft];simp at hp;simp [hp,hi]
   ·simp only [List.length_append,hJ,hcl];rw [show k+1 - i=(k - i)+1 by omega,Nat.add_mul]
   ·simp only [List.all_append,Bool.and_eq_true];exact ⟨hJ1,RdOk.one hc⟩
   ·dsimp only;have e:A++(J++c)++cs.drop ((k+1)*3)++sp=A++J++cs.drop (k*3)++sp:=by rw [hr',hcr];simp [List.append_assoc]
    rw [e];exact subA
 ·have hke:k=xs.length:=by omega
  subst hke;rw [List.take_length] at hA hi;have hd0:cs.drop (xs.length*3)=[]:=List.drop_eq_nil_of_le (by omega);rw [hd0,List.append_nil];refine walk ?_;refine Zbo_ (qbr_ (b:=b) (m:=xs.length - i) (cap:=cp - i) (off:=0+i*3) (cs:=A++J++sp) rfl (by repeat (first | exact Has.here | apply Has.there)) ?_ (by decide+kernel) fun zs hz=>?_)
  ·rw [List.length_append,hAJ,Nat.zero_add,←Nat.add_mul];have:(i+(xs.length - i))*3=xs.length*3:=by congr 1;omega
   omega
  refine walk ?_;refine finB [ownS (ZX_ C) 3 24 47 HS (.slice (some ⟨b,0,none⟩) i cp) (xs.filter fun x=> !p x),a] ?_ (hs:=?_)
  ·exact ⟨rfl,rfl⟩
  have e:(A++J++sp).take (0+i*3)++zs++(A++J++sp).drop (0+i*3+(xs.length - i)*3)=A++(zs++sp):=by
   have e2:0+i*3+(xs.length - i)*3=(A++J).length:=by rw [hAJ,Nat.zero_add,←Nat.add_mul];congr 1;omega
   rw [e2,List.drop_left,Nat.zero_add,←hAl,List.append_assoc A,List.take_left,List.append_assoc]
  rw [e];have hle:(xs.filter fun x=> !p x).length≤xs.length:=List.length_filter_le _ _;refine Sub.trans (QE_ (m:=i) (cap:=cp) hAl (by omega) g2 ?_) ?_
  ·rw [List.length_append,List.length_append,hAl,hz,←Nat.add_assoc,←Nat.add_mul];rw [show i+(xs.length - i)=xs.length by omega];rw [List.length_append,g3] at g4;exact g4
  ·rw [hi];exact (QK_ hA (Nat.le_trans (Nat.mul_le_mul_right _ hle) hsm)).trans subA
end
def vO (H:Heap) (p1 p mb:Nat) (s:CS) (zs:List CE):za_:=fun h=>big [row p1 89 [.pointer (some ⟨p,0,none⟩)],cRow p mb s,cMap mb zs,bigL (xA H) zs] h
theorem qdx_ {W0:World} {H H1:Heap} {p1 p mb:Nat} {s:CS} {zs:List CE} (hnd:(zs.map CE.k).Nodup):Asks Tryz.prog W0 H (ZX_ fun x=>∃e∈zs,e.k=x.k) 86 [.pointer (some ⟨p1,0,none⟩)] (fun c=> .agg c.toArray) [vO H1 p1 p mb s zs] (fun x=>((mget x.k (tsC zs)).getD zTX).op):=by
 intro c x hc;refine Ct.go (vs:=[.agg c.toArray,.pointer (some ⟨p1,0,none⟩)]) fun R=>?_;obtain ⟨⟨rfl,_⟩,e,he,hk⟩:=hc;obtain ⟨x1,x2,x3⟩:=x;obtain ⟨l1,l2,rfl⟩:=List.append_of_mem he;have hg1:mget (x1,x2,x3) (msC (l1++e::l2))=some (ptrC e.p):=by rw [show ((x1,x2,x3):K3)=e.k from hk.symm];exact zcI_ (f:=fun e=>ptrC e.p) hnd he
 have hg2:mget (⟨x1,x2,x3⟩:Txn).k (tsC (l1++e::l2))=some e.x:=by rw [←hk];exact zcI_ (f:=CE.x) hnd he
 dsimp only;rw [hg2,Option.getD_some];refine Qj_ (A:=vO H1 p1 p mb s (l1++e::l2)) (σ:=Unit) (B:=fun _=>[row p1 89 [.pointer (some ⟨p,0,none⟩)],cRow p mb s,cMap mb (l1++e::l2),bigL (xA H1) (l1++e::l2)]) (p:=fun _=>True) (by repeat (first | exact Has.here | apply Has.there)) (fun h hb=>⟨(),trivial,hb⟩) fun _ _=>?_;obtain ⟨⟨ka,kb,kc⟩,ep,ev,⟨op,began,parts,works,heard⟩⟩:=e;dsimp only at hg1 hk;refine ex_L (L':=xA H1 ⟨(ka,kb,kc),ep,ev,⟨op,began,parts,works,heard⟩⟩::bigL (xA H1) (l1++l2)::row p1 89 [.pointer (some ⟨p,0,none⟩)]::cRow p mb s::cMap mb (l1++⟨(ka,kb,kc),ep,ev,⟨op,began,parts,works,heard⟩⟩::l2)::R) (Sub.trans subA ZZ_) ?_;refine Qj_ (A:=xA H1 ⟨(ka,kb,kc),ep,ev,⟨op,began,parts,works,heard⟩⟩) (σ:=Value×Nat) (B:=fun a=>[xRow ⟨(ka,kb,kc),ep,ev,⟨op,began,parts,works,heard⟩⟩ a.1 a.2,zs_ H1 ⟨(ka,kb,kc),ep,ev,⟨op,began,parts,works,heard⟩⟩ a.1,QA_ H1 ⟨(ka,kb,kc),ep,ev,⟨op,began,parts,works,heard⟩⟩ a.2]) (p:=fun a=>SlB rInt 1 8 H1 (CE.v ⟨(ka,kb,kc),ep,ev,⟨op,began,parts,works,heard⟩⟩) (CE.x ⟨(ka,kb,kc),ep,ev,⟨op,began,parts,works,heard⟩⟩).parts) (by repeat (first | exact Has.here | apply Has.there)) (fun h ⟨hs,wv,hb,hbig⟩=>⟨(wv,hb),hs,hbig⟩) fun ⟨wv,hb⟩ hsl2=>?_;dsimp only at hsl2⊢;obtain ⟨bs,cs,rfl,hcs,hds⟩:=hsl2.1.shape;have hzs:l1++(⟨(ka,kb,kc),ep,.slice bs parts.length cs,⟨op,began,parts,works,heard⟩⟩:CE)::l2=l1++⟨(ka,kb,kc),ep,.slice bs parts.length cs,⟨op,began,parts,works,heard⟩⟩::l2:=rfl;refine walk ?_;refine qc_ rfl rfl fun p2 _=>?_;refine walk ?_;refine qbW_ (RV:=rVal) (val:=fun x:Value=>x) (z:= .pointer none) rfl rfl ((by repeat (first | exact Has.here | apply Has.there))) ?_;rw [hg1,Option.getD_some];refine walk ?_;refine finB [vO H1 p1 p mb s (l1++⟨(ka,kb,kc),ep,.slice bs parts.length cs,⟨op,began,parts,works,heard⟩⟩::l2)] ?_ (hs:=?_)
 ·exact v119_
 ·refine Sub.trans (B:=xRow ⟨(ka,kb,kc),ep,.slice bs parts.length cs,⟨op,began,parts,works,heard⟩⟩ wv hb::zs_ H1 ⟨(ka,kb,kc),ep,.slice bs parts.length cs,⟨op,began,parts,works,heard⟩⟩ wv::QA_ H1 ⟨(ka,kb,kc),ep,.slice bs parts.length cs,⟨op,began,parts,works,heard⟩⟩ hb::bigL (xA H1) (l1++l2)::row p1 89 [.pointer (some ⟨p,0,none⟩)]::cRow p mb s::cMap mb (l1++⟨(ka,kb,kc),ep,.slice bs parts.length cs,⟨op,began,parts,works,heard⟩⟩::l2)::R) subA ?_;refine (ZN_ hsl2 (.refl _)).trans ?_;refine bigL_in.trans ?_;refine qB_ (B:=[row p1 89 [.pointer (some ⟨p,0,none⟩)],cRow p mb s,cMap mb (l1++⟨(ka,kb,kc),ep,.slice bs parts.length cs,⟨op,began,parts,works,heard⟩⟩::l2),bigL (xA H1) (l1++⟨(ka,kb,kc),ep,.slice bs parts.length cs,⟨op,began,parts,works,heard⟩⟩::l2)]) subA fun h hb=>hb
theorem Qea_ {C:Txn→Prop} {H:Heap}:∀{cs:List Value} {xs:List Txn},RL rTxn H cs xs→(∀x∈xs,C x)→RL (ZX_ C) H cs xs
 | cs,[],h,_=>h
 | cs,x::xs,⟨c,r,e,h1,h2⟩,hc=>⟨c,r,e,⟨h1,hc x (List.mem_cons_self ..)⟩,Qea_ h2 fun y hy=>hc y (List.mem_cons_of_mem _ hy)⟩
theorem ZdB_ {C:Txn→Prop} {H:Heap}:∀{cs:List Value} {xs:List Txn},RL (ZX_ C) H cs xs→RL rTxn H cs xs
 | cs,[],h=>h
 | cs,x::xs,⟨c,r,e,h1,h2⟩=>⟨c,r,e,h1.1,ZdB_ h2⟩
theorem Qei_ {C:Txn→Prop} {H:Heap} {T:Nat} {v:Value} {xs:List Txn} {L:List za_} (h:∀x∈xs,C x):Sub (ownS rTxn 3 24 T H v xs::L) (ownS (ZX_ C) 3 24 T H v xs::L):=fun hp ⟨h1,h2,⟨cs,⟨a,b⟩,c⟩,r⟩=>⟨h1,h2,⟨cs,⟨Qea_ a h,b⟩,c⟩,r⟩
theorem tx_out {C:Txn→Prop} {H:Heap} {T:Nat} {v:Value} {xs:List Txn} {L:List za_}:Sub (ownS (ZX_ C) 3 24 T H v xs::L) (ownS rTxn 3 24 T H v xs::L):=fun hp ⟨h1,h2,⟨cs,⟨a,b⟩,c⟩,r⟩=>⟨h1,h2,⟨cs,⟨ZdB_ a,b⟩,c⟩,r⟩
theorem zbZ_ {W0:World} {H:Heap} {p n:Nat} {s:CS} (I0:CInv n s) (hn:n≤1000):
  Ct Tryz.prog 48 #[.pointer (some ⟨p,0,none⟩)] W0 H [qj_ H p s] (fun r H' B=>B=[ownS rTxn 3 24 47 H' r (zad_ s),qj_ H' p s]):=by
 refine Ct.go (vs:=[.pointer (some ⟨p,0,none⟩)]) fun R=>?_;have hln:=I0.ln;refine Qj_ (A:=qj_ H p s) (σ:=Nat×List CE) (B:=fun a=>[cRow p a.1 s,cMap a.1 a.2,bigL (xA H) a.2]) (p:=fun a=>CS.ts s=tsC a.2) (by repeat (first | exact Has.here | apply Has.there)) (fun h ⟨mb,zs,hb,hk⟩=>⟨(mb,zs),hk,hb⟩) fun ⟨mb,zs⟩ hts=>?_;dsimp only at hts⊢;obtain ⟨hnd,hent⟩:=I0.entry hts;refine walk ?_;refine qc_ rfl rfl fun p1 _=>?_;refine walk ?_;refine Za_ rfl rfl (zcp_ (p:=p) (mb:=mb) hts I0.keyfit (by simp only [zb_];omega)) fun r1 H1 B hl1 ⟨eB,eH⟩=>?_;subst eB eH;refine walk ?_
 have hmem:∀x∈(allC s).map toTx,∃e∈zs,e.k=x.k:=fun x hx=>by
  obtain ⟨k,hk,rfl⟩:=List.mem_map.1 hx;rw [Qav_] at hk;rcases qbR_ zs k with ⟨l1,e,l2,rfl,he⟩ | h
  ·exact ⟨e,by simp,by rw [he,ZV_]⟩
  ·rw [hts,Qcg_ (f:=CE.x) h] at hk;cases hk
 refine zr_ (L':=ownS (ZX_ fun x=>∃e∈zs,e.k=x.k) 3 24 47 H1 r1 ((allC s).map toTx)::vO H1 p1 p mb s zs::R) ?_ ?_
 ·refine Sub.trans (B:=ownS rTxn 3 24 47 H1 r1 ((allC s).map toTx)::row p1 89 [.pointer (some ⟨p,0,none⟩)]::cRow p mb s::cMap mb zs::bigL (xA H1) zs::R) subA ?_;refine (Qei_ hmem).trans (Sub.cons ?_);exact qB_ (B:=[row p1 89 [.pointer (some ⟨p,0,none⟩)],cRow p mb s,cMap mb zs,bigL (xA H1) zs]) (Sub.refl _) fun h hb=>hb
 refine Za_ rfl rfl (QcA_ (W0:=W0) (H:=H1) (HS:=H1) (v:=r1) (xs:=(allC s).map toTx) (.refl _) (qdx_ (H:=H1) (H1:=H1) (p1:=p1) (p:=p) (mb:=mb) (s:=s) (zs:=zs) hnd)) fun r2 H2 B hl2 ⟨eB,eH⟩=>?_;subst eB eH
 have hv:(((allC s).map toTx).filter fun x=> !((mget x.k (tsC zs)).getD zTX).op)=zad_ s:=by
  unfold zad_;rw [List.filter_map,←hts];rfl
 rw [hv];refine walk ?_;refine finB [ownS rTxn 3 24 47 H2 r2 (zad_ s),qj_ H2 p s] ?_ (hs:=?_)
 ·exact rfl
 ·refine Sub.trans (B:=ownS (ZX_ fun x=>∃e∈zs,e.k=x.k) 3 24 47 H2 r2 (zad_ s)::vO H2 p1 p mb s zs::R) subA ?_;refine tx_out.trans (Sub.cons ?_);refine (qaz_ (B:=[row p1 89 [.pointer (some ⟨p,0,none⟩)],cRow p mb s,cMap mb zs,bigL (xA H2) zs]) fun h hb=>hb).trans ?_;refine Sub.trans ?_ (ZaC_ (H:=H2) (mb:=mb) hts (.refl _));exact subA
end Go.Proofs.YtlflbkpmfhhikaaGreatDoor
