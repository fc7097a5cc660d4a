/- A move is played: those of the net, of time, of power; those that fit not. -/
import Derived.Test.YtlflbkpmfhhikaaGreatDoorJTL
import Derived.Test.YtlflbkpmfhhikaaGreatDoorJTO
import Derived.Test.YtlflbkpmfhhikaaGreatDoorJTR
import Derived.Test.YtlflbkpmfhhikaaGreatDoorJXC
import Derived.Test.YtlflbkpmfhhikaaGreatDoorJXE
set_option maxHeartbeats 16000000
set_option maxRecDepth 100000
set_option linter.unusedVariables false
set_option linter.unusedSimpArgs false
namespace Go.Proofs.YtlflbkpmfhhikaaGreatDoor
open Go Go.Sx Go.Proofs
def neC (es:List NE):List Value:=(es.map NE.cv).flatten
theorem QcR_:∀{es:List NE} {cs:List Value},RL rNE Heap.empty cs es↔cs=neC es
 | [],cs=>Iff.rfl
 | e::es,cs=>by
  constructor
  ·rintro ⟨c,r,rfl,h1,h2⟩;rw [QcR_.1 h2,show c=e.cv from h1];rfl
  ·rintro rfl;exact ⟨e.cv,neC es,rfl,rfl,QcR_.2 rfl⟩
theorem ZT_:∀{es:List NE},(neC es).length=es.length*3
 | []=>rfl
 | e::es=>by
  show (e.cv++neC es).length=(es.length+1)*3;rw [List.length_append,ZT_];show 3+es.length*3=(es.length+1)*3;omega
theorem Zal_ {sp:List Value}:∀{es:List NE} {i k:Nat} {v:Value} (hi:i<es.length),es[i].cv[k]?=some v→(neC es++sp)[i*3+k]?=some v
 | [],i,k,v,hi,h=>by cases hi
 | e::es,0,k,v,hi,h=>by
  have hk:k<3:=(List.getElem?_eq_some_iff.1 h).1;show (e.cv++neC es++sp)[0*3+k]?=_;rw [List.append_assoc,List.getElem?_append_left (by show _<3;omega),show 0*3+k=k by omega];exact h
 | e::es,i+1,k,v,hi,h=>by
  show (e.cv++neC es++sp)[(i+1)*3+k]?=_;rw [List.append_assoc,List.getElem?_append_right (by show 3≤_;omega),show (i+1)*3+k - e.cv.length=i*3+k by show (i+1)*3+k - 3=_;omega];exact Zal_ (by simpa using hi) h
theorem qbG_ {sp:List Value} {e':NE} {v:Value} {k:Nat} (hk:k<3):∀{es:List NE} {i:Nat} (hi:i<es.length),es[i].cv.set k v=e'.cv→(neC es++sp).set (i*3+k) v=neC (es.set i e')++sp
 | [],i,hi,h=>by cases hi
 | e::es,0,hi,h=>by
  show (e.cv++neC es++sp).set (0*3+k) v=(e'.cv++neC es)++sp;rw [List.append_assoc,List.append_assoc,show 0*3+k=k by omega,List.set_append_left _ _ (by show _<3;omega)];congr 1
 | e::es,i+1,hi,h=>by
  show (e.cv++neC es++sp).set ((i+1)*3+k) v=(e.cv++neC (es.set i e'))++sp;rw [List.append_assoc,List.append_assoc,List.set_append_right _ _ (by show 3≤_;omega),show (i+1)*3+k - e.cv.length=i*3+k by show (i+1)*3+k - 3=_;omega];congr 1;exact qbG_ hk (by simpa using hi) h
theorem qaM_ {l:List Value} {j:Nat} {v:Value} (h:j<l.length):l.take j++[v]++l.drop (j+[v].length)=l.set j v:=by
 rw [List.set_eq_take_append_cons_drop,if_pos h];simp
theorem zdu_ {es:List NE} {b cap:Nat} {sp:List Value} {L:List za_} (h1:es.length≤cap) (h2:cap≤9223372036854775807) (h4:(neC es++sp).length=cap*3) (h6:es.length*24≤Qb_):
  Sub (row b 92 (neC es++sp)::L) (wNs (.slice (some ⟨b,0,none⟩) es.length cap) es::L):=
 (zJ_ ZT_ h1 h2 h4).trans (qR_ (QcR_.2 rfl) h6)
def absP (s:PS):Part:=⟨s.sh,⟨qx_ s.t,prepL s.t⟩,(qaR_ s).map toR⟩
theorem QaV_ {n:Nat} {s:PS} (I:PInv n s):PRel s (absP s):=⟨rfl,zdG_ I.t,qap_ I.dd⟩
theorem HSpec.ext {l:List Hold} {f g:ByteArray→Option Int} (h:HSpec l f) (h':HSpec l g) (k:ByteArray):f k=g k:=by
 have key:∀{f g:ByteArray→Option Int},HSpec l f→HSpec l g→∀{v},f k=some v→g k=some v:=fun {f g} h h' {v} hf=>(h'.mem ⟨k,v⟩).1 ((h.mem ⟨k,v⟩).2 hf)
 cases hf:f k with
 | some v=>exact (key h h' hf).symm
 | none=>
  cases hg:g k with
  | none=>rfl
  | some v=>rw [key h' h hg] at hf;cases hf
theorem qcq_ {n:Nat} {s:PS} {s':TS} {d':List (K3×Int)} (I:PInv n s) (g3:Rel s' (absP s).T) (k3:∀k,mget k d'=mget k s.done):PSame s ⟨s.sh,s',d'⟩:=
 ⟨rfl,fun k=>g3.p.ext (QaV_ I).r.p k,fun k=>g3.h.ext (QaV_ I).r.h k,k3⟩
def qer_ (n:Nat) (H':Heap) (p nb:Nat) (nv lv:Value) (w:PW) (i:Nat) (B:List za_):Prop:=
  ∃w' es',PCrash n w i w'∧w'.ns=es'.map NE.q∧B=[wRow p nv nb w'.now lv,wNs nv es',bigL (ndP H') es',bigL (ndC H') es',Net.netO H' (ptrC nb) w'.net]
theorem ZdR_ {P:Program} {f:FuncId} {vs:Array Value} {W0:World} {H:Heap} {A A':za_} {A2:List za_} {Post:Value→Heap→List za_→Prop} (h:Ct P f vs W0 H (A'::A2) Post) (hu:∀h,A h→A' h):Ct P f vs W0 H (A::A2) Post:=
 Ct.open (σ:=Unit) (B:=fun _=>[A']) (fun h ha=>⟨(),Zci_ (hu h ha)⟩) fun _=>h
theorem qbu_ {W0:World} {H:Heap} {p nb n i:Nat} {nv lv:Value} {w:PW} {es:List NE} (hns:w.ns=es.map NE.q) (KW:WOk n w) (hil:i<es.length):
  Ct Tryz.prog 40 #[ptrC p,I i] W0 H [wRow p nv nb w.now lv,wNs nv es,bigL (ndP H) es,bigL (ndC H) es,Net.netO H (ptrC nb) w.net] (fun r H' B=>qer_ n H' p nb nv lv w i B):=by
 refine Ct.go (vs:=[ptrC p,I i]) fun R=>?_;have hwl:i<w.ns.length:=by rw [hns,List.length_map];exact hil
 have hwi:w.ns[i]=es[i].q:=by simp only [hns,List.getElem_map]
 have hmem:=ZaH_ hns hil;have IP:=KW.p _ hmem;have IC:=KW.c _ hmem;have hpl:=KW.pl _ hmem;have hfl:=KW.fn _ hmem;have hn:=KW.n;refine qs_ nv fun base cap e _ _ _=>?_;subst e;refine walk ?_;refine zab_ (.slice base es.length cap) (by omega) fun b2 cap2 cs sp e q1 q2 q3 q4 q5 q6=>?_
 cases e
 obtain rfl:=QcR_.1 q5;refine walk ?_;have hlc:i*3+3≤(neC es++sp).length:=by rw [List.length_append,ZT_];omega
 refine zeb_ (v:=I es[i].q.cs.life) rfl rfl (by rw [Nat.zero_add];exact Zal_ hil rfl) ?_;obtain ⟨e1,he1⟩:∃e1:NE,e1=⟨es[i].pp,es[i].cp,⟨es[i].q.ps,⟨es[i].q.cs.node,es[i].q.cs.life+1,es[i].q.cs.count,es[i].q.cs.ts⟩⟩⟩:=⟨_,rfl⟩;have hc1:(neC es++sp).set (i*3+2) (I (es[i].q.cs.life+1))=neC (es.set i e1)++sp:=qbG_ (by omega) hil (by rw [he1];rfl);refine walk ?_;refine Qeb_ (cs':=neC (es.set i e1)++sp) rfl rfl rfl (by simp only [Nat.zero_add];show _+1≤_;omega) (by rw [←hc1,Nat.zero_add];exact qaM_ (by omega)) ?_;refine walk ?_;have hl1i:i<(es.set i e1).length:=by rw [List.length_set];exact hil
 have hg1:(es.set i e1)[i]=e1:=by rw [List.getElem_set_self]
 have hp1:(neC (es.set i e1)++sp)[0+i*3]?=some (ptrC es[i].pp):=by rw [Nat.zero_add];exact Zal_ (k:=0) hl1i (by rw [hg1,he1];rfl)
 have hok1:TsOk es[i].q.ps.t:=IP.t.ok (by omega);refine ex_L (L':=ndP H es[i]::bigL (ndP H) (es.take i++es.drop (i+1))::row b2 92 (neC (es.set i e1)++sp)::wRow p (.slice (some ⟨b2,0,none⟩) es.length cap) nb w.now lv::bigL (ndC H) es::Net.netO H (ptrC nb) w.net::R) ?_ ?_
 ·refine Sub.trans (B:=bigL (ndP H) es::row b2 92 (neC (es.set i e1)++sp)::wRow p (.slice (some ⟨b2,0,none⟩) es.length cap) nb w.now lv::bigL (ndC H) es::Net.netO H (ptrC nb) w.net::R) subA (zV_ hil)
 refine Zg_ (A:=Zn_ H es[i].pp (NE.q es[i]).ps) (σ:=Nat×Nat) (B:=fun a=>[pRow es[i].pp a.1 (PS.sh (NE.q es[i]).ps) a.2,tabO H a.1 (PS.t (NE.q es[i]).ps),dMap H a.2 (NE.q es[i]).ps]) (p:=fun _=>True) (by repeat (first | exact Has.here | apply Has.there)) (fun h ⟨tp,db,hbig⟩=>⟨(tp,db),trivial,hbig⟩) fun ⟨tp,db⟩ _=>?_;dsimp only;refine ex_z 30 ?_;refine zcH_ 0 rfl rfl ?_;refine qef_ 25 [row b2 92 (neC (es.set i e1)++sp),pRow es[i].pp tp es[i].q.ps.sh db] ?_;refine qa_ 1 ?_;refine qa_ 2 ?_;refine qa_ 3 ?_;refine qa_ 4 ?_;refine Zag_ 5 rfl rfl rfl hp1 ?_;refine qa_ 6 ?_;refine qa_ 7 ?_;refine qa_ 8 ?_;refine qa_ 10 ?_;refine qa_ 11 ?_;refine qa_ 12 ?_;refine Zag_ 13 rfl rfl rfl hp1 ?_;refine qa_ 14 ?_;refine qa_ 15 ?_;refine qa_ 16 ?_;refine qa_ 18 ?_;refine qa_ 19 ?_;refine qa_ 20 ?_;refine Zag_ 21 rfl rfl rfl hp1 ?_
 have hks:∀q∈prepL es[i].q.ps.t,q.Work.ks.length*16≤Qb_:=fun q hq=>by
  have:=(IP.t.ww _ _ (IP.t.recs hq)).1.1.ks_len;simp only [Qb_];omega
 have hplen:(prepL es[i].q.ps.t).length≤1000000:=by have:=IP.t.wn;unfold prepL;rw [List.length_map,qC_,List.length_map];omega
 refine qe_ 9 rfl rfl rfl (zbs_ (W0:=W0) (H:=H) (p:=tp) hok1) fun r1 H1 B hl1 eB=>?_;subst eB;refine ⟨subA,?_⟩;refine qf_ r1 fun H2 hl2 hsh=>?_;refine zbJ_ (L':=tabO H2 tp es[i].q.ps.t::pRow es[i].pp tp es[i].q.ps.sh db::dMap H db es[i].q.ps::bigL (ndP H) (es.take i++es.drop (i+1))::row b2 92 (neC (es.set i e1)++sp)::wRow p (.slice (some ⟨b2,0,none⟩) es.length cap) nb w.now lv::bigL (ndC H) es::Net.netO H (ptrC nb) w.net::R) ?_ ?_
 ·refine Sub.trans ?_ (zai_ hl2);exact subA
 refine qe_ 17 rfl rfl rfl (ZG_ (W0:=W0) (H:=H2) (p:=tp) hok1) fun r3 H3 B hl3 eB=>?_;subst eB;refine ⟨subA,?_⟩;refine qf_ r3 fun H4 hl4 hsp=>?_;refine qe_ 22 rfl rfl rfl (qcS_ (W0:=W0) (H:=H4) (p:=es[i].pp) (tp:=tp) (db:=db) (Ht:=H3) (Hd:=H) IP (by omega) hl4 (hl1.trans (hl2.trans (hl3.trans hl4)))) fun r5 H5 B hl5 eB=>?_;subst eB;refine ⟨subA,?_⟩;refine qf_ r5 fun H6 hl6 hsd=>?_;have hrel:=(QaV_ IP).r
 refine qe_ 23 rfl rfl rfl (zcS_ (W0:=W0) (H:=H6) (sh:=(i:Int)) (hsh.mono (hl3.trans (hl4.trans (hl5.trans hl6)))) (hsp.mono (hl5.trans hl6)) hsd hplen hks (fun s' a' hLP=>by
  obtain ⟨g1,g2,g3⟩:=ZcE_ IP.t hrel hLP;exact ⟨g1,g2.ok (by omega),g2.wd⟩)) fun r7 H7 B hl7 ⟨s',a',p',hLP,hQ⟩=>?_
 obtain ⟨g1,g2,g3⟩:=ZcE_ IP.t hrel hLP;obtain ⟨d',k1,k2,k3,k4⟩:=qdg_ (n':=n) (t:=s') IP (fun k=>g3.p.ext hrel.p k);rcases hQ with ⟨hQ,_⟩ | ⟨d2,hd2,er,eB⟩
 ·rw [k1] at hQ;cases hQ
 rw [k1] at hd2
 cases hd2
 subst er eB;obtain ⟨hI',hR'⟩:=IP.loaded (QaV_ IP) g2 g3 k2 k3 k4;have hsame:=qcq_ IP g3 k3;refine ⟨subA,?_⟩;refine qa_ 24 ?_;refine qaj_ 30 [] ?_;refine zd_ 25 rfl rfl rfl rfl ?_;refine zd_ 26 rfl rfl rfl rfl ?_;refine qa_ 27 ?_;refine qa_ 28 ?_;have hl2c:i*3+3≤(neC (es.set i e1)++sp).length:=by rw [List.length_append,ZT_,List.length_set];omega
 obtain ⟨e2,he2⟩:∃e2:NE,e2=⟨p',es[i].cp,⟨es[i].q.ps,⟨es[i].q.cs.node,es[i].q.cs.life+1,es[i].q.cs.count,es[i].q.cs.ts⟩⟩⟩:=⟨_,rfl⟩
 have hc2:(neC (es.set i e1)++sp).set (i*3+0) (ptrC p')=neC (es.set i e2)++sp:=by
  rw [qbG_ (e':=e2) (by omega) hl1i (by rw [hg1,he1,he2];rfl),List.set_set]
 refine zk_ 29 (cs':=neC (es.set i e2)++sp) rfl rfl rfl rfl (by simp only [Nat.zero_add];show _+1≤_;omega) (by rw [←hc2,Nat.zero_add];exact qaM_ (by omega)) ⟨subA,?_⟩;refine qb_ rfl ?_;refine walk ?_;have hl2i:i<(es.set i e2).length:=by rw [List.length_set];exact hil
 have hg2:(es.set i e2)[i]=e2:=by rw [List.getElem_set_self]
 have hlf:(neC (es.set i e2)++sp)[0+i*3+2]?=some (I (es[i].q.cs.life+1)):=by rw [Nat.zero_add];exact Zal_ (k:=2) hl2i (by rw [hg2,he2];rfl)
 have hcp:(neC (es.set i e2)++sp)[0+i*3+1]?=some (ptrC es[i].cp):=by rw [Nat.zero_add];exact Zal_ (k:=1) hl2i (by rw [hg2,he2];rfl)
 have hl17:=hl1.trans (hl2.trans (hl3.trans (hl4.trans (hl5.trans (hl6.trans hl7)))));refine ex_L (L':=ndC H es[i]::bigL (ndC H) (es.take i++es.drop (i+1))::row b2 92 (neC (es.set i e2)++sp)::Zn_ H7 p' ⟨(i:Int),s',d'⟩::bigL (ndP H) (es.take i++es.drop (i+1))::wRow p (.slice (some ⟨b2,0,none⟩) es.length cap) nb w.now lv::Net.netO H (ptrC nb) w.net::R) ?_ ?_
 ·refine Sub.trans (B:=bigL (ndC H) es::row b2 92 (neC (es.set i e2)++sp)::Zn_ H7 p' ⟨(i:Int),s',d'⟩::bigL (ndP H) (es.take i++es.drop (i+1))::wRow p (.slice (some ⟨b2,0,none⟩) es.length cap) nb w.now lv::Net.netO H (ptrC nb) w.net::R) subA (zV_ hil)
 refine ex_z 18 ?_;refine zcH_ 0 rfl rfl ?_;refine qef_ 13 [row b2 92 (neC (es.set i e2)++sp)] ?_;refine qa_ 1 ?_;refine qa_ 2 ?_;refine qa_ 3 ?_;refine qa_ 4 ?_;refine Zag_ 5 rfl rfl rfl hlf ?_;refine qa_ 6 ?_;refine qa_ 7 ?_;refine qa_ 8 ?_;refine Zag_ 9 rfl rfl rfl hcp ?_;refine qe_ (A:=[ndC H es[i]]) 10 rfl rfl rfl (ZdR_ (qbU_ (W0:=W0) (H:=H7) (p:=es[i].cp) (n:=n) (s:=es[i].q.cs) IC (by omega) (fun k t h=>by have:=hpl k t h;simp only [Qb_];omega)) fun _ hc=>ZaL_ hl17 hc) fun r8 H8 B hl8 eB=>?_;subst eB;refine ⟨subA,?_⟩;refine qf_ r8 fun H9 hl9 hso=>?_;have hsh:=KW.sh i hwl;rw [hwi] at hsh;have hfi:fits (i:Int):=by rw [←hsh.2];exact IC.fn
 refine qe_ 11 rfl rfl rfl (ZcT_ (W0:=W0) (H:=H9) (node:=(i:Int)) (life:=es[i].q.cs.life+1) hfi hfl hso (Nat.le_trans qbh_ (Nat.le_trans IC.ln (by omega)))) fun r10 H10 B hl10 hQ=>?_;have hall:∀r∈openL es[i].q.cs,OkR (i:Int) (es[i].q.cs.life+1) r:=fun r hr=>by rw [←hsh.2];exact (ZaU_ IC hr).1
 rcases hQ with ⟨⟨q,hq,hq2⟩,_⟩ | ⟨_,hq,_⟩ | ⟨_,_,c',er,eB⟩
 ·exact absurd (hall q hq) hq2
 ·exact absurd (Zbg_ IC) hq
 subst er eB;refine ⟨subA,?_⟩;refine qa_ 12 ?_;refine qaj_ 18 [] ?_;refine zd_ 13 rfl rfl rfl rfl ?_;refine zd_ 14 rfl rfl rfl rfl ?_;refine qa_ 15 ?_;refine qa_ 16 ?_;have hl3c:i*3+3≤(neC (es.set i e2)++sp).length:=by rw [List.length_append,ZT_,List.length_set];omega
 obtain ⟨e3,he3⟩:∃e3:NE,e3=⟨p',c',⟨⟨(i:Int),s',d'⟩,qr_ es[i].q.cs⟩⟩:=⟨_,rfl⟩
 have hc3:(neC (es.set i e2)++sp).set (i*3+1) (ptrC c')=neC (es.set i e3)++sp:=by
  rw [qbG_ (e':=e3) (by omega) hl2i (by rw [hg2,he2,he3];rfl),List.set_set]
 refine zk_ 17 (cs':=neC (es.set i e3)++sp) rfl rfl rfl rfl (by simp only [Nat.zero_add];show _+1≤_;omega) (by rw [←hc3,Nat.zero_add];exact qaM_ (by omega)) ⟨subA,?_⟩;refine qb_ rfl ?_;have hlz:=hl17.trans (hl8.trans (hl9.trans hl10));refine walk ?_;refine Za_ rfl rfl (Net.clear_spec (W0:=W0) (H:=H10) (H0:=H) (p:=ptrC nb) (ms:=w.net) (to:=(i:Int)) hlz) fun r11 H11 B hl11 ⟨er,eB,eH⟩=>?_;subst er eB eH;refine walk ?_;rw [hsh.1] at hsame hI'
 have hns3:(setN w i ⟨⟨(i:Int),s',d'⟩,qr_ es[i].q.cs⟩).ns=(es.set i e3).map NE.q:=by
  show w.ns.set i _=_;rw [hns,List.map_set,he3]
 have hpc:PCrash n w i {setN w i ⟨⟨(i:Int),s',d'⟩,qr_ es[i].q.cs⟩ with net:=Net.clr i w.net}:=by
  have:=PCrash.mk (n:=n) (w:=w) (i:=i) hwl ⟨(i:Int),s',d'⟩ (by rw [hwi];exact hsame) hI';rw [hwi] at this;exact this
 refine ZdB_ [wRow p (.slice (some ⟨b2,0,none⟩) es.length cap) nb w.now lv,wNs (.slice (some ⟨b2,0,none⟩) es.length cap) (es.set i e3),bigL (ndP H11) (es.set i e3),bigL (ndC H11) (es.set i e3),Net.netO H11 (ptrC nb) (Net.clr i w.net)] ?_ (hs:=?_)
 ·exact ⟨_,_,hpc,hns3,rfl⟩
 ·refine Sub.trans (B:=row b2 92 (neC (es.set i e3)++sp)::Zn_ H7 p' ⟨(i:Int),s',d'⟩::bigL (ndP H) (es.take i++es.drop (i+1))::ndC H11 e3::bigL (ndC H) (es.take i++es.drop (i+1))::wRow p (.slice (some ⟨b2,0,none⟩) es.length cap) nb w.now lv::Net.netO H11 (ptrC nb) (Net.clr i w.net)::R) (by rw [show ndC H11 e3=zh_ H11 c' (qr_ es[i].q.cs) by rw [he3];rfl,show qr_ es[i].q.cs=⟨(i:Int),es[i].q.cs.life+1,0,loadTs (openL es[i].q.cs) []⟩ by unfold qr_;rw [hsh.2]];exact subA) ?_;have hlx:=hl8.trans (hl9.trans hl10);refine Sub.trans (B:=row b2 92 (neC (es.set i e3)++sp)::ndP H11 e3::bigL (ndP H11) (es.take i++es.drop (i+1))::ndC H11 e3::bigL (ndC H11) (es.take i++es.drop (i+1))::wRow p (.slice (some ⟨b2,0,none⟩) es.length cap) nb w.now lv::Net.netO H11 (ptrC nb) (Net.clr i w.net)::R) ?_ ?_
  ·refine Sub.cons (Sub.trans (Qdv_ hlx) ?_);rw [show Zn_ H11 p' ⟨(i:Int),s',d'⟩=ndP H11 e3 by rw [he3];rfl];exact Sub.cons (Sub.trans (zaH_ hlz) (Sub.cons (Sub.cons (Qat_ hlz))))
  ·refine Sub.trans (Sub.cons (zay_ (A:=ndP H11) hil)) ?_;refine Sub.trans (Sub.cons (Sub.cons (zay_ (A:=ndC H11) hil))) ?_;refine Sub.trans (zdu_ (by rw [List.length_set];exact q1) q2 (by rw [List.length_append,ZT_,List.length_set];rw [List.length_append,ZT_] at q4;exact q4) (by rw [List.length_set];exact q6)) ?_;rw [List.length_set];exact subA
theorem qeA_ {p:Prop} [Decidable p] {b:Bool} (h:b=true↔p):Value.bool b=Value.bool (decide p):=by
 congr 1;by_cases hp:p
 ·rw [decide_eq_true hp];exact h.2 hp
 ·rw [decide_eq_false hp];cases b with
  | false=>rfl
  | true=>exact absurd (h.1 rfl) hp
instance {w:PW} {k a:Int} {n:Nat}:Decidable (okMv w k a n):=by unfold okMv zn_;infer_instance
theorem v4_ {P:Prop} (h:P:=by
 refine walk ?_
 skip
 refine finB [wRow p (.slice base w.ns.length cap) nb w.now lv] ?_;refine ⟨qeA_ ?_,rfl,rfl⟩
 first
  | (refine ⟨fun h=>(by cases h),fun h=>?_⟩;exfalso;unfold okMv zn_ at h;omega)
  | (refine ⟨fun _=>?_,fun _=>rfl⟩;unfold okMv zn_;omega)):P:=h
theorem zH_ {W0:World} {H:Heap} {p nb cap ln:Nat} {base:Option Addr} {lv s:Value} {w:PW} {m:Move} (hln:ln=w.ns.length) (hs:SlB zj_ 3 56 H s m.Works) (hnow:0≤w.now∧w.now≤1073741824) (hk:fits m.Kind) (ha:fits m.A):
  Ct Tryz.prog 35 #[ptrC p,.agg (m.cv s).toArray] W0 H [wRow p (.slice base ln cap) nb w.now lv] (fun r H' B=>r= .bool (decide (okMv w m.Kind m.A m.Works.length))∧B=[wRow p (.slice base ln cap) nb w.now lv]∧H'=H):=by
 subst hln;refine Ct.go (vs:=[ptrC p,.agg (m.cv s).toArray]) fun R=>?_;obtain ⟨b0,c0,rfl,_,_⟩:=hs.1.shape;refine walk ?_;refine qc_ rfl rfl fun p3 _=>?_;have hlen:fits (1073741824 - w.now):=by unfold fits;omega
 by_cases h1:0≤m.A
 case neg=>
  by_cases k1:m.Kind=1
  ·exact v4_
  by_cases k5:m.Kind=5
  ·exact v4_
  by_cases k7:m.Kind=7
  ·exact v4_
  by_cases k6:m.Kind=6
  ·exact v4_
  by_cases k2:m.Kind=2
  ·exact v4_
  by_cases k3:m.Kind=3
  ·exact v4_
  by_cases k4:m.Kind=4
  ·exact v4_
  by_cases k8:m.Kind=8
  ·exact v4_
  exact v4_
 by_cases k6:m.Kind=6
 ·by_cases h2:m.A≤1073741824 - w.now
  ·exact v4_
  ·exact v4_
 by_cases k2:m.Kind=2
 ·exact v4_
 by_cases k3:m.Kind=3
 ·exact v4_
 by_cases k4:m.Kind=4
 ·exact v4_
 by_cases k8:m.Kind=8
 ·exact v4_
 by_cases h2:m.A<w.ns.length
 ·by_cases k1:m.Kind=1
  ·by_cases h3:m.Works.length≤w.ns.length
   ·have h3':(m.Works.length:Int)≤(w.ns.length:Int):=by omega
    exact v4_
   ·have h3':¬(m.Works.length:Int)≤(w.ns.length:Int):=by omega
    exact v4_
  by_cases k5:m.Kind=5
  ·exact v4_
  by_cases k7:m.Kind=7
  ·exact v4_
  exact v4_
 ·by_cases k1:m.Kind=1
  ·exact v4_
  by_cases k5:m.Kind=5
  ·exact v4_
  by_cases k7:m.Kind=7
  ·exact v4_
  exact v4_
def QaR_ (n:Nat) (H':Heap) (p:Nat) (w:PW) (m:Move) (r:Value) (B:List za_):Prop:=∃w' e,PPlay n w m.Kind m.A m.Works w' e∧r=I e∧B=[qd_ H' p w']
theorem v71_ {P:Prop} (h:P:=by
 refine Sub.trans ?_ (zE_ (nv:= .slice base es.length cap) (nb:=nb) (lv:=lv) hns);exact subA):P:=h
theorem zdO_ {W0:World} {H:Heap} {p n:Nat} {s:Value} {w:PW} {m:Move} (hs:SlB zj_ 3 56 H s m.Works) (hnow:0≤w.now∧w.now≤1073741824) (hk:fits m.Kind) (ha:fits m.A) (hb:¬okMv w m.Kind m.A m.Works.length):
  Ct Tryz.prog 14 #[ptrC p,.agg (m.cv s).toArray] W0 H [qd_ H p w] (fun r H' B=>QaR_ n H' p w m r B):=by
 obtain ⟨b0,c0,rfl,_,_⟩:=hs.1.shape;refine Ct.go (vs:=[ptrC p,.agg (m.cv (.slice b0 m.Works.length c0)).toArray]) fun R=>?_;refine Zg_ (A:=qd_ H p w) (σ:=Value×Nat×Value×List NE) (B:=fun a=>[wRow p a.1 a.2.1 (PW.now w) a.2.2.1,wNs a.1 a.2.2.2,bigL (ndP H) a.2.2.2,bigL (ndC H) a.2.2.2,Net.netO H (ptrC a.2.1) (PW.net w),wLog H a.2.2.1 (PW.log w)]) (p:=fun a=>PW.ns w=a.2.2.2.map NE.q) (by repeat (first | exact Has.here | apply Has.there)) (fun h ⟨nv,nb,lv,es,hb,hk⟩=>⟨(nv,nb,lv,es),hk,hb⟩) fun ⟨nv,nb,lv,es⟩ hns=>?_;dsimp only at hns⊢;refine qs_ nv fun base cap e q1 q2 q3=>?_;subst e;have hln:es.length=w.ns.length:=by rw [hns,List.length_map]
 refine walk ?_;refine qc_ rfl rfl fun p3 _=>?_;refine walk ?_;refine Zf_ rfl rfl (zH_ (W0:=W0) (H:=H) (p:=p) (nb:=nb) (cap:=cap) (base:=base) (lv:=lv) (w:=w) (m:=m) hln hs hnow hk ha) ?_;rw [decide_eq_false hb];refine walk ?_;refine finB [qd_ H p w] ?_ (hs:=?_)
 ·exact ⟨w,1,.bad hb,rfl,rfl⟩
 ·exact v71_
theorem Qdt_ {W0:World} {H:Heap} {p n:Nat} {s:Value} {w:PW} {m:Move} (hs:SlB zj_ 3 56 H s m.Works) (hnow:0≤w.now∧w.now≤1073741824) (hk:fits m.Kind) (ha:fits m.A) (k3:m.Kind=3):
  Ct Tryz.prog 14 #[ptrC p,.agg (m.cv s).toArray] W0 H [qd_ H p w] (fun r H' B=>QaR_ n H' p w m r B):=by
 have hb:okMv w m.Kind m.A m.Works.length:=by unfold okMv;omega
 obtain ⟨b0,c0,rfl,_,_⟩:=hs.1.shape;refine Ct.go (vs:=[ptrC p,.agg (m.cv (.slice b0 m.Works.length c0)).toArray]) fun R=>?_;refine Zg_ (A:=qd_ H p w) (σ:=Value×Nat×Value×List NE) (B:=fun a=>[wRow p a.1 a.2.1 (PW.now w) a.2.2.1,wNs a.1 a.2.2.2,bigL (ndP H) a.2.2.2,bigL (ndC H) a.2.2.2,Net.netO H (ptrC a.2.1) (PW.net w),wLog H a.2.2.1 (PW.log w)]) (p:=fun a=>PW.ns w=a.2.2.2.map NE.q) (by repeat (first | exact Has.here | apply Has.there)) (fun h ⟨nv,nb,lv,es,hb,hk⟩=>⟨(nv,nb,lv,es),hk,hb⟩) fun ⟨nv,nb,lv,es⟩ hns=>?_;dsimp only at hns⊢;refine qs_ nv fun base cap e q1 q2 q3=>?_;subst e;have hln:es.length=w.ns.length:=by rw [hns,List.length_map]
 refine walk ?_;refine qc_ rfl rfl fun p3 _=>?_;refine walk ?_;refine Zf_ rfl rfl (zH_ (W0:=W0) (H:=H) (p:=p) (nb:=nb) (cap:=cap) (base:=base) (lv:=lv) (w:=w) (m:=m) hln hs hnow hk ha) ?_;rw [decide_eq_true hb];refine walk ?_;refine zc_ 7 [wRow p (.slice base es.length cap) nb w.now lv,row p3 37 (m.cv (.slice b0 m.Works.length c0))] ?_;refine qa_ 0 ?_;refine qa_ 1 ?_;refine qa_ 2 ?_;refine qa_ 3 ?_;refine qa_ 4 ?_;refine qa_ 5 ?_;by_cases hin:inN w.net m.A
 ·obtain ⟨j,hj⟩:∃j:Nat,m.A=j:=⟨m.A.toNat,by unfold inN at hin;omega⟩;have hjl:j<w.net.length:=by unfold inN at hin;omega
  have hcall:=Net.drop_yes (W0:=W0) (H:=H) (H0:=H) (p:=ptrC nb) (ms:=w.net) (.refl _) hjl;rw [←hj] at hcall;refine qe_ 6 rfl rfl rfl hcall fun r1 H1 B hl1 ⟨er,eB,eH⟩=>?_;subst er eB eH;refine ⟨subA,?_⟩;refine qb_ rfl ?_;refine walk ?_;refine finB [qd_ H1 p {w with net:=delM w.net j}] ?_ (hs:=?_)
  ·exact ⟨_,0,.drop k3 j hj hjl,rfl,rfl⟩
  ·refine Sub.trans ?_ (zE_ (w:={w with net:=delM w.net j}) (nv:= .slice base es.length cap) (nb:=nb) (lv:=lv) hns);show Sub _ (_::_::_::_::Net.netO H1 (ptrC nb) (Net.del w.net j)::_::_);exact subA
 ·refine qe_ 6 rfl rfl rfl (Net.drop_no (W0:=W0) (H:=H) (H0:=H) (p:=ptrC nb) (ms:=w.net) (i:=m.A) (.refl _) hin) fun r1 H1 B hl1 ⟨er,eB,eH⟩=>?_;subst er eB eH;refine ⟨subA,?_⟩;refine qb_ rfl ?_;refine walk ?_;refine finB [qd_ H1 p w] ?_ (hs:=?_)
  ·exact ⟨w,4,.none (.inr (.inl k3)) hin,rfl,rfl⟩
  ·exact v71_
theorem Zdt_ {W0:World} {H:Heap} {p n:Nat} {s:Value} {w:PW} {m:Move} (hs:SlB zj_ 3 56 H s m.Works) (hnow:0≤w.now∧w.now≤1073741824) (hk:fits m.Kind) (ha:fits m.A) (k4:m.Kind=4):
  Ct Tryz.prog 14 #[ptrC p,.agg (m.cv s).toArray] W0 H [qd_ H p w] (fun r H' B=>QaR_ n H' p w m r B):=by
 have hb:okMv w m.Kind m.A m.Works.length:=by unfold okMv;omega
 obtain ⟨b0,c0,rfl,_,_⟩:=hs.1.shape;refine Ct.go (vs:=[ptrC p,.agg (m.cv (.slice b0 m.Works.length c0)).toArray]) fun R=>?_;refine Zg_ (A:=qd_ H p w) (σ:=Value×Nat×Value×List NE) (B:=fun a=>[wRow p a.1 a.2.1 (PW.now w) a.2.2.1,wNs a.1 a.2.2.2,bigL (ndP H) a.2.2.2,bigL (ndC H) a.2.2.2,Net.netO H (ptrC a.2.1) (PW.net w),wLog H a.2.2.1 (PW.log w)]) (p:=fun a=>PW.ns w=a.2.2.2.map NE.q) (by repeat (first | exact Has.here | apply Has.there)) (fun h ⟨nv,nb,lv,es,hb,hk⟩=>⟨(nv,nb,lv,es),hk,hb⟩) fun ⟨nv,nb,lv,es⟩ hns=>?_;dsimp only at hns⊢;refine qs_ nv fun base cap e q1 q2 q3=>?_;subst e;have hln:es.length=w.ns.length:=by rw [hns,List.length_map]
 refine walk ?_;refine qc_ rfl rfl fun p3 _=>?_;refine walk ?_;refine Zf_ rfl rfl (zH_ (W0:=W0) (H:=H) (p:=p) (nb:=nb) (cap:=cap) (base:=base) (lv:=lv) (w:=w) (m:=m) hln hs hnow hk ha) ?_;rw [decide_eq_true hb];refine walk ?_;refine zc_ 7 [wRow p (.slice base es.length cap) nb w.now lv,row p3 37 (m.cv (.slice b0 m.Works.length c0))] ?_;refine qa_ 0 ?_;refine qa_ 1 ?_;refine qa_ 2 ?_;refine qa_ 3 ?_;refine qa_ 4 ?_;refine qa_ 5 ?_;by_cases hin:inN w.net m.A
 ·obtain ⟨j,hj⟩:∃j:Nat,m.A=j:=⟨m.A.toNat,by unfold inN at hin;omega⟩;have hjl:j<w.net.length:=by unfold inN at hin;omega
  by_cases hf:w.net.length<64
  ·have hcall:=Net.copy_yes (W0:=W0) (H:=H) (H0:=H) (p:=ptrC nb) (ms:=w.net) (.refl _) hjl hf;rw [←hj] at hcall;refine qe_ 6 rfl rfl rfl hcall fun r1 H1 B hl1 ⟨er,eB⟩=>?_;subst er eB;refine ⟨subA,?_⟩;refine qb_ rfl ?_;refine walk ?_;refine finB [qd_ H1 p {w with net:=w.net++[w.net[j]]}] ?_ (hs:=?_)
   ·exact ⟨_,0,.copy k4 j hj hjl hf,rfl,rfl⟩
   ·refine Sub.trans ?_ (Zr_ (H1:=H) (H2:=H) (H3:=H1) (H4:=H) (w:={w with net:=w.net++[w.net[j]]}) (nv:= .slice base es.length cap) (nb:=nb) (lv:=lv) hns hl1 hl1 (.refl _) hl1);exact subA
  ·have hcall:=Net.copy_full (W0:=W0) (H:=H) (H0:=H) (p:=ptrC nb) (ms:=w.net) (.refl _) hjl hf;rw [←hj] at hcall;refine qe_ 6 rfl rfl rfl hcall fun r1 H1 B hl1 ⟨er,eB⟩=>?_;subst er eB;refine ⟨subA,?_⟩;refine qb_ rfl ?_;refine walk ?_;refine finB [qd_ H1 p w] ?_ (hs:=?_)
   ·exact ⟨_,5,.full k4 j hj hjl hf,rfl,rfl⟩
   ·refine Sub.trans ?_ (Zr_ (H1:=H) (H2:=H) (H3:=H1) (H4:=H) (nv:= .slice base es.length cap) (nb:=nb) (lv:=lv) hns hl1 hl1 (.refl _) hl1);exact subA
 ·refine qe_ 6 rfl rfl rfl (Net.copy_no (W0:=W0) (H:=H) (H0:=H) (p:=ptrC nb) (ms:=w.net) (i:=m.A) (.refl _) hin) fun r1 H1 B hl1 ⟨er,eB,eH⟩=>?_;subst er eB eH;refine ⟨subA,?_⟩;refine qb_ rfl ?_;refine walk ?_;refine finB [qd_ H1 p w] ?_ (hs:=?_)
  ·exact ⟨w,4,.none (.inr (.inr (.inl k4))) hin,rfl,rfl⟩
  ·exact v71_
theorem qdu_ {W0:World} {H:Heap} {p n:Nat} {s:Value} {w:PW} {m:Move} (hs:SlB zj_ 3 56 H s m.Works) (hnow:0≤w.now∧w.now≤1073741824) (hk:fits m.Kind) (ha:fits m.A) (k6:m.Kind=6) (h0:0≤m.A) (h1:m.A≤1073741824 - w.now):
  Ct Tryz.prog 14 #[ptrC p,.agg (m.cv s).toArray] W0 H [qd_ H p w] (fun r H' B=>QaR_ n H' p w m r B):=by
 have hb:okMv w m.Kind m.A m.Works.length:=by unfold okMv;omega
 obtain ⟨b0,c0,rfl,_,_⟩:=hs.1.shape;refine Ct.go (vs:=[ptrC p,.agg (m.cv (.slice b0 m.Works.length c0)).toArray]) fun R=>?_;refine Zg_ (A:=qd_ H p w) (σ:=Value×Nat×Value×List NE) (B:=fun a=>[wRow p a.1 a.2.1 (PW.now w) a.2.2.1,wNs a.1 a.2.2.2,bigL (ndP H) a.2.2.2,bigL (ndC H) a.2.2.2,Net.netO H (ptrC a.2.1) (PW.net w),wLog H a.2.2.1 (PW.log w)]) (p:=fun a=>PW.ns w=a.2.2.2.map NE.q) (by repeat (first | exact Has.here | apply Has.there)) (fun h ⟨nv,nb,lv,es,hb,hk⟩=>⟨(nv,nb,lv,es),hk,hb⟩) fun ⟨nv,nb,lv,es⟩ hns=>?_;dsimp only at hns⊢;refine qs_ nv fun base cap e q1 q2 q3=>?_;subst e;have hln:es.length=w.ns.length:=by rw [hns,List.length_map]
 refine walk ?_;refine qc_ rfl rfl fun p3 _=>?_;refine walk ?_;refine Zf_ rfl rfl (zH_ (W0:=W0) (H:=H) (p:=p) (nb:=nb) (cap:=cap) (base:=base) (lv:=lv) (w:=w) (m:=m) hln hs hnow hk ha) ?_;rw [decide_eq_true hb];have hsum:fits (w.now+m.A):=by unfold fits;omega
 refine walk ?_;refine zc_ 7 [wRow p (.slice base es.length cap) nb w.now lv,row p3 37 (m.cv (.slice b0 m.Works.length c0))] ?_;refine qa_ 0 ?_;refine qa_ 1 ?_;refine qa_ 2 ?_;refine qa_ 3 ?_;refine qa_ 4 ?_;refine qa_ 5 ?_;refine qa_ 6 ?_;refine qb_ rfl ?_;refine walk ?_;refine finB [qd_ H p {w with now:=w.now+m.A}] ?_ (hs:=?_)
 ·exact ⟨_,0,.tick k6 h0 h1,rfl,rfl⟩
 ·refine Sub.trans ?_ (zE_ (w:={w with now:=w.now+m.A}) (nv:= .slice base es.length cap) (nb:=nb) (lv:=lv) hns);exact subA
theorem zcR_ {W0:World} {H:Heap} {p n i:Nat} {s:Value} {w:PW} {m:Move} (KW:WOk n w) (hs:SlB zj_ 3 56 H s m.Works) (hnow:0≤w.now∧w.now≤1073741824) (hk:fits m.Kind) (ha:fits m.A) (k7:m.Kind=7) (hai:m.A=i) (hi:i<w.ns.length):
  Ct Tryz.prog 14 #[ptrC p,.agg (m.cv s).toArray] W0 H [qd_ H p w] (fun r H' B=>QaR_ n H' p w m r B):=by
 have hb:okMv w m.Kind m.A m.Works.length:=by unfold okMv zn_;omega
 obtain ⟨b0,c0,rfl,_,_⟩:=hs.1.shape;refine Ct.go (vs:=[ptrC p,.agg (m.cv (.slice b0 m.Works.length c0)).toArray]) fun R=>?_;refine Zg_ (A:=qd_ H p w) (σ:=Value×Nat×Value×List NE) (B:=fun a=>[wRow p a.1 a.2.1 (PW.now w) a.2.2.1,wNs a.1 a.2.2.2,bigL (ndP H) a.2.2.2,bigL (ndC H) a.2.2.2,Net.netO H (ptrC a.2.1) (PW.net w),wLog H a.2.2.1 (PW.log w)]) (p:=fun a=>PW.ns w=a.2.2.2.map NE.q) (by repeat (first | exact Has.here | apply Has.there)) (fun h ⟨nv,nb,lv,es,hb,hk⟩=>⟨(nv,nb,lv,es),hk,hb⟩) fun ⟨nv,nb,lv,es⟩ hns=>?_;dsimp only at hns⊢;refine qs_ nv fun base cap e q1 q2 q3=>?_;subst e;have hln:es.length=w.ns.length:=by rw [hns,List.length_map]
 refine walk ?_;refine qc_ rfl rfl fun p3 _=>?_;refine walk ?_;refine Zf_ rfl rfl (zH_ (W0:=W0) (H:=H) (p:=p) (nb:=nb) (cap:=cap) (base:=base) (lv:=lv) (w:=w) (m:=m) hln hs hnow hk ha) ?_;rw [decide_eq_true hb];have hcall:=qbu_ (W0:=W0) (H:=H) (p:=p) (nb:=nb) (n:=n) (i:=i) (nv:= .slice base es.length cap) (lv:=lv) (w:=w) (es:=es) hns KW (by omega);rw [←hai] at hcall;refine walk ?_;refine Za_ rfl rfl hcall fun r1 H1 B hl1 ⟨w',es',hpc,hns',eB⟩=>?_;subst eB;have hlog:w'.log=w.log:=by cases hpc;rfl
 refine walk ?_;refine finB [qd_ H1 p w'] ?_ (hs:=?_)
 ·exact ⟨w',0,.crash k7 i hai hi w' hpc,rfl,rfl⟩
 ·refine Sub.trans ?_ (Zr_ (H1:=H1) (H2:=H1) (H3:=H1) (H4:=H) (w:=w') (nv:= .slice base es.length cap) (nb:=nb) (lv:=lv) hns' (.refl _) (.refl _) (.refl _) hl1);rw [hlog];exact subA
end Go.Proofs.YtlflbkpmfhhikaaGreatDoor
