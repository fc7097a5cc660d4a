/- The protocol: what transactions, parts and notes keep to, whatever happens. No program in sight. -/
import Derived.Test.YtlflbkpmfhhikaaGreatDoorKTS
set_option linter.unusedVariables false
set_option linter.unusedSimpArgs false
namespace Go.Proofs.YtlflbkpmfhhikaaGreatDoor
open Go Go.Sx Go.Proofs
structure TV where
  op:Bool
  ps:List Int
  hd:Int→Bool
structure BT where
  x:Txn
  ws:List (Int×Work)
def BT.ps (b:BT):List Int:=b.ws.map (·.1)
structure AS where
  st:Txn→Option TV
  wk:Int→Txn→Option Work
  dn:Int→Txn→Prop
  log:List PactNote
def com (l:List PactNote) (x:Txn):Prop:=∃e∈l,e.Rec.Kind=4∧e.Rec.Txn=x
def over (l:List PactNote) (x:Txn):Prop:=∃e∈l,e.Rec.Kind=5∧e.Rec.Txn=x
def yesN (l:List PactNote) (p:Int) (x:Txn):Prop:=∃e∈l,e.Node=p∧e.Rec.Kind=3∧e.Rec.Txn=x∧e.Rec.Yes=true
def inB (B:List BT) (x:Txn) (p:Int) (w:Work):Prop:=∃b∈B,b.x=x∧(p,w)∈b.ws
def ptB (B:List BT) (x:Txn) (p:Int):Prop:=∃b∈B,b.x=x∧p∈b.ps
def knB (B:List BT) (x:Txn):Prop:=∃b∈B,b.x=x
theorem inB.pt {B:List BT} {x:Txn} {p:Int} {w:Work} (h:inB B x p w):ptB B x p:=by
 obtain ⟨b,hb,e,hq⟩:=h;exact ⟨b,hb,e,List.mem_map.2 ⟨_,hq,rfl⟩⟩
theorem ptB.kn {B:List BT} {x:Txn} {p:Int} (h:ptB B x p):knB B x:=by obtain ⟨b,hb,e,_⟩:=h;exact ⟨b,hb,e⟩
theorem v36_ {P:Prop} (h:P:=by
 constructor
 ·rintro ⟨f,hf,h⟩;rcases List.mem_append.1 hf with hf | hf
  ·exact .inl ⟨f,hf,h⟩
  ·rw [List.mem_singleton.1 hf] at h;exact .inr h
 ·rintro (⟨f,hf,h⟩ | h)
  ·exact ⟨f,List.mem_append_left _ hf,h⟩
  ·exact ⟨e,by simp,h⟩):P:=h
theorem QT_ {l:List PactNote} {e:PactNote} {x:Txn}:com (l++[e]) x↔com l x∨(e.Rec.Kind=4∧e.Rec.Txn=x):=by
 unfold com;exact v36_
theorem ZaB_ {l:List PactNote} {e:PactNote} {x:Txn}:over (l++[e]) x↔over l x∨(e.Rec.Kind=5∧e.Rec.Txn=x):=by
 unfold over;exact v36_
theorem qaC_ {l:List PactNote} {e:PactNote} {p:Int} {x:Txn}:yesN (l++[e]) p x↔yesN l p x∨(e.Node=p∧e.Rec.Kind=3∧e.Rec.Txn=x∧e.Rec.Yes=true):=by
 unfold yesN;exact v36_
def Qdj_ (l:List PactNote) (e:PactNote):Prop:=∀f∈l,f.Rec.Kind=3→f.Rec.Txn=e.Rec.Txn→f.Node≠e.Node
def Agr (l:List PactNote):Prop:=∀l1 e l2,l=l1++e::l2→e.Rec.Kind=3→Qdj_ l1 e→(e.Rec.Yes=true→com l1 e.Rec.Txn)∧(e.Rec.Yes=false→¬com l e.Rec.Txn)
theorem v58_ {P:Prop} (h:P:=by
 simp only [List.append_nil,List.nil_append] at hc1 hc2
 cases hc2
 subst hc1;obtain ⟨a,b⟩:=h3 hk hf;refine ⟨a,fun hy hcm=>?_⟩;rcases QT_.1 hcm with hcm | ⟨h4',_⟩
 ·exact b hy hcm
 ·omega):P:=h
theorem Agr.snoc {l:List PactNote} {e:PactNote} (h:Agr l) (h3:e.Rec.Kind=3→Qdj_ l e→(e.Rec.Yes=true→com l e.Rec.Txn)∧(e.Rec.Yes=false→¬com l e.Rec.Txn))
  (h4:e.Rec.Kind=4→∀f∈l,f.Rec.Kind=3→f.Rec.Yes=false→f.Rec.Txn≠e.Rec.Txn):Agr (l++[e]):=by
 intro l1 f l2 he hk hf;rcases List.append_eq_append_iff.1 he with ⟨c,hc1,hc2⟩ | ⟨c,hc1,hc2⟩
 ·-- l1 = l ++ c, [e] = c ++ f :: l2
  cases c with
  | nil=>
   exact v58_
  | cons d c=>
   have:=congrArg List.length hc2;simp at this
 ·cases c with
  | nil=>
   exact v58_
  | cons d c=>
   rw [List.cons_append] at hc2
   cases hc2
   obtain ⟨a,b⟩:=h l1 f c hc1 hk hf;refine ⟨a,fun hy hcm=>?_⟩;rcases QT_.1 hcm with hcm | ⟨h4',hx⟩
   ·exact b hy hcm
   ·exact h4 h4' f (by rw [hc1];simp) hk hy hx.symm
structure SI (B:List BT) (a:AS):Prop where
  bn:∀b∈B,∀b'∈B,b.x=b'.x→b=b'
  bw:∀b∈B,∀q∈b.ws,∀q'∈b.ws,q.1=q'.1→q=q'
  sb:∀x t,a.st x=some t→∃b∈B,b.x=x∧t.ps=b.ps
  vo:∀x t,a.st x=some t→t.op=false→¬com a.log x
  op:∀x t,a.st x=some t→t.op=true→com a.log x∧¬over a.log x
  cm:∀x,com a.log x→¬over a.log x→∃t,a.st x=some t∧t.op=true
  cb:∀x,com a.log x→knB B x
  hv:∀x t p,a.st x=some t→t.op=false→t.hd p=true→a.wk p x≠none
  ho:∀x t p,a.st x=some t→t.op=true→t.hd p=true→a.dn p x
  ap:∀x p,com a.log x→ptB B x p→a.wk p x≠none∨a.dn p x
  oc:∀x,over a.log x→com a.log x
  ov:∀x p,over a.log x→ptB B x p→a.dn p x
  wb:∀p x w,a.wk p x=some w→inB B x p w
  db:∀p x,a.dn p x→com a.log x∧ptB B x p
  wd:∀p x,a.wk p x≠none→¬a.dn p x
  dl:∀p x,a.dn p x↔yesN a.log p x
  an:∀e∈a.log,e.Rec.Kind=3→e.Rec.Yes=false→a.st e.Rec.Txn=none∧knB B e.Rec.Txn
  ag:Agr a.log
structure JM (B:List BT) (a:AS) (m:Message):Prop where
  kn:knB B m.Txn
  kd:m.Kind=1∨m.Kind=2∨m.Kind=3∨m.Kind=4∨m.Kind=5
  k1:m.Kind=1→m.From=m.Txn.Node∧inB B m.Txn m.To m.Work
  k3:m.Kind=3→m.From=m.Txn.Node∧ptB B m.Txn m.To∧(m.Yes=true→com a.log m.Txn)∧(m.Yes=false→a.st m.Txn=none)
  kp:m.Kind=2∨m.Kind=4∨m.Kind=5→m.To=m.Txn.Node∧ptB B m.Txn m.From
  k2:m.Kind=2→m.Yes=true→∀t,a.st m.Txn=some t→t.op=false→a.wk m.From m.Txn≠none
  k4:m.Kind=4→(∀t,a.st m.Txn=some t→t.op=true)∧(com a.log m.Txn→a.dn m.From m.Txn)
structure Nxt (B B':List BT) (a a':AS):Prop where
  b:∀b∈B,b∈B'
  c:∀x,com a.log x→com a'.log x
  n:∀x,com a'.log x→com a.log x∨∃t,a.st x=some t∧t.op=false
  s:∀x t',knB B x→a'.st x=some t'→∃t,a.st x=some t∧(t'.op=false→t.op=false)∧(t.op=true→t'.op=true)
  w:∀p x t,a.wk p x≠none→a'.st x=some t→t.op=false→a'.wk p x≠none
  d:∀p x,a.dn p x→a'.dn p x
theorem inB.up {B B':List BT} (hb:∀b∈B,b∈B') {x:Txn} {p:Int} {w:Work} (h:inB B x p w):inB B' x p w:=by obtain ⟨b,h1,h2⟩:=h;exact ⟨b,hb b h1,h2⟩
theorem ptB.up {B B':List BT} (hb:∀b∈B,b∈B') {x:Txn} {p:Int} (h:ptB B x p):ptB B' x p:=by obtain ⟨b,h1,h2⟩:=h;exact ⟨b,hb b h1,h2⟩
theorem knB.up {B B':List BT} (hb:∀b∈B,b∈B') {x:Txn} (h:knB B x):knB B' x:=by obtain ⟨b,h1,h2⟩:=h;exact ⟨b,hb b h1,h2⟩
theorem JM.next {B B':List BT} {a a':AS} {m:Message} (h:JM B a m) (N:Nxt B B' a a'):JM B' a' m:=by
 refine ⟨h.kn.up N.b,h.kd,fun k=>?_,fun k=>?_,fun k=>?_,fun k hy t' ht ho=>?_,fun k=>⟨fun t' ht=>?_,fun hc=>?_⟩⟩
 ·obtain ⟨e,hi⟩:=h.k1 k;exact ⟨e,hi.up N.b⟩
 ·obtain ⟨e,hi,hy,hn⟩:=h.k3 k;refine ⟨e,hi.up N.b,fun y=>N.c _ (hy y),fun y=>?_⟩
  cases hs:a'.st m.Txn with
  | none=>rfl
  | some t'=>
   obtain ⟨t,ht,_⟩:=N.s _ t' h.kn hs;rw [hn y] at ht;cases ht
 ·obtain ⟨e,hi⟩:=h.kp k;exact ⟨e,hi.up N.b⟩
 ·obtain ⟨t,h1,h2,_⟩:=N.s _ t' h.kn ht;exact N.w _ _ t' (h.k2 k hy t h1 (h2 ho)) ht ho
 ·obtain ⟨t,h1,_,h2⟩:=N.s _ t' h.kn ht;exact h2 ((h.k4 k).1 t h1)
 ·refine N.d _ _ ((h.k4 k).2 ?_);rcases N.n _ hc with hc | ⟨t,h1,h2⟩
  ·exact hc
  ·rw [(h.k4 k).1 t h1] at h2;cases h2
theorem Nxt.refl (B:List BT) (a:AS):Nxt B B a a:=⟨fun _ h=>h,fun _ h=>h,fun _ h=> .inl h,fun x t _ h=>⟨t,h,fun h=>h,fun h=>h⟩,fun _ _ _ h _ _=>h,fun _ _ h=>h⟩
theorem SI.part {B:List BT} {a:AS} (S:SI B a) {x:Txn} {t:TV} {p:Int} (h:a.st x=some t):ptB B x p↔p∈t.ps:=by
 obtain ⟨b,hb,hx,hp⟩:=S.sb x t h;rw [hp];constructor
 ·rintro ⟨b',hb',hx',hp'⟩;rw [S.bn b hb b' hb' (hx.trans hx'.symm)];exact hp'
 ·exact fun h=>⟨b,hb,hx,h⟩
theorem SI.kn {B:List BT} {a:AS} (S:SI B a) {x:Txn} {t:TV} (h:a.st x=some t):knB B x:=by obtain ⟨b,hb,hx,_⟩:=S.sb x t h;exact ⟨b,hb,hx⟩
def setS (a:AS) (x:Txn) (v:Option TV):AS:={a with st:=fun y=>if y=x then v else a.st y}
theorem ZE_ {a:AS} {x y:Txn} {v:Option TV}:(setS a x v).st y=if y=x then v else a.st y:=rfl
theorem SI.begin {B:List BT} {a:AS} (S:SI B a) {b:BT} (hf:¬knB B b.x) (hw:∀q∈b.ws,∀q'∈b.ws,q.1=q'.1→q=q'):
  SI (b::B) (setS a b.x (some ⟨false,b.ps,fun _=>false⟩))∧Nxt B (b::B) a (setS a b.x (some ⟨false,b.ps,fun _=>false⟩)):=by
 have hbb:∀c∈B,c∈b::B:=fun c h=>List.mem_cons_of_mem _ h;have hne:∀{x},knB B x→x≠b.x:=fun h e=>hf (e▸h);have hnc:¬com a.log b.x:=fun h=>hf (S.cb _ h)
 have hpt:∀{x p},ptB (b::B) x p→com a.log x→ptB B x p:=fun {x p} ⟨c,hc,hx,hp⟩ hcm=>by
  rcases List.mem_cons.1 hc with rfl | hc
  ·exact absurd (hx▸hcm) hnc
  ·exact ⟨c,hc,hx,hp⟩
 refine ⟨⟨fun c hc c' hc' e=>?_,fun c hc=>?_,fun x t h=>?_,fun x t h ho=>?_,fun x t h ho=>?_,fun x h h'=>?_,fun x h=>(S.cb x h).up hbb,fun x t p h ho hh=>?_,fun x t p h ho hh=>?_,fun x p h hp=>S.ap x p h (hpt hp h),S.oc,fun x p h hp=>S.ov x p h (hpt hp (S.oc x h)),fun p x w h=>(S.wb p x w h).up hbb,fun p x h=>⟨(S.db p x h).1,(S.db p x h).2.up hbb⟩,S.wd,S.dl,fun e he h3 hy=>?_,S.ag⟩,⟨hbb,fun _ h=>h,fun _ h=> .inl h,fun x t' hk h=>?_,fun p x t h _ _=>h,fun _ _ h=>h⟩⟩
 ·rcases List.mem_cons.1 hc with h1 | h1<;>rcases List.mem_cons.1 hc' with h2 | h2
  ·rw [h1,h2]
  ·exact absurd ⟨c',h2,by rw [←e,h1]⟩ hf
  ·exact absurd ⟨c,h1,by rw [e,h2]⟩ hf
  ·exact S.bn c h1 c' h2 e
 ·rcases List.mem_cons.1 hc with rfl | hc
  ·exact hw
  ·exact S.bw c hc
 ·rw [ZE_] at h;split at h
  ·next e=>cases h;exact ⟨b,List.mem_cons_self ..,e.symm,rfl⟩
  ·obtain ⟨c,hc,r⟩:=S.sb x t h;exact ⟨c,hbb c hc,r⟩
 ·rw [ZE_] at h;split at h
  ·next e=>subst e;exact hnc
  ·exact S.vo x t h ho
 ·rw [ZE_] at h;split at h
  ·cases h;cases ho
  ·exact S.op x t h ho
 ·obtain ⟨t,h1,h2⟩:=S.cm x h h';exact ⟨t,by rw [ZE_,if_neg (hne (S.cb x h))];exact h1,h2⟩
 ·rw [ZE_] at h;split at h
  ·cases h;cases hh
  ·exact S.hv x t p h ho hh
 ·rw [ZE_] at h;split at h
  ·cases h;cases ho
  ·exact S.ho x t p h ho hh
 ·obtain ⟨h1,h2⟩:=S.an e he h3 hy;exact ⟨by rw [ZE_,if_neg (hne h2)];exact h1,h2.up hbb⟩
 ·rw [ZE_,if_neg (hne hk)] at h;exact ⟨t',h,fun h=>h,fun h=>h⟩
def setW (a:AS) (p:Int) (x:Txn) (v:Option Work) (l:List PactNote):AS:={a with wk:=fun q y=>if q=p∧y=x then v else a.wk q y,log:=a.log++l}
theorem SI.prep {B:List BT} {a:AS} (S:SI B a) {p:Int} {x:Txn} {w:Work} {e:PactNote} (h0:¬a.dn p x) (hb:inB B x p w) (he:e.Rec.Kind=2):
  SI B (setW a p x (some w) [e])∧Nxt B B a (setW a p x (some w) [e]):=by
 have hc:∀{y},com (a.log++[e]) y↔com a.log y:=fun {y}=>by rw [QT_];exact ⟨fun h=>h.elim id fun h=>by omega,.inl⟩
 have ho:∀{y},over (a.log++[e]) y↔over a.log y:=fun {y}=>by rw [ZaB_];exact ⟨fun h=>h.elim id fun h=>by omega,.inl⟩
 have hy:∀{q y},yesN (a.log++[e]) q y↔yesN a.log q y:=fun {q y}=>by rw [qaC_];exact ⟨fun h=>h.elim id fun h=>by omega,.inl⟩
 have hw:∀{q y},a.wk q y≠none→(setW a p x (some w) [e]).wk q y≠none:=fun {q y} h=>by
  show (if q=p∧y=x then some w else a.wk q y)≠none;split
  ·simp
  ·exact h
 refine ⟨⟨S.bn,S.bw,S.sb,fun y t h h1 h2=>S.vo y t h h1 (hc.1 h2),fun y t h h1=>⟨hc.2 (S.op y t h h1).1,fun h2=>(S.op y t h h1).2 (ho.1 h2)⟩,fun y h h'=>S.cm y (hc.1 h) fun h2=>h' (ho.2 h2),fun y h=>S.cb y (hc.1 h),fun y t q h h1 h2=>hw (S.hv y t q h h1 h2),S.ho,fun y q h hp=>(S.ap y q (hc.1 h) hp).imp hw id,fun y h=>hc.2 (S.oc y (ho.1 h)),fun y q h hp=>S.ov y q (ho.1 h) hp,fun q y w' h=>?_,fun q y h=>⟨hc.2 (S.db q y h).1,(S.db q y h).2⟩,fun q y h=>?_,fun q y=>(S.dl q y).trans hy.symm,fun f hf h3 hn=>?_,S.ag.snoc (fun h=>by omega) (fun h=>by omega)⟩,
  ⟨fun _ h=>h,fun _ h=>hc.2 h,fun _ h=> .inl (hc.1 h),fun y t' _ h=>⟨t',h,fun h=>h,fun h=>h⟩,fun q y t h _ _=>hw h,fun _ _ h=>h⟩⟩
 ·have h':(if q=p∧y=x then some w else a.wk q y)=some w':=h;split at h'
  ·next e=>cases h';rw [e.1,e.2];exact hb
  ·exact S.wb q y w' h'
 ·have h':(if q=p∧y=x then some w else a.wk q y)≠none:=h;split at h'
  ·next e=>rw [e.1,e.2];exact h0
  ·exact S.wd q y h'
 ·rcases List.mem_append.1 hf with hf | hf
  ·exact S.an f hf h3 hn
  ·rw [List.mem_singleton.1 hf] at h3;omega
def setA (a:AS) (p:Int) (x:Txn) (y:Bool) (e:PactNote):AS:={a with wk:=fun q z=>if q=p∧z=x then none else a.wk q z,dn:=fun q z=>a.dn q z∨(q=p∧z=x∧y=true),log:=a.log++[e]}
theorem SI.apply {B:List BT} {a:AS} (S:SI B a) {p:Int} {x:Txn} {y:Bool} {e:PactNote} (h0:a.wk p x≠none) (hy:y=true→com a.log x) (hn:y=false→a.st x=none) (he:e.Node=p∧e.Rec.Kind=3∧e.Rec.Txn=x∧e.Rec.Yes=y):
  SI B (setA a p x y e)∧Nxt B B a (setA a p x y e):=by
 obtain ⟨w0,hw0⟩:=Option.ne_none_iff_exists'.1 h0;have hpt:=(S.wb p x w0 hw0).pt;have hc:∀{z},com (a.log++[e]) z↔com a.log z:=fun {z}=>by rw [QT_];exact ⟨fun h=>h.elim id fun h=>by omega,.inl⟩
 have ho:∀{z},over (a.log++[e]) z↔over a.log z:=fun {z}=>by rw [ZaB_];exact ⟨fun h=>h.elim id fun h=>by omega,.inl⟩
 have hyn:∀{q z},yesN (a.log++[e]) q z↔yesN a.log q z∨(q=p∧z=x∧y=true):=fun {q z}=>by
  rw [qaC_];refine or_congr Iff.rfl ⟨fun ⟨h1,_,h3,h4⟩=>⟨?_,?_,?_⟩,fun ⟨h1,h3,h4⟩=>⟨?_,he.2.1,?_,?_⟩⟩
  ·rw [←h1];exact he.1
  ·rw [←h3];exact he.2.2.1
  ·rw [←h4];exact he.2.2.2.symm
  ·rw [h1];exact he.1
  ·rw [h3];exact he.2.2.1
  ·rw [←h4];exact he.2.2.2
 have hvot:∀t,a.st x=some t→t.op=false→False:=fun t ht hof=>by
  cases y with
  | true=>exact S.vo x t ht hof (hy rfl)
  | false=>rw [hn rfl] at ht;cases ht
 have hnc:y=false→¬com a.log x:=fun h hcm=>by
  by_cases hov:over a.log x
  ·exact S.wd p x h0 (S.ov x p hov hpt)
  ·obtain ⟨t,ht,_⟩:=S.cm x hcm hov;rw [hn h] at ht;cases ht
 have hw:∀{q z},¬(q=p∧z=x)→(setA a p x y e).wk q z=a.wk q z:=fun {q z} h=>if_neg h;have hd:∀{q z},a.dn q z→(setA a p x y e).dn q z:=fun h=> .inl h
 refine ⟨⟨S.bn,S.bw,S.sb,fun z t h h1 h2=>S.vo z t h h1 (hc.1 h2),fun z t h h1=>⟨hc.2 (S.op z t h h1).1,fun h2=>(S.op z t h h1).2 (ho.1 h2)⟩,fun z h h'=>S.cm z (hc.1 h) fun h2=>h' (ho.2 h2),fun z h=>S.cb z (hc.1 h),fun z t q h h1 h2=>?_,fun z t q h h1 h2=>hd (S.ho z t q h h1 h2),fun z q h hp=>?_,fun z h=>hc.2 (S.oc z (ho.1 h)),fun z q h hp=>hd (S.ov z q (ho.1 h) hp),fun q z w' h=>?_,fun q z h=>?_,fun q z h=>?_,fun q z=>(or_congr (S.dl q z) Iff.rfl).trans hyn.symm,fun f hf h3 hn'=>?_,S.ag.snoc (fun _ hfi=>⟨fun h=>?_,fun h=>?_⟩) (fun h=>by omega)⟩,
  ⟨fun _ h=>h,fun _ h=>hc.2 h,fun _ h=> .inl (hc.1 h),fun z t' _ h=>⟨t',h,fun h=>h,fun h=>h⟩,fun q z t h h1 h2=>?_,fun _ _ h=>hd h⟩⟩
 ·rw [hw fun e1=>hvot t (e1.2▸h) h1];exact S.hv z t q h h1 h2
 ·by_cases e1:q=p∧z=x
  ·obtain ⟨rfl,rfl⟩:=e1
   cases y with
   | true=>exact .inr (.inr ⟨rfl,rfl,rfl⟩)
   | false=>exact absurd (hc.1 h) (hnc rfl)
  ·rw [hw e1];exact (S.ap z q (hc.1 h) hp).imp id hd
 ·by_cases e1:q=p∧z=x
  ·have h':(if q=p∧z=x then none else a.wk q z)=some w':=h;rw [if_pos e1] at h';cases h'
  ·rw [hw e1] at h;exact S.wb q z w' h
 ·rcases h with h | ⟨rfl,rfl,h⟩
  ·exact ⟨hc.2 (S.db q z h).1,(S.db q z h).2⟩
  ·exact ⟨hc.2 (hy h),hpt⟩
 ·by_cases e1:q=p∧z=x
  ·have h':(if q=p∧z=x then none else a.wk q z)≠none:=h;rw [if_pos e1] at h';exact absurd rfl h'
  ·rw [hw e1] at h;rintro (h' | ⟨h1,h2,_⟩)
   ·exact S.wd q z h h'
   ·exact e1 ⟨h1,h2⟩
 ·rcases List.mem_append.1 hf with hf | hf
  ·exact S.an f hf h3 hn'
  ·rw [List.mem_singleton.1 hf] at h3 hn'⊢;rw [he.2.2.1];rw [he.2.2.2] at hn';exact ⟨hn hn',hpt.kn⟩
 ·rw [he.2.2.1];exact hy (he.2.2.2.symm.trans h)
 ·rw [he.2.2.1];exact hnc (he.2.2.2.symm.trans h)
 ·rw [hw fun e1=>hvot t (e1.2▸h1) h2];exact h
def TV.hear (t:TV) (p:Int):TV:={t with hd:=fun q=>decide (q=p) || t.hd q}
theorem TV.hear_iff {t:TV} {p q:Int}:(t.hear p).hd q=true↔q=p∨t.hd q=true:=by simp [TV.hear]
theorem SI.heard {B:List BT} {a:AS} (S:SI B a) {p:Int} {x:Txn} {t:TV} (ht:a.st x=some t) (h1:t.op=false→a.wk p x≠none) (h2:t.op=true→a.dn p x):
  SI B (setS a x (some (t.hear p)))∧Nxt B B a (setS a x (some (t.hear p))):=by
 have hs:∀{y t'},(setS a x (some (t.hear p))).st y=some t'→(y=x∧t'=t.hear p)∨(y≠x∧a.st y=some t'):=fun {y t'} h=>by
  rw [ZE_] at h;split at h
  ·next e=>cases h;exact .inl ⟨e,rfl⟩
  ·next e=>exact .inr ⟨e,h⟩
 refine ⟨⟨S.bn,S.bw,fun y t' h=>?_,fun y t' h ho=>?_,fun y t' h ho=>?_,fun y h h'=>?_,S.cb,fun y t' q h ho hh=>?_,fun y t' q h ho hh=>?_,S.ap,S.oc,S.ov,S.wb,S.db,S.wd,S.dl,fun e he h3 hy=>?_,S.ag⟩,⟨fun _ h=>h,fun _ h=>h,fun _ h=> .inl h,fun y t' hk h=>?_,fun q y t' h _ _=>h,fun _ _ h=>h⟩⟩
 ·rcases hs h with ⟨rfl,rfl⟩ | ⟨_,h⟩
  ·exact S.sb y t ht
  ·exact S.sb y t' h
 ·rcases hs h with ⟨rfl,rfl⟩ | ⟨_,h⟩
  ·exact S.vo y t ht ho
  ·exact S.vo y t' h ho
 ·rcases hs h with ⟨rfl,rfl⟩ | ⟨_,h⟩
  ·exact S.op y t ht ho
  ·exact S.op y t' h ho
 ·obtain ⟨t',g1,g2⟩:=S.cm y h h';by_cases e:y=x
  ·subst e;rw [ht] at g1;cases g1;exact ⟨t.hear p,by rw [ZE_,if_pos rfl],g2⟩
  ·exact ⟨t',by rw [ZE_,if_neg e];exact g1,g2⟩
 ·rcases hs h with ⟨rfl,rfl⟩ | ⟨_,h⟩
  ·rcases TV.hear_iff.1 hh with rfl | hh
   ·exact h1 ho
   ·exact S.hv y t q ht ho hh
  ·exact S.hv y t' q h ho hh
 ·rcases hs h with ⟨rfl,rfl⟩ | ⟨_,h⟩
  ·rcases TV.hear_iff.1 hh with rfl | hh
   ·exact h2 ho
   ·exact S.ho y t q ht ho hh
  ·exact S.ho y t' q h ho hh
 ·obtain ⟨g1,g2⟩:=S.an e he h3 hy;refine ⟨?_,g2⟩;rw [ZE_,if_neg]
  ·exact g1
  ·intro e1;rw [e1,ht] at g1;cases g1
 ·rcases hs h with ⟨rfl,rfl⟩ | ⟨_,h⟩
  ·exact ⟨t,ht,fun h=>h,fun h=>h⟩
  ·exact ⟨t',h,fun h=>h,fun h=>h⟩
theorem SI.weak {B:List BT} {a:AS} (S:SI B a) {st':Txn→Option TV}
  (hs:∀x,st' x=a.st x∨(st' x=none∧∀t,a.st x=some t→t.op=false)∨(∃t t',a.st x=some t∧t.op=true∧st' x=some t'∧t'.op=true∧t'.ps=t.ps∧∀p,t'.hd p=true→t.hd p=true)):
  SI B {a with st:=st'}∧Nxt B B a {a with st:=st'}:=by
 have hf:∀{x t'},st' x=some t'→∃t,a.st x=some t∧t.op=t'.op∧t'.ps=t.ps∧∀p,t'.hd p=true→t.hd p=true:=fun {x t'} h=>by
  rcases hs x with h1 | ⟨h1,_⟩ | ⟨t,t2,h1,h2,h3,h4,h5,h6⟩
  ·exact ⟨t',by rw [←h1];exact h,rfl,rfl,fun _ h=>h⟩
  ·rw [h1] at h;cases h
  ·rw [h3] at h;cases h;exact ⟨t,h1,h2.trans h4.symm,h5,h6⟩
 refine ⟨⟨S.bn,S.bw,fun x t' h=>?_,fun x t' h ho=>?_,fun x t' h ho=>?_,fun x h h'=>?_,S.cb,fun x t' p h ho hh=>?_,fun x t' p h ho hh=>?_,S.ap,S.oc,S.ov,S.wb,S.db,S.wd,S.dl,fun e he h3 hy=>?_,S.ag⟩,⟨fun _ h=>h,fun _ h=>h,fun _ h=> .inl h,fun x t' hk h=>?_,fun p x t' h _ _=>h,fun _ _ h=>h⟩⟩
 ·obtain ⟨t,h1,_,h3,_⟩:=hf h;obtain ⟨b,hb,hx,hp⟩:=S.sb x t h1;exact ⟨b,hb,hx,h3.trans hp⟩
 ·obtain ⟨t,h1,h2,_⟩:=hf h;exact S.vo x t h1 (h2.trans ho)
 ·obtain ⟨t,h1,h2,_⟩:=hf h;exact S.op x t h1 (h2.trans ho)
 ·obtain ⟨t,h1,h2⟩:=S.cm x h h';rcases hs x with g | ⟨_,g⟩ | ⟨t0,t2,g1,g2,g3,g4,_⟩
  ·exact ⟨t,g.trans h1,h2⟩
  ·rw [g t h1] at h2;cases h2
  ·exact ⟨t2,g3,g4⟩
 ·obtain ⟨t,h1,h2,_,h4⟩:=hf h;exact S.hv x t p h1 (h2.trans ho) (h4 p hh)
 ·obtain ⟨t,h1,h2,_,h4⟩:=hf h;exact S.ho x t p h1 (h2.trans ho) (h4 p hh)
 ·obtain ⟨g1,g2⟩:=S.an e he h3 hy;refine ⟨?_,g2⟩;rcases hs e.Rec.Txn with g | ⟨g,_⟩ | ⟨t0,_,g,_⟩
  ·exact g.trans g1
  ·exact g
  ·rw [g1] at g;cases g
 ·obtain ⟨t,h1,h2,_⟩:=hf h;exact ⟨t,h1,fun h=>h2.trans h,fun h=>h2.symm.trans h⟩
def setL (a:AS) (x:Txn) (v:Option TV) (e:PactNote):AS:={a with st:=fun y=>if y=x then v else a.st y,log:=a.log++[e]}
theorem v56_ {P:Prop} (h:P:=by
 rcases List.mem_append.1 hf with hf | hf
 ·obtain ⟨g1,g2⟩:=S.an f hf h3 hn;refine ⟨?_,g2⟩;rw [hst]
  ·exact g1
  ·intro e1;rw [e1,ht] at g1;cases g1
 ·rw [List.mem_singleton.1 hf] at h3;omega):P:=h
theorem SI.commit {B:List BT} {a:AS} (S:SI B a) {x:Txn} {t:TV} {e:PactNote} (ht:a.st x=some t) (ho:t.op=false) (hall:∀p∈t.ps,a.wk p x≠none) (he:e.Rec.Kind=4∧e.Rec.Txn=x):
  SI B (setL a x (some ⟨true,t.ps,fun _=>false⟩) e)∧Nxt B B a (setL a x (some ⟨true,t.ps,fun _=>false⟩) e):=by
 have hc:∀{y},com (a.log++[e]) y↔com a.log y∨y=x:=fun {y}=>by rw [QT_];exact or_congr Iff.rfl ⟨fun h=>h.2.symm.trans he.2,fun h=>⟨he.1,he.2.trans h.symm⟩⟩
 have hov:∀{y},over (a.log++[e]) y↔over a.log y:=fun {z}=>by rw [ZaB_];exact ⟨fun h=>h.elim id fun h=>by omega,.inl⟩
 have hy:∀{q y},yesN (a.log++[e]) q y↔yesN a.log q y:=fun {q y}=>by rw [qaC_];exact ⟨fun h=>h.elim id fun h=>by omega,.inl⟩
 have hno:¬com a.log x:=S.vo x t ht ho
 have hs:∀{y t'},(setL a x (some ⟨true,t.ps,fun _=>false⟩) e).st y=some t'→(y=x∧t'=⟨true,t.ps,fun _=>false⟩)∨(y≠x∧a.st y=some t'):=fun {y t'} h=>by
  have h':(if y=x then some (⟨true,t.ps,fun _=>false⟩:TV) else a.st y)=some t':=h;split at h'
  ·next e=>cases h';exact .inl ⟨e,rfl⟩
  ·next e=>exact .inr ⟨e,h'⟩
 have hst:∀{y},y≠x→(setL a x (some ⟨true,t.ps,fun _=>false⟩) e).st y=a.st y:=fun h=>if_neg h;have hsx:(setL a x (some ⟨true,t.ps,fun _=>false⟩) e).st x=some ⟨true,t.ps,fun _=>false⟩:=if_pos rfl
 refine ⟨⟨S.bn,S.bw,fun y t' h=>?_,fun y t' h h1 h2=>?_,fun y t' h h1=>?_,fun y h h'=>?_,fun y h=>?_,fun y t' q h h1 hh=>?_,fun y t' q h h1 hh=>?_,fun y p h hp=>?_,fun y h=>hc.2 (.inl (S.oc y (hov.1 h))),fun y p h hp=>S.ov y p (hov.1 h) hp,S.wb,fun p y h=>⟨hc.2 (.inl (S.db p y h).1),(S.db p y h).2⟩,S.wd,fun p y=>(S.dl p y).trans hy.symm,fun f hf h3 hn=>?_,S.ag.snoc (fun h=>by omega) (fun _ f hf h3 hn hx=>?_)⟩,
  ⟨fun _ h=>h,fun _ h=>hc.2 (.inl h),fun y h=>?_,fun y t' hk h=>?_,fun q y t' h _ _=>h,fun _ _ h=>h⟩⟩
 ·rcases hs h with ⟨rfl,rfl⟩ | ⟨_,h⟩
  ·obtain ⟨b,hb,hx,hp⟩:=S.sb y t ht;exact ⟨b,hb,hx,hp⟩
  ·exact S.sb y t' h
 ·rcases hs h with ⟨rfl,rfl⟩ | ⟨hne,h⟩
  ·cases h1
  ·exact (hc.1 h2).elim (S.vo y t' h h1) hne
 ·rcases hs h with ⟨rfl,rfl⟩ | ⟨hne,h⟩
  ·exact ⟨hc.2 (.inr rfl),fun h2=>hno (S.oc _ (hov.1 h2))⟩
  ·exact ⟨hc.2 (.inl (S.op y t' h h1).1),fun h2=>(S.op y t' h h1).2 (hov.1 h2)⟩
 ·by_cases e1:y=x
  ·subst e1;exact ⟨_,hsx,rfl⟩
  ·obtain ⟨t',g1,g2⟩:=S.cm y ((hc.1 h).resolve_right e1) fun h2=>h' (hov.2 h2);exact ⟨t',(hst e1).trans g1,g2⟩
 ·rcases hc.1 h with h | rfl
  ·exact S.cb y h
  ·exact S.kn ht
 ·rcases hs h with ⟨rfl,rfl⟩ | ⟨hne,h⟩
  ·cases h1
  ·exact S.hv y t' q h h1 hh
 ·rcases hs h with ⟨rfl,rfl⟩ | ⟨hne,h⟩
  ·cases hh
  ·exact S.ho y t' q h h1 hh
 ·rcases hc.1 h with h | rfl
  ·exact S.ap y p h hp
  ·exact .inl (hall p ((S.part ht).1 hp))
 ·exact v56_
 ·have g1:=(S.an f hf h3 hn).1;rw [hx,he.2,ht] at g1;cases g1
 ·rcases hc.1 h with h | rfl
  ·exact .inl h
  ·exact .inr ⟨t,ht,ho⟩
 ·rcases hs h with ⟨rfl,rfl⟩ | ⟨_,h⟩
  ·exact ⟨t,ht,fun h=>(by cases h),fun _=>rfl⟩
  ·exact ⟨t',h,fun h=>h,fun h=>h⟩
theorem SI.end {B:List BT} {a:AS} (S:SI B a) {x:Txn} {t:TV} {e:PactNote} (ht:a.st x=some t) (ho:t.op=true) (hall:∀p∈t.ps,a.dn p x) (he:e.Rec.Kind=5∧e.Rec.Txn=x):
  SI B (setL a x none e)∧Nxt B B a (setL a x none e):=by
 have hc:∀{y},com (a.log++[e]) y↔com a.log y:=fun {y}=>by rw [QT_];exact ⟨fun h=>h.elim id fun h=>by omega,.inl⟩
 have hov:∀{y},over (a.log++[e]) y↔over a.log y∨y=x:=fun {y}=>by rw [ZaB_];exact or_congr Iff.rfl ⟨fun h=>h.2.symm.trans he.2,fun h=>⟨he.1,he.2.trans h.symm⟩⟩
 have hy:∀{q y},yesN (a.log++[e]) q y↔yesN a.log q y:=fun {q y}=>by rw [qaC_];exact ⟨fun h=>h.elim id fun h=>by omega,.inl⟩
 have hs:∀{y t'},(setL a x none e).st y=some t'→y≠x∧a.st y=some t':=fun {y t'} h=>by
  have h':(if y=x then none else a.st y)=some t':=h;split at h'
  ·cases h'
  ·next e=>exact ⟨e,h'⟩
 have hst:∀{y},y≠x→(setL a x none e).st y=a.st y:=fun h=>if_neg h
 refine ⟨⟨S.bn,S.bw,fun y t' h=>S.sb y t' (hs h).2,fun y t' h h1 h2=>S.vo y t' (hs h).2 h1 (hc.1 h2),fun y t' h h1=>⟨hc.2 (S.op y t' (hs h).2 h1).1,fun h2=>?_⟩,fun y h h'=>?_,fun y h=>S.cb y (hc.1 h),fun y t' q h h1 hh=>S.hv y t' q (hs h).2 h1 hh,fun y t' q h h1 hh=>S.ho y t' q (hs h).2 h1 hh,fun y p h hp=>S.ap y p (hc.1 h) hp,fun y h=>?_,fun y p h hp=>?_,S.wb,fun p y h=>⟨hc.2 (S.db p y h).1,(S.db p y h).2⟩,S.wd,fun p y=>(S.dl p y).trans hy.symm,fun f hf h3 hn=>?_,S.ag.snoc (fun h=>by omega) (fun h=>by omega)⟩,
  ⟨fun _ h=>h,fun _ h=>hc.2 h,fun y h=> .inl (hc.1 h),fun y t' hk h=>⟨t',(hs h).2,fun h=>h,fun h=>h⟩,fun q y t' h _ _=>h,fun _ _ h=>h⟩⟩
 ·exact (hov.1 h2).elim (S.op y t' (hs h).2 h1).2 (hs h).1
 ·obtain ⟨t',g1,g2⟩:=S.cm y (hc.1 h) fun h2=>h' (hov.2 (.inl h2));exact ⟨t',(hst fun e1=>h' (hov.2 (.inr e1))).trans g1,g2⟩
 ·rcases hov.1 h with h | rfl
  ·exact hc.2 (S.oc y h)
  ·exact hc.2 (S.op y t ht ho).1
 ·rcases hov.1 h with h | rfl
  ·exact S.ov y p h hp
  ·exact hall p ((S.part ht).1 hp)
 ·exact v56_
theorem si0:SI [] ⟨fun _=>none,fun _ _=>none,fun _ _=>False,[]⟩:=by
 refine ⟨fun b hb=>(by cases hb),fun b hb=>(by cases hb),fun x t h=>(by cases h),fun x t h=>(by cases h),fun x t h=>(by cases h),fun x ⟨e,he,_⟩=>(by cases he),fun x ⟨e,he,_⟩=>(by cases he),fun x t p h=>(by cases h),fun x t p h=>(by cases h),fun x p ⟨e,he,_⟩=>(by cases he),fun x ⟨e,he,_⟩=>(by cases he),fun x p ⟨e,he,_⟩=>(by cases he),fun p x w h=>(by cases h),fun p x h=>(by cases h),fun p x h=>absurd rfl h,fun p x=>⟨fun h=>(by cases h),fun ⟨e,he,_⟩=>(by cases he)⟩,fun e he=>(by cases he),fun l1 e l2 h=>?_⟩;have:=congrArg List.length h;simp at this
end Go.Proofs.YtlflbkpmfhhikaaGreatDoor
