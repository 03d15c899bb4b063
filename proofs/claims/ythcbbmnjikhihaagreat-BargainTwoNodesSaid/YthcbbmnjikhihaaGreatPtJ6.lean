import Derived.Test.YthcbbmnjikhihaaGreatPtJ5
import Derived.Test.YthcbbmnjikhihaaGreatPtJ2
set_option linter.unusedSimpArgs false
set_option linter.unusedVariables false
namespace Go.Proofs.YthcbbmnjikhihaaGreat.Am
open Go Go.RowKit Go.Proofs
open AV renaming agg → Zao, d → Zab, ptr → Zaj
open BIf renaming of → Zbh
open AAb9 renaming cons → Zai
open Dv renaming sl → Zaf
open Go.Exit renaming exit → Zbs
open Int renaming toNat → Zaw
open Go.IntKind renaming wrap → Zae
open List renaming getElem?_eq_getElem → Zaz, length → Zaa, mem_cons_of_mem → Zck
open NearT renaming ak → Zcb, gs → Zbo, us → Zbp
open PairT renaming li → Zdg, se → Zex
open AAk9 renaming nil → Zah
open TabT renaming ak → Zbn, gs → Zbk, us → Zbj
open Go.Value renaming slice → Zcl
variable {β:Type} (wl:WLT β) (y:ACs9 β) (b:β) (R:AV→β→Prop) (K:Exit→List AV→List Blk→β→Prop) (Q:β→Prop)
open AV (bad)
set_option linter.unusedVariables false
set_option maxRecDepth 20000
set_option maxHeartbeats 1000000
def BHy9 (p:PairT):Prop:=TabOk p.li∧TabOk p.se∧(p.nl.length<1000000∧∀x∈p.nl,AIf9 x)∧(p.ns.length<1000000∧∀x∈p.ns,AIf9 x)
theorem BPy9 {me fr:Int} {t:TabT} (h:TabOk t):∀x∈ [toldN me t fr],AIf9 x:=fun x hx=>by
 rw [List.mem_singleton] at hx;subst hx;exact ⟨h.1,h.2.1,h.2.2⟩
theorem lt4 {l:List NearT} (h:∀x∈l,AIf9 x):∀x∈l,AEv9 x:=fun x hx=>by
 obtain ⟨h1,h2,h3⟩:=h x hx;exact ⟨by omega,by omega,by omega⟩
theorem CCu9 (p:PairT) (ly:LayT) (fr many:Int) (d u:Bool) (h:BHy9 p):PCall Tryz.prog 28 [pairA p,layA ly, .d (i64 fr), .d (i64 many), .d (bo d), .d (bo u)] (pairA (nextS ly p fr d u)):=by
 refine PCall.ofFn (n:=100) (u:=false) mixed CDz9 Zah Tryz.func28 (by rfl) (by rfl) fun Ev bb=> ?_
 rw [BYy9]
 obtain ⟨h1,h2,h3,h4⟩:=h
 cases d<;>cases u
 · exact ⟨ly,p.se,_,1,p.ns,fr,rfl,⟨h2,h4.1,lt4 h4.2,rfl⟩,rfl⟩
 · exact ⟨ly,p.se,_,1,p.ns,fr,rfl,⟨h2,h4.1,lt4 h4.2,rfl⟩,_,1,fr,_,rfl,rfl,rfl⟩
 · exact ⟨p.li,0,fr,_,rfl,rfl,ly,p.se,_,1, [toldN 0 p.li fr],fr,rfl,⟨h2,(by show 1<1000000;decide),lt4 (BPy9 h1),rfl⟩,rfl⟩
 · exact ⟨p.li,0,fr,_,rfl,rfl,ly,p.se,_,1, [toldN 0 p.li fr],fr,rfl,⟨h2,(by show 1<1000000;decide),lt4 (BPy9 h1),rfl⟩,_,1,fr,_,rfl,rfl,rfl⟩
theorem CCk9 (p:PairT) (ly:LayT) (fr many:Int) (h:BHy9 p):PCall Tryz.prog 30 [pairA p,layA ly, .d (i64 fr), .d (i64 many)] (pairA (turnS ly p fr many)):=by
 refine PCall.ofFn (n:=100) (u:=false) mixed CDv9 Zah Tryz.func30 (by rfl) (by rfl) fun Ev bb=> ?_
 rw [BWq9]
 obtain ⟨h1,h2,h3,h4⟩:=h
 exact ⟨ly,p.li,_,0,p.nl,fr,rfl,⟨h1,h3.1,lt4 h3.2,rfl⟩,ly,p.se,_,1,p.ns,0,many,fr,rfl,⟨h2,h4.1,h4.2,rfl⟩,rfl⟩
def cNext (args:List AV) (K:AV→Prop):Prop:=∃(p q:PairT) (ly:LayT) (fr many:Int) (d u:Bool),args= [pairA p,layA ly, .d (i64 fr), .d (i64 many), .d (bo d), .d (bo u)]∧(BHy9 p∧q=nextS ly p fr d u)∧K (pairA q)
theorem BTv9:∀args K,cNext args K→∃x,PCall Tryz.prog 28 args x∧K x:=by
 rintro _ K ⟨p,_,ly,fr,many,d,u,rfl,⟨h,rfl⟩,hk⟩;exact ⟨_,CCu9 p ly fr many d u h,hk⟩
def cTurn (args:List AV) (K:AV→Prop):Prop:=∃(p q:PairT) (ly:LayT) (fr many:Int),args= [pairA p,layA ly, .d (i64 fr), .d (i64 many)]∧(BHy9 p∧q=turnS ly p fr many)∧K (pairA q)
theorem BTm9:∀args K,cTurn args K→∃x,PCall Tryz.prog 30 args x∧K x:=by
 rintro _ K ⟨p,_,ly,fr,many,rfl,⟨h,rfl⟩,hk⟩;exact ⟨_,CCk9 p ly fr many h,hk⟩
def bosR (p:List Bool):List (List Dv):=p.map fun x=> [bo x]
noncomputable def lpTw:Code:=sub [1,1,1,1,1,0,1,2,3] (code Tryz.f7)
def tmTw (m:List Int) (d k:List Bool) (fi:Int) (u:Bool) (i:Int):List AV:= [.bad, .d (.sl 1 (AGc9 m)), .d (.sl 1 (bosR d)), .d (.sl 1 (bosR k)), .d (i64 fi), .bad, .bad, .bad, .bad, .bad, .bad, .d (bo u), .ptr 0 0, .ptr 1 0, .d (i64 i)]++List.replicate 78 .bad
def TTw:List (Nat×(List AV→(AV→Prop)→Prop)):= [(28,cNext),(29,cHeld),(30,cTurn)]
theorem CBi9:AAb9 Tryz.prog TTw:=Zai BTv9 (Zai BTy9 (Zai BTm9 AAb9.nil))
abbrev Qz31 (v0:List Int) (v1:List Bool) (v2:List Bool) (v3:Int) (v4:Bool) (v5:Int):=AV.bad::Zab (Zaf 1 (AGc9 v0))::Zab (Zaf 1 (bosR v1))::Zab (Zaf 1 (bosR v2))::Zab (i64 v3)::bds 6 (Zab (bo v4)::Zaj 0 0::Zaj 1 0::Zab (i64 v5)::bds 78 [])
abbrev Qz40 (v0:LayT) (v1:PairT):= [Blk.mk (Qz5 v0) false false 0,Blk.mk (Qz6 v1) false false 0]
theorem rTw (ly:LayT) (p:PairT) (m:List Int) (d k:List Bool) (fi:Int) (u:Bool) (i:Int):wpc Tryz.prog ⟨TTw, [],wl,y,false⟩ 100 lpTw (tmTw m d k fi u i) [layB ly,pairB p] b (maskK 2 [1,2,3,4,11,12,13,14] K)=(BIf (decide (i<(30:Int))) (BIf (decide (i<((Zaa (AGc9 m):Nat):Int))) (BIf (decide (i<((Zaa (bosR d):Nat):Int))) (BIf (decide (i<((Zaa (bosR k):Nat):Int))) (BIf (true&&decide (0≤i)) (∃(x0:Int),(AGc9 m)[Zaw i]? =some [u8 x0]∧BIf (true&&decide (0≤i)) (∃(b3:Bool),(bosR d)[Zaw i]? =some [bo b3]∧BIf (true&&decide (0≤i)) (∃(b6:Bool),(bosR k)[Zaw i]? =some [bo b6]∧∃(p9:PairT) (q10:PairT) (ly11:LayT) (fr12:Int) (many13:Int) (d14:Bool) (u15:Bool), [Zao (Qz6 p),Zao (Qz5 ly),Zab (i64 (Zae .i64 (fi+i))),Zab (i64 (Int.tmod (Zae .i64 x0) (25:Int))),Zab (bo b3),Zab (bo b6)]= [Zao (Qz6 p9),Zao (Qz5 ly11),Zab (i64 fr12),Zab (i64 many13),Zab (bo d14),Zab (bo u15)]∧(((Zaa (Zbj (Zdg p9))<10000∧Zaa (Zbk (Zdg p9))<10000∧Zaa (Zbn (Zdg p9))<10000)∧(Zaa (Zbj (Zex p9))<10000∧Zaa (Zbk (Zex p9))<10000∧Zaa (Zbn (Zex p9))<10000)∧(Zaa (PairT.nl p9)<1000000∧∀(x:NearT),x∈PairT.nl p9→Zaa (Zbp x)<10000∧Zaa (Zbo x)<10000∧Zaa (Zcb x)<10000)∧Zaa (PairT.ns p9)<1000000∧∀(x:NearT),x∈PairT.ns p9→Zaa (Zbp x)<10000∧Zaa (Zbo x)<10000∧Zaa (Zcb x)<10000)∧q10=nextS ly11 p9 fr12 d14 u15)∧∃(p16:PairT) (fr17:Int) (q18:Bool), [Zao (Qz6 q10),Zab (i64 (Zae .i64 (fi+i)))]= [Zao (Qz6 p16),Zab (i64 fr17)]∧(Zaa (Zbj (Zex p16))≤9223372036854775807∧Zaa (Zbk (Zdg p16))≤9223372036854775807∧q18=heldS p16 fr17)∧BIf u (∃(p19:PairT) (q20:PairT) (ly21:LayT) (fr22:Int) (many23:Int), [Zao (Qz6 q10),Zao (Qz5 ly),Zab (i64 (Zae .i64 (fi+i))),Zab (i64 (Int.tmod (Zae .i64 x0) (25:Int)))]= [Zao (Qz6 p19),Zao (Qz5 ly21),Zab (i64 fr22),Zab (i64 many23)]∧(((Zaa (Zbj (Zdg p19))<10000∧Zaa (Zbk (Zdg p19))<10000∧Zaa (Zbn (Zdg p19))<10000)∧(Zaa (Zbj (Zex p19))<10000∧Zaa (Zbk (Zex p19))<10000∧Zaa (Zbn (Zex p19))<10000)∧(Zaa (PairT.nl p19)<1000000∧∀(x:NearT),x∈PairT.nl p19→Zaa (Zbp x)<10000∧Zaa (Zbo x)<10000∧Zaa (Zcb x)<10000)∧Zaa (PairT.ns p19)<1000000∧∀(x:NearT),x∈PairT.ns p19→Zaa (Zbp x)<10000∧Zaa (Zbo x)<10000∧Zaa (Zcb x)<10000)∧q20=turnS ly21 p19 fr22 many23)∧K .normal (AV.bad::Zab (Zaf 1 (AGc9 m))::Zab (Zaf 1 (bosR d))::Zab (Zaf 1 (bosR k))::Zab (i64 fi)::bds 6 (Zab (bo q18)::Zaj 0 0::Zaj 1 0::Zab (i64 (Zae .i64 (i+1)))::bds 78 [])) (Qz40 ly q20) b) (∃(p24:PairT) (q25:PairT) (ly26:LayT) (fr27:Int) (many28:Int), [Zao (Qz6 q10),Zao (Qz5 ly),Zab (i64 (Zae .i64 (fi+i))),Zab (i64 (Int.tmod (Zae .i64 x0) (25:Int)))]= [Zao (Qz6 p24),Zao (Qz5 ly26),Zab (i64 fr27),Zab (i64 many28)]∧(((Zaa (Zbj (Zdg p24))<10000∧Zaa (Zbk (Zdg p24))<10000∧Zaa (Zbn (Zdg p24))<10000)∧(Zaa (Zbj (Zex p24))<10000∧Zaa (Zbk (Zex p24))<10000∧Zaa (Zbn (Zex p24))<10000)∧(Zaa (PairT.nl p24)<1000000∧∀(x:NearT),x∈PairT.nl p24→Zaa (Zbp x)<10000∧Zaa (Zbo x)<10000∧Zaa (Zcb x)<10000)∧Zaa (PairT.ns p24)<1000000∧∀(x:NearT),x∈PairT.ns p24→Zaa (Zbp x)<10000∧Zaa (Zbo x)<10000∧Zaa (Zcb x)<10000)∧q25=turnS ly26 p24 fr27 many28)∧K .normal (AV.bad::Zab (Zaf 1 (AGc9 m))::Zab (Zaf 1 (bosR d))::Zab (Zaf 1 (bosR k))::Zab (i64 fi)::bds 6 (Zab (bo false)::Zaj 0 0::Zaj 1 0::Zab (i64 (Zae .i64 (i+1)))::bds 78 [])) (Qz40 ly q25) b)) False) False) False) (K (Zbs 0) (Qz31 m d k fi u i) (Qz40 ly p) b)) (K (Zbs 0) (Qz31 m d k fi u i) (Qz40 ly p) b)) (K (Zbs 0) (Qz31 m d k fi u i) (Qz40 ly p) b)) (K (Zbs 0) (Qz31 m d k fi u i) (Qz40 ly p) b)):=by kernel_rfl
theorem ALo9 {α β:Type} {P:β→Prop} {f:β→α→β}:∀(l:List α) {b:β},(∀b a,a∈l→P b→P (f b a))→P b→P (l.foldl f b)
 | [],b,_,h=>h
 |x::r,b,hf,h=>ALo9 r (fun b a ha=>hf b a (Zck _ ha)) (hf b x List.mem_cons_self h)
def Asked (s:SideT) (me fr:Int) (b:GraT):Prop:=∃n∈s.ns,AOk9 s n=true∧∃a∈n.ak,a.pe=me∧usedS s.ns a.sl a.of n.fm=false∧b=newG fr n a
def GrInv (s:SideT) (me fr:Int) (g0:List GraT) (q:TabT):Prop:=(∀g∈g0,g∈q.gs)∧∀b∈q.gs,b∈g0∨(Asked s me fr b∧∀g∈g0,g.sl≠b.sl)
theorem ATe9 {s:SideT} {ly:LayT} {me fr:Int} {n:NearT} {a:AskT} {g0:List GraT} {q:TabT} (hn:n∈s.ns) (hh:AOk9 s n=true) (ha:a∈n.ak) (h:GrInv s me fr g0 q):GrInv s me fr g0 (AAp9 s ly me fr n q a):=by
 unfold AAp9
 split
 · exact h
 · rename_i h0
   split
   · rename_i h1
     rw [addSG,if_pos h1]
     obtain ⟨b1,b2⟩:=AWl9 (AHs9 h1).2.2.1
     have hp:=AGl9 (fun x:GraT=>decide (x.sl>(newG fr n a).sl)) (newG fr n a) q.gs
     simp only [Bool.not_eq_true,Bool.or_eq_false_iff,bne_eq_false_iff_eq] at h0
     refine ⟨fun g hg=>hp.mem_iff.2 (Zck _ (h.1 g hg)),fun b hb=> ?_⟩
     rcases List.mem_cons.1 (hp.mem_iff.1 hb) with rfl|hb
     · exact .inr ⟨⟨n,hn,hh,a,ha,h0.1,h0.2,rfl⟩,fun g hg=>b2 g (h.1 g hg)⟩
     · exact h.2 b hb
   · exact h
theorem ATf9 (s:SideT) (ly:LayT) (me fr:Int) (t:TabT):GrInv s me fr t.gs (AIu9 s ly me fr t):=by
 refine ALo9 (P:=GrInv s me fr t.gs) _ (fun q n hn h=> ?_) ⟨fun g hg=>hg,fun b hb=> .inl hb⟩
 unfold AFo9
 split
 · rename_i hh;exact ALo9 (P:=GrInv s me fr t.gs) _ (fun q a ha h=>ATe9 hn hh ha h) h
 · exact h
theorem BDu9 {ly:LayT} {t:TabT} {me:Int} {l:List NearT} {fr:Int} (h:newS ly t me l fr=true):GrInv (sideS ly me l fr) me fr ((ADz9 t fr).gs.map (ADg9 (sideS ly me l fr) fr)) (AGo9 ly t me l fr):=by
 rw [AGo9,if_pos h];exact ATf9 _ _ _ _ ⟨t.us,_,t.ak⟩
theorem BIr9 (s:SideT) {fr:Int} (h:0≤fr∧fr≤999999992) (g:GraT):(ADg9 s fr g).un≥g.un∧(AFu9 s g=false→ADg9 s fr g=g)∧((ADg9 s fr g).un=g.un∨(ADg9 s fr g).un=fr+8):=by
 unfold ADg9
 split
 · rename_i h1
   rw [BDf9 h]
   refine ⟨?_,fun h2=>(by rw [h1] at h2;cases h2), ?_⟩
   · dsimp only;split<;>omega
   · dsimp only;split
     · exact .inr rfl
     · exact .inl rfl
 · exact ⟨Int.le_refl _,fun _=>rfl, .inl rfl⟩
def Heard (l:List NearT) (who fr:Int) (ly:LayT) (P:TabT→Prop):Prop:=l= []∨∃q f0,l= [toldN who q f0]∧(0≤f0∧f0≤fr)∧ABu9 q ly∧P q
theorem AIn9 {t:TabT} {ly:LayT} (h:ABu9 t ly):TabOk t:=by
 have:=h.2.1;exact ⟨by omega,by omega,by omega⟩
theorem BDq9 {l:List NearT} {who fr:Int} {ly:LayT} {P:TabT→Prop} (h:Heard l who fr ly P):l.length<1000000∧∀x∈l,AIf9 x:=by
 rcases h with rfl|⟨q,f0,rfl,_,hq,_⟩
 · exact ⟨by decide,fun x hx=>by cases hx⟩
 · exact ⟨by show 1<1000000;decide,BPy9 (AIn9 hq)⟩
theorem AOb9 {ly:LayT} {t:TabT} {me who fr:Int} {l:List NearT} {P:TabT→Prop} (h:Heard l who fr ly P) (hv:ABu9 t ly) (hm:0≤me∧me<ly.no) (hw:0≤who∧who<ly.no) (hmw:who≠me) (hf:0≤fr∧fr≤999999992):newS ly t me l fr=true:=by
 have hl:=ABy9 (ADs9.2 hv)
 have h1:(ABd9 none l).any (badN ly me fr)=false:=by
   rcases h with rfl|⟨q,f0,rfl,hf0,hq,_⟩
   · rfl
   · have e:badN ly me fr (none,toldN who q f0)=false:=by
       have e1:decide (who<0)=false:=decide_eq_false (by omega)
       have e2:decide (who≥ly.no)=false:=decide_eq_false (by omega)
       have e3:(who==me)=false:=beq_eq_false_iff_ne.2 hmw
       have e4:decide (f0<0)=false:=decide_eq_false (by omega)
       have e5:decide (f0>fr)=false:=decide_eq_false (by omega)
       show (decide (who<0)||(decide (who≥ly.no)||(who==me||(decide (f0<0)||(decide (f0>fr)||false)))))=false
       rw [e1,e2,e3,e4,e5];rfl
     show (badN ly me fr (none,toldN who q f0)||false)=false
     rw [e];rfl
 rw [newS,ADs9.2 hv,ABc9 (by omega) (by omega),inN,inN,decide_eq_true hm.1,decide_eq_true (by omega:me≤ly.no - 1),decide_eq_true hf.1,decide_eq_true hf.2,h1];rfl
def AUg9 (g x:GraT):Prop:=x.sl=g.sl∧x.of=g.of∧x.pe=g.pe∧x.un≥g.un
theorem AUg9.trans {a b c:GraT} (h:AUg9 a b) (k:AUg9 b c):AUg9 a c:=by
 obtain ⟨h1,h2,h3,h4⟩:=h
 obtain ⟨k1,k2,k3,k4⟩:=k
 exact ⟨k1.trans h1,k2.trans h2,k3.trans h3,by omega⟩
theorem ATd9 {ly:LayT} {t:TabT} {me:Int} {l:List NearT} {fr:Int} (h:newS ly t me l fr=true) {g:GraT} (hg:g∈t.gs) (hu:g.un≥fr):∃x∈(AGo9 ly t me l fr).gs,AUg9 g x:=by
 have hf:=(AVh9 h).2
 obtain ⟨e1,e2,e3,_⟩:=ANw9 (sideS ly me l fr) fr g
 exact ⟨_,(BDu9 h).1 _ (List.mem_map.2 ⟨g,List.mem_filter.2 ⟨hg,by simpa using hu⟩,rfl⟩),e1,e2,e3,(BIr9 _ hf g).1⟩
structure PInv (ly:LayT) (p:PairT) (f:Int):Prop where
 li:ABu9 p.li ly
 se:ABu9 p.se ly
 ns:Heard p.ns 0 f ly (fun q=>∀g∈q.gs,g.un≥f→∃x∈p.li.gs,AUg9 g x)
 nl:Heard p.nl 1 f ly (fun _=>True)
theorem PInv.ok {ly:LayT} {p:PairT} {f:Int} (h:PInv ly p f):BHy9 p:=⟨AIn9 h.li,AIn9 h.se,BDq9 h.nl,BDq9 h.ns⟩
theorem BYx9 {ly:LayT} {p:PairT} {f:Int} (h:PInv ly p f) (hf:0≤f) (d:Bool):Heard (if d=true then [toldN 0 p.li f] else p.ns) 0 f ly (fun q=>∀g∈q.gs,g.un≥f→∃x∈p.li.gs,AUg9 g x):=by
 cases d
 · exact h.ns
 · exact .inr ⟨p.li,f,rfl,⟨hf,Int.le_refl _⟩,h.li,fun g hg _=>⟨g,hg,rfl,rfl,rfl,Int.le_refl _⟩⟩
theorem PInv.next {ly:LayT} {p:PairT} {f:Int} (h:PInv ly p f) (hl:ly.no=2) (hf:0≤f∧f≤999999992) (d u:Bool):PInv ly (nextS ly p f d u) f∧∀v∈(nextS ly p f d u).se.us,v.pe=0∧∃x∈p.li.gs,x.sl=v.sl∧x.of=v.of∧x.pe=1∧x.un≥f:=by
 have hns:=BYx9 h hf.1 d
 have hn:=AOb9 (t:=p.se) (me:=1) hns h.se (by omega) (by omega) (by decide) hf
 have hv:=AXh9 hn
 refine ⟨⟨h.li,hv,hns, ?_⟩,fun v hvm=> ?_⟩
 · cases u
   · exact h.nl
   · exact .inr ⟨_,f,rfl,⟨hf.1,Int.le_refl _⟩,hv,trivial⟩
 · obtain ⟨n,hnm,g,hg,k1,k2,k3,k4,k5,_⟩:=APq9 hn v hvm
   rcases hns with e|⟨q,f0,e,_,_,hq⟩
   · rw [e] at hnm;cases hnm
   · rw [e,List.mem_singleton] at hnm
     subst hnm
     obtain ⟨x,hx,x1,x2,x3,x4⟩:=hq g hg k5
     exact ⟨k1.symm,x,hx,by omega,by omega,by omega,by omega⟩
theorem PInv.held {ly:LayT} {p:PairT} {f:Int} (h:PInv ly p f) (hl:ly.no=2) (hf:0≤f∧f≤999999992) (d u:Bool):heldS (nextS ly p f d u) f=true:=by
 obtain ⟨_,h2⟩:=h.next hl hf d u
 rw [heldS,Bool.not_eq_true',List.any_eq_false]
 intro v hv
 obtain ⟨_,x,hx,x1,x2,x3,x4⟩:=h2 v hv
 rw [openU,Bool.not_eq_true,Bool.not_eq_false']
 refine List.any_eq_true.2 ⟨x,hx, ?_⟩
 rw [heldG,x1,x2,x3,decide_eq_true x4];simp
theorem PInv.turn {ly:LayT} {p:PairT} {f:Int} (h:PInv ly p f) (hl:ly.no=2) (hf:0≤f∧f≤999999992) (many:Int):PInv ly (turnS ly p f many) (f+1):=by
 have hn:=AOb9 (t:=p.li) (me:=0) h.nl h.li (by omega) (by omega) (by decide) hf
 have hn2:=AOb9 (t:=p.se) (me:=1) h.ns h.se (by omega) (by omega) (by decide) hf
 refine ⟨ATc9 hn,BHa9 hn2, ?_, ?_⟩
 · rcases h.ns with e|⟨q,f0,e,hf0,hq,hq2⟩
   · exact .inl e
   · refine .inr ⟨q,f0,e,⟨hf0.1,by omega⟩,hq,fun g hg hu=> ?_⟩
     obtain ⟨x,hx,hgo⟩:=hq2 g hg (by omega)
     obtain ⟨y,hy,hgo2⟩:=ATd9 hn hx (by have:=hgo.2.2.2;omega)
     exact ⟨y,hy,hgo.trans hgo2⟩
 · rcases h.nl with e|⟨q,f0,e,hf0,hq,_⟩
   · exact .inl e
   · exact .inr ⟨q,f0,e,⟨hf0.1,by omega⟩,hq,trivial⟩
def zeroP:PairT:=⟨⟨[], [], []⟩,⟨[], [], []⟩, [], []⟩
theorem APb9 {ly:LayT} (h:layOk ly=true):ABu9 ⟨[], [], []⟩ ly:=⟨h,⟨by decide,by decide⟩,⟨fun x hx=>by (cases hx), .nil⟩,⟨fun x hx=>by (cases hx), .nil⟩,⟨fun x hx=>by (cases hx), .nil⟩,by decide⟩
theorem PInv.zero {ly:LayT} (h:layOk ly=true) (f:Int):PInv ly zeroP f:=⟨APb9 h,APb9 h, .inl rfl, .inl rfl⟩
theorem BOm9 {l:List Bool} {i:Nat} {x:Bool} (h:l[i]? =some x):(bosR l)[Zaw ((i:Nat):Int)]? =some [bo x]:=by simp [bosR,h]
theorem CDp9 {l:List Int} {i:Nat} {x:Int} (h:l[i]? =some x):(AGc9 l)[Zaw ((i:Nat):Int)]? =some [u8 x]:=by simp [AGc9,h]
theorem wrTw {Ev:Env Tryz.prog} {b:Ev.β} {Q:Exit→St Ev.β→Prop} (ly:LayT) (m:List Int) (d k:List Bool) (fi:Int) (hl:ly.no=2) (hf:0≤fi∧fi≤999999900)
   (hQ:∀(p:PairT) (i:Int),Q (.exit 0) ⟨tmTw m d k fi true i, [layB ly,pairB p],b⟩):∀(n i:Nat) (p:PairT),i+n=30→PInv ly p (fi+i)→WR Ev lpTw (n+1) ⟨tmTw m d k fi true (i:Nat), [layB ly,pairB p],b⟩ Q:=by
 intro n
 induction n with
 | zero=>
   intro i p hi hp
   have:i=30:=by omega
   subst this
   refine WR.ofMask (X:=⟨TTw, [],wlW Ev,Ev.Y,false⟩) (k:=100) [1,2,3,4,11,12,13,14] mixed (CX.Ok.of CBi9 Zah) ?_
   refine Eq.mpr (rTw _ _ _ _ ly p m d k fi true _) ?_
   exact BIf.f (by decide) (hQ p _)
 | succ n ih=>
   intro i p hi hp
   refine WR.ofMask (X:=⟨TTw, [],wlW Ev,Ev.Y,false⟩) (k:=100) [1,2,3,4,11,12,13,14] mixed (CX.Ok.of CBi9 Zah) ?_
   refine Eq.mpr (rTw _ _ _ _ ly p m d k fi true _) ?_
   have hfi:0≤fi+(i:Int)∧fi+(i:Int)≤999999992:=by omega
   rw [ABc9 (x:=fi+(i:Int)) (by omega) (by omega),wrapN (by omega)]
   refine BIf.t (decide_eq_true (by omega)) (Zbh (fun c1=>Zbh (fun c2=>Zbh (fun c3=> ?_) fun _=>hQ p _) fun _=>hQ p _) fun _=>hQ p _)
   have d1:i<m.length:=by have:=of_decide_eq_true c1;simp [AGc9] at this;omega
   have d2:i<d.length:=by have:=of_decide_eq_true c2;simp [bosR] at this;omega
   have d3:i<k.length:=by have:=of_decide_eq_true c3;simp [bosR] at this;omega
   obtain ⟨h1,_⟩:=hp.next hl hfi d[i] k[i]
   have h2:=hp.held hl hfi d[i] k[i]
   have h1o:=h1.ok
   refine BIf.t (natI i) ⟨m[i],CDp9 (Zaz d1),BIf.t (natI i) ⟨d[i],BOm9 (Zaz d2),BIf.t (natI i) ⟨k[i],BOm9 (Zaz d3),p,nextS ly p (fi+i) d[i] k[i],ly,_,_,_,_,rfl,⟨hp.ok,rfl⟩,_,_,true,rfl,⟨by have:=h1o.2.1.1;omega,by have:=h1o.1.2.1;omega,h2.symm⟩,nextS ly p (fi+i) d[i] k[i],_,ly,_,_,rfl,⟨h1o,rfl⟩, ?_⟩⟩⟩
   have h3:=h1.turn hl hfi (Int.tmod (Zae IntKind.i64 m[i]) 25)
   refine ih (i+1) _ (by omega) ?_
   rw [show fi+((i+1:Nat):Int)=fi+(i:Int)+1 by omega]
   exact h1.turn hl hfi _
def wlTw {β:Type}:WLT β:=fun cd tm hp b K=>∃(ly:LayT) (m:List Int) (d k:List Bool) (fi:Int),cd= .loop lpTw∧ABb9 [1,2,3,4,11,12,13,14] 0 tm=tmTw m d k fi true 0∧LeH hp [layB ly,pairB zeroP]∧(ly.no=2∧(1≤ly.da∧ly.da≤60)∧(0≤fi∧fi≤999999900))∧
 ∀(p:PairT) (i:Int),K (.exit 0) (tmTw m d k fi true i) [layB ly,pairB p] b
theorem BVu9 {Ev:Env Tryz.prog} (c:Code) (tm:List AV) (hp:List Blk) (b:Ev.β) (K:Exit→List AV→List Blk→Ev.β→Prop) (h:wlTw c tm hp b K):W Ev c ⟨tm,hp,b⟩ (fun e s=>K e s.tm s.hp s.b):=by
 obtain ⟨ly,m,d,k,fi,rfl,htm,hhp,⟨hl,hd,hf⟩,hK⟩:=h
 refine W.cast (htm▸AAe9 _ tm 0) hhp ?_
 have hlo:layOk ly=true:=by
   simp only [layOk,Bool.and_eq_true];exact ⟨decide_eq_true (by omega),decide_eq_true (by omega),decide_eq_true hd.1,decide_eq_true hd.2⟩
 exact W.rounds (wrTw (Q:=fun e s=>K e s.tm s.hp s.b) (b:=b) ly m d k fi hl hf hK 30 0 zeroP rfl (PInv.zero hlo _))
def TL7:List (Nat×(List AV→(AV→Prop)→Prop)):= [(10,cHead)]
theorem CEb9:AAb9 Tryz.prog TL7:=Zai BTz9 AAb9.nil
abbrev Qz57 (v0:List Int) (v1:List Bool) (v2:List Bool) (v3:Int):=AV.bad::Zab (Zaf 1 (AGc9 v0))::Zab (Zaf 1 (bosR v1))::Zab (Zaf 1 (bosR v2))::Zab (i64 v3)::bds 6 (Zab (bo true)::Zaj 0 0::Zaj 1 0::Zab (i64 0)::bds 78 [])
theorem BZd9 (da fi:Int) (m:List Int) (d k:List Bool):wpFn Tryz.prog ⟨TL7, [],wlTw,y,false⟩ 100 Tryz.f7 [.d (i64 da), .d (.sl 1 (AGc9 m)), .d (.sl 1 (bosR d)), .d (.sl 1 (bosR k)), .d (i64 fi)] b R=(([]:List AV)= []∧BIf (decide (da<(1:Int))) (R (.d (bo true)) b) (BIf (decide (da>(60:Int))) (R (.d (bo true)) b) (BIf (decide (fi<(0:Int))) (R (.d (bo true)) b) (BIf (decide (fi>(999999900:Int))) (R (.d (bo true)) b) (∃(ly0:LayT) (m1:List Int) (d2:List Bool) (k3:List Bool) (fi4:Int),Code.loop lpTw=Code.loop lpTw∧(Qz57 m d k fi)=(Qz57 m1 d2 k3 fi4)∧LeH [Blk.mk [Zab (i64 2),Zab (i64 da)] false false 0,Blk.mk [Zab (Dv.s (.slice none 0 0)),Zab (Dv.s (.slice none 0 0)),Zab (Dv.s (.slice none 0 0)),Zab (Dv.s (.slice none 0 0)),Zab (Dv.s (.slice none 0 0)),Zab (Dv.s (.slice none 0 0)),Zab (Dv.s (.slice none 0 0)),Zab (Dv.s (.slice none 0 0))] false false 0] [Blk.mk (Qz5 ly0) false false 0,Blk.mk [Zab (Zaf 4 (rowsU (Zbj (Zdg zeroP)))),Zab (Zaf 5 (rowsG (Zbk (Zdg zeroP)))),Zab (Zaf 3 (rowsA (Zbn (Zdg zeroP)))),Zab (Zaf 4 (rowsU (Zbj (Zex zeroP)))),Zab (Zaf 5 (rowsG (Zbk (Zex zeroP)))),Zab (Zaf 3 (rowsA (Zbn (Zex zeroP)))),Zab (Zaf 31 (rowsN (PairT.nl zeroP))),Zab (Zaf 31 (rowsN (PairT.ns zeroP)))] false false 0]∧(LayT.no ly0=(2:Int)∧((1:Int)≤LayT.da ly0∧LayT.da ly0≤(60:Int))∧(0:Int)≤fi4∧fi4≤(999999900:Int))∧∀(p:PairT) (i:Int),R (.d (bo true)) b))))):=by kernel_rfl
theorem BPa9:LeL [.d (Dv.s (Zcl none 0 0)), .d (Dv.s (Zcl none 0 0)), .d (Dv.s (Zcl none 0 0)), .d (Dv.s (Zcl none 0 0)), .d (Dv.s (Zcl none 0 0)), .d (Dv.s (Zcl none 0 0)), .d (Dv.s (Zcl none 0 0)), .d (Dv.s (Zcl none 0 0))] (pairB zeroP).cells:=by
 repeat' (first|exact .nil|refine .cons (LeA.nilSl rfl) ?_)
theorem CCv9 (da fi:Int) (m:List Int) (d k:List Bool):
   PCall Tryz.prog 7 [.d (i64 da), .d (.sl 1 (AGc9 m)), .d (.sl 1 (bosR d)), .d (.sl 1 (bosR k)), .d (i64 fi)] (.d (bo true)):=by
 refine PCall.ofFnW (n:=100) (u:=false) (fun _=>wlTw) mixed CEb9 Zah (fun Ev=>BVu9) Tryz.func7 (by rfl) (by rfl) fun Ev bb=> ?_
 rw [BZd9]
 refine ⟨rfl,Zbh (fun _=>rfl) fun c1=>Zbh (fun _=>rfl) fun c2=>Zbh (fun _=>rfl) fun c3=>Zbh (fun _=>rfl) fun c4=> ?_⟩
 rw [decide_eq_false_iff_not] at c1 c2 c3 c4
 exact ⟨⟨2,da⟩,m,d,k,fi,rfl,rfl, .cons (.refl _) (.cons BPa9 .nil),⟨rfl,⟨by show 1≤da;omega,by show da≤60;omega⟩,by omega,by omega⟩,fun p i=>rfl⟩
end Go.Proofs.YthcbbmnjikhihaaGreat.Am
namespace Go.Proofs.YthcbbmnjikhihaaGreat.Am
open Go Go.RowKit Go.Proofs Go.ChangeShapes Go.WideShapes Go.ChangeAt
open AV renaming agg → Zao, d → Zab, ptr → Zaj
open BIf renaming of → Zbh
open AAb9 renaming cons → Zai
open Dv renaming sl → Zaf
open Go.Exit renaming exit → Zbs
open Int renaming toNat → Zaw
open Go.IntKind renaming wrap → Zae
open List renaming getElem?_eq_getElem → Zaz, length → Zaa, mem_cons_of_mem → Zck
open NearT renaming ak → Zcb, gs → Zbo, us → Zbp
open PairT renaming li → Zdg, se → Zex
open AAk9 renaming nil → Zah
open TabT renaming ak → Zbn, gs → Zbk, us → Zbj
open Go.Value renaming slice → Zcl
variable {β:Type} (b:β)
open AV (bad)
set_option linter.unusedVariables false
set_option maxRecDepth 20000
theorem CDi9:flat Tryz.prog 20 48=some [.sl [.int .u8]]:=by kernel_rfl
theorem BZl9:flat Tryz.prog 20 70=some [.sl [.bool]]:=by kernel_rfl
theorem CAs9 {x:Dv} (h:HasTy (.sl [.bool]) x):∃p:List Bool,x= .sl 1 (bosR p)∧p.length≤maxLen∧True:=by
 cases h with
 | sl _ xs hl h=>
   have key:∀(xs:List (List Dv)),(∀row∈xs,AUf9 [.bool] row)→∃p:List Bool,xs=bosR p:=by
     intro xs
     induction xs with
     |nil=>exact fun _=>⟨[],rfl⟩
     | cons row xs ih=>
       intro h
       obtain ⟨p,rfl⟩:=ih fun r hr=>h r (Zck _ hr)
       have h0:=h row (List.mem_cons_self ..)
       cases h0 with
       | cons h1 h2=>cases h2 with
         | nil=>cases h1 with
           |bool b=>exact ⟨b::p,rfl⟩
   obtain ⟨p,rfl⟩:=key xs h
   exact ⟨p,rfl,by simpa [bosR] using hl,trivial⟩
end Go.Proofs.YthcbbmnjikhihaaGreat.Am
