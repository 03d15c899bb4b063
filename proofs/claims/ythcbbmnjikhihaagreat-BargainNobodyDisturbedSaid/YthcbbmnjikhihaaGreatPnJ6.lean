import Derived.Test.YthcbbmnjikhihaaGreatPnJ5
import Derived.Test.YthcbbmnjikhihaaGreatPnJ2
import Derived.Test.YthcbbmnjikhihaaGreatRows
import Derived.ProofKit
import Derived.Test.YthcbbmnjikhihaaGreatPnJ4
set_option linter.unusedSimpArgs false
set_option linter.unusedVariables false
namespace Go.Proofs.YthcbbmnjikhihaaGreat.Am
open Go Go.RowKit Go.Proofs Tryz
open AV renaming agg → Zaq, bad → Zab, d → Zae, ptr → Zaf
open BIf renaming of → Zba, t → Zaz
open Bool renaming and_eq_true → Zai, and_false → Zcs, false_and → Zcj, not_eq_true' → Zcb, or_eq_false_iff → Zeo
open AAc9 renaming cons → Zaj, nil → Zak
open Go.Code renaming loop → Zat
open Dv renaming sl → Zan
open Int renaming toNat → Zam
open Go.IntKind renaming i64 → Zbc, wrap → Zad
open LayT renaming da → Zcx
open LeH renaming refl → Zbp
open LeVs renaming refl → Zfl
open List renaming all → Zbk, all_eq_true → Zbd, any_eq_false → Zfh, any_eq_true → Zdv, length → Zaa, mem_append → Zbu, mem_cons → Zbw, mem_cons_of_mem → Zbx, mem_cons_self → Zbv, mem_filter → Zdq, mem_map → Zbg, pairwise_cons → Zds
open NearT renaming fm → Zdm
open AAl9 renaming nil → Zah
open TabT renaming ak → Zdh, gs → Zdb
variable {β:Type} (wl:WLT β) (y:ACw9 β) (b:β) (R:AV→β→Prop) (K:Exit→List AV→List Blk→β→Prop) (Q:β→Prop)
open AV (bad)
set_option linter.unusedVariables false
set_option maxRecDepth 20000
set_option maxHeartbeats 1000000
def cntL (l:List Int) (n:Nat):List Int:=(List.range n).map fun s:Nat=>cntS l (s:Int)
theorem wrVr3 {Ev:Env prog} {b:Ev.β} {Q:Exit→St Ev.β→Prop} (t:TabT) (ly:LayT) (l:List Int) (n:Nat) (hn:n<1000)
 (h1:(cntL l n).any (fun c=>decide (c>1))=false→∀i:Int,Q (.exit 6) ⟨tmVr3 n false i, [tabB t,layB ly,growB 0 (cntC l n)],b⟩)
 (h2:(cntL l n).any (fun c=>decide (c>1))=true→∀(i:Int) (cs:List AV),Q .ret ⟨tmVr3 n false i, [tabB t,layB ly,growB 0 (cntC l n)],b⟩):
 WR Ev lpVr3 (n+1) ⟨tmVr3 n false (0:Nat), [tabB t,layB ly,growB 0 (cntC l n)],b⟩ Q:=by
 have e:(cntL l n).length=n:=by simp [cntL]
 have e2:n+1=(cntL l n).length+1:=by rw [e]
 rw [e2];refine WR.scanL (X:=⟨TV12, [],wlW Ev,Ev.Y,false⟩) (k:=100) [2,3,4,5,9] mixed (CX.Ok.of AGz9 Zah) (cntL l n) (fun c=>decide (c>1)) (fun i=>tmVr3 n false (i:Nat)) (fun i=>tmVr3 n false (i:Nat)) [tabB t,layB ly,growB 0 (cntC l n)] 6 (fun i x hi hx K k1 k2=> ?_) (fun K k1=> ?_) (fun h=>h1 h _) fun h i=>h2 h _ []
 ·rw [e] at hi;refine Eq.mpr (rVr3 _ _ _ K t ly n _ i) ?_;have hx0:cntS l (i:Int)=x:=by
   simp only [cntL,List.getElem?_map] at hx;rw [List.getElem?_range hi] at hx;simpa using hx
  refine ⟨rfl,Zaz (by simp;omega) ⟨rfl,Zaz (by simp;omega) ⟨rfl,_,AMj9 ⟨by omega,by omega⟩,Zba (fun c=>Zaz (AFv9 t ly _ _) (k1 (by rw [←hx0];exact c))) fun c=>Zaz (AFv9 t ly _ _) ?_⟩⟩⟩;rw [wrapN (by omega)];exact k2 (by rw [←hx0];exact c)
 ·refine Eq.mpr (rVr3 _ _ _ K t ly n _ _) ?_;exact ⟨rfl,BIf.f (by simp [e]) (Zaz (AFv9 t ly _ _) k1)⟩
def wlVr {β:Type}:WLT β:=fun cd tm hp b K=>match cidO cd with
 |6=>∃(t:TabT) (ly:LayT) (pre:List Int) (n:Nat) (q:Bool),cd= .loop lpVr0∧AAv9 [2,3,4,5,6] 0 tm=tmVr0 n false 0∧hp= [tabB t,layB ly,growB 0 (cntC pre n)]∧(n=ly.da.toNat∧pre.length≤1000∧t.us.length≤9223372036854775807∧(1≤ly.da∧ly.da≤60)∧q=(AAe9 none t.us).any (badUr ly))∧BIf q (∀(i:Int) (cs:List AV),K .ret (tmVr0 n false i) [tabB t,layB ly,growB 0 cs] b) (∀i:Int,K (.exit 0) (tmVr0 n false i) [tabB t,layB ly,growB 0 (cntC (pre++t.us.map (·.sl)) n)] b)
 |12=>∃(t:TabT) (ly:LayT) (pre:List Int) (n:Nat) (q:Bool),cd= .loop lpVr1∧AAv9 [2,3,4,5,7] 0 tm=tmVr1 n false 0∧hp= [tabB t,layB ly,growB 0 (cntC pre n)]∧(n=ly.da.toNat∧pre.length≤1000∧t.gs.length≤9223372036854775807∧(1≤ly.da∧ly.da≤60)∧q=(AAe9 none t.gs).any (badGr ly))∧BIf q (∀(i:Int) (cs:List AV),K .ret (tmVr1 n false i) [tabB t,layB ly,growB 0 cs] b) (∀i:Int,K (.exit 2) (tmVr1 n false i) [tabB t,layB ly,growB 0 (cntC (pre++t.gs.map (·.sl)) n)] b)
 |18=>∃(t:TabT) (ly:LayT) (pre:List Int) (n:Nat) (q:Bool),cd= .loop lpVr2∧AAv9 [2,3,4,5,8] 0 tm=tmVr2 n false 0∧hp= [tabB t,layB ly,growB 0 (cntC pre n)]∧(n=ly.da.toNat∧pre.length≤1000∧t.ak.length≤9223372036854775807∧(1≤ly.da∧ly.da≤60)∧q=(AAe9 none t.ak).any (badAr ly))∧BIf q (∀(i:Int) (cs:List AV),K .ret (tmVr2 n false i) [tabB t,layB ly,growB 0 cs] b) (∀i:Int,K (.exit 4) (tmVr2 n false i) [tabB t,layB ly,growB 0 (cntC (pre++t.ak.map (·.sl)) n)] b)
 |24=>∃(t:TabT) (ly:LayT) (l:List Int) (n:Nat) (q:Bool),cd= .loop lpVr3∧AAv9 [2,3,4,5,9] 0 tm=tmVr3 n false 0∧hp= [tabB t,layB ly,growB 0 (cntC l n)]∧(n<1000∧q=(cntL l n).any fun c=>decide (c>1))∧BIf q (∀(i:Int) (cs:List AV),K .ret (tmVr3 n false i) [tabB t,layB ly,growB 0 (cntC l n)] b) (∀i:Int,K (.exit 6) (tmVr3 n false i) [tabB t,layB ly,growB 0 (cntC l n)] b)
 |_=>False
theorem BZq9 {Ev:Env prog} (c:Code) (tm:List AV) (hp:List Blk) (b:Ev.β) (K:Exit→List AV→List Blk→Ev.β→Prop) (h:wlVr c tm hp b K):W Ev c ⟨tm,hp,b⟩ (fun e s=>K e s.tm s.hp s.b):=by
 unfold wlVr at h;split at h
 ·obtain ⟨t,ly,pre,n,q,rfl,htm,rfl,⟨rfl,hp1,hl,hd,hz⟩,hK⟩:=h;refine W.cast (htm▸AAb9 _ tm 0) (Zbp _) ?_;exact W.rounds (wrVr0 (Q:=fun e s=>K e s.tm s.hp s.b) t ly pre hp1 hl hd (fun h=>by rw [hz,h] at hK;exact hK) fun h=>by rw [hz,h] at hK;exact hK)
 ·obtain ⟨t,ly,pre,n,q,rfl,htm,rfl,⟨rfl,hp1,hl,hd,hz⟩,hK⟩:=h;refine W.cast (htm▸AAb9 _ tm 0) (Zbp _) ?_;exact W.rounds (wrVr1 (Q:=fun e s=>K e s.tm s.hp s.b) t ly pre hp1 hl hd (fun h=>by rw [hz,h] at hK;exact hK) fun h=>by rw [hz,h] at hK;exact hK)
 ·obtain ⟨t,ly,pre,n,q,rfl,htm,rfl,⟨rfl,hp1,hl,hd,hz⟩,hK⟩:=h;refine W.cast (htm▸AAb9 _ tm 0) (Zbp _) ?_;exact W.rounds (wrVr2 (Q:=fun e s=>K e s.tm s.hp s.b) t ly pre hp1 hl hd (fun h=>by rw [hz,h] at hK;exact hK) fun h=>by rw [hz,h] at hK;exact hK)
 ·obtain ⟨t,ly,l,n,q,rfl,htm,rfl,⟨hn,hz⟩,hK⟩:=h;refine W.cast (htm▸AAb9 _ tm 0) (Zbp _) ?_;exact W.rounds (wrVr3 (Q:=fun e s=>K e s.tm s.hp s.b) t ly l n hn (fun h=>by rw [hz,h] at hK;exact hK) fun h=>by rw [hz,h] at hK;exact hK)
 ·exact h.elim
def TVr:List (Nat×(List AV→(AV→Prop)→Prop)):= [(70,BQi9)]
theorem CIe9:AAc9 prog TVr:=Zaj BGy9 Zak
abbrev Qz57 (v0:TabT) (v1:LayT) (v2:List Int) (v3:Nat):= [Blk.mk (Qz1 v0) false false 0,Blk.mk (Qz3 v1) false false 0,Blk.mk (cntC v2 v3) false true 0]
abbrev Qz66 (v0:Nat):=Zab::Zab::Zaf 0 0::Zaf 1 0::Zae (bo false)::AV.gref 2 0 v0 1::Zab::Zab::Zae (i64 0)::bds 188 []
abbrev Qz68 (v0:Nat):=Zab::Zab::Zaf 0 0::Zaf 1 0::Zae (bo false)::AV.gref 2 0 v0 1::Zab::Zae (i64 0)::bds 189 []
abbrev Qz72 (v0:Nat):=Zab::Zab::Zaf 0 0::Zaf 1 0::Zae (bo false)::AV.gref 2 0 v0 1::bds 3 (Zae (i64 0)::bds 187 [])
theorem BKh9 (t:TabT) (ly:LayT):wpFn prog ⟨TVr, [],wlVr,y,false⟩ 100 f20 [tabA t,layA ly] b R=(∃(l0:LayT) (z1:Bool), [Zaq (Qz3 ly)]= [Zaq (Qz3 l0)]∧z1=layOk l0∧BIf (!z1) (R (.d (bo false)) b) (BIf (decide (Zad .i64 (((Zaa (rowsU (TabT.us t)):Nat):Int)+((Zaa (rowsG (Zdb t)):Nat):Int))>(24:Int))) (R (.d (bo false)) b) (BIf (decide (((Zaa (rowsA (Zdh t)):Nat):Int)>(24:Int))) (R (.d (bo false)) b) (BIf (decide ((0:Int)≤Zcx ly)&&decide (Zcx ly≤Zcx ly)&&decide ((8:Int)*Zcx ly≤(281474976710656:Int))&&decide (Zcx ly≤(9223372036854775807:Int))&&true&&true&&true) (∃(t2:TabT) (ly3:LayT) (pre4:List Int) (n5:Nat) (q6:Bool),Zat lpVr0=Zat lpVr0∧(Zab::Zab::Zaf 0 0::Zaf 1 0::Zae (bo false)::AV.gref 2 0 (Zam (Zcx ly)) 1::Zae (i64 0)::bds 190 [])=(Zab::Zab::Zaf 0 0::Zaf 1 0::Zae (bo false)::AV.gref 2 0 n5 1::Zae (i64 0)::bds 190 [])∧ [Blk.mk (Qz1 t) false false 0,Blk.mk (Qz3 ly) false false 0,Blk.mk (flatA (List.replicate (Zam (Zcx ly)) [i64 0])) false true 0]=(Qz57 t2 ly3 pre4 n5)∧(n5=Zam (Zcx ly3)∧Zaa pre4≤1000∧Zaa (TabT.us t2)≤9223372036854775807∧((1:Int)≤Zcx ly3∧Zcx ly3≤(60:Int))∧q6=List.any (AAe9 none (TabT.us t2)) (badUr ly3))∧BIf q6 (∀(i:Int) (cs:List AV),R (.d (bo false)) b) (∀(i:Int),∃(t7:TabT) (ly8:LayT) (pre9:List Int) (n10:Nat) (q11:Bool),Zat lpVr1=Zat lpVr1∧(Qz68 n5)=(Qz68 n10)∧ [Blk.mk (Qz1 t2) false false 0,Blk.mk (Qz3 ly3) false false 0,Blk.mk (cntC (pre4++List.map (fun (x12:UseT)=>UseT.sl x12) (TabT.us t2)) n5) false true 0]=(Qz57 t7 ly8 pre9 n10)∧(n10=Zam (Zcx ly8)∧Zaa pre9≤1000∧Zaa (Zdb t7)≤9223372036854775807∧((1:Int)≤Zcx ly8∧Zcx ly8≤(60:Int))∧q11=List.any (AAe9 none (Zdb t7)) (badGr ly8))∧BIf q11 (∀(i:Int) (cs:List AV),R (.d (bo false)) b) (∀(i:Int),∃(t13:TabT) (ly14:LayT) (pre15:List Int) (n16:Nat) (q17:Bool),Zat lpVr2=Zat lpVr2∧(Qz66 n10)=(Qz66 n16)∧ [Blk.mk (Qz1 t7) false false 0,Blk.mk (Qz3 ly8) false false 0,Blk.mk (cntC (pre9++List.map (fun (x18:GraT)=>GraT.sl x18) (Zdb t7)) n10) false true 0]=(Qz57 t13 ly14 pre15 n16)∧(n16=Zam (Zcx ly14)∧Zaa pre15≤1000∧Zaa (Zdh t13)≤9223372036854775807∧((1:Int)≤Zcx ly14∧Zcx ly14≤(60:Int))∧q17=List.any (AAe9 none (Zdh t13)) (badAr ly14))∧BIf q17 (∀(i:Int) (cs:List AV),R (.d (bo false)) b) (∀(i:Int),∃(t19:TabT) (ly20:LayT) (l21:List Int) (n22:Nat) (q23:Bool),Zat lpVr3=Zat lpVr3∧(Qz72 n16)=(Qz72 n22)∧ [Blk.mk (Qz1 t13) false false 0,Blk.mk (Qz3 ly14) false false 0,Blk.mk (cntC (pre15++List.map (fun (x24:AskT)=>AskT.sl x24) (Zdh t13)) n16) false true 0]=(Qz57 t19 ly20 l21 n22)∧(n22<1000∧q23=List.any (cntL l21 n22) fun (c25:Int)=>decide (c25>(1:Int)))∧BIf q23 (∀(i:Int) (cs:List AV),R (.d (bo false)) b) (∀(i:Int),R (.d (bo true)) b))))) False)))):=by kernel_rfl
def AOl9 (t:TabT):List Int:=t.us.map (·.sl)++t.gs.map (·.sl)++t.ak.map (·.sl)
def AKs9 (t:TabT) (ly:LayT):Bool:=layOk ly&&(decide (t.us.length+t.gs.length≤24)&&(decide (t.ak.length≤24)&&(!(AAe9 none t.us).any (badUr ly)&&(!(AAe9 none t.gs).any (badGr ly)&&(!(AAe9 none t.ak).any (badAr ly)&& !(cntL (AOl9 t) ly.da.toNat).any (fun c=>decide (c>1)))))))
def TabMx (t:TabT):Prop:=t.us.length≤9223372036854775807∧t.gs.length≤9223372036854775807∧t.ak.length≤9223372036854775807
theorem BRg9 {α:Type} {ok:α→Bool} {sl:α→Int} {bad:Option α×α→Bool} {da:Int} (hd:da≤60) (hb:∀p,bad p=(!ok p.2||(match p.1 with|some w=>decide (sl w≥sl p.2)|none=>false))) (hs:∀x,ok x=true→0≤sl x∧sl x<da) {l:List α} (h:(AAe9 none l).any bad=false):l.length≤60:=by
 have hc:=(AFy9 hb _ _).1 h;rcases AIp9 (sl:=sl) hd 0 (by omega) hc.2.2 (fun x hx=>by have:=hs x (hc.1 x hx);omega) with h5|h5
 ·omega
 ·subst h5;simp
theorem BSc9 {a b:Int} (h:Zad Zbc (a+b)>24) (h1:0≤a) (h2:0≤b):a+b>24:=by
 simp [Zad,IntKind.bits,IntKind.signed] at h;omega
theorem BTv9 (t:TabT) (ly:LayT) (h:TabMx t):PCall prog 20 [tabA t,layA ly] (.d (bo (AKs9 t ly))):=by
 refine PCall.ofFnW (n:=100) (u:=false) (fun _=>wlVr) mixed CIe9 Zah (fun Ev=>BZq9) func20 (by rfl) (by rfl) fun Ev bb=> ?_;rw [BKh9,AAh9,AAf9,AAn9];obtain ⟨t1,t2,t3⟩:=h;refine ⟨ly,_,rfl,rfl,Zba (fun c1=> ?_) fun c1=>Zba (fun c2=> ?_) fun c2=>Zba (fun c3=> ?_) fun c3=> ?_⟩
 ·rw [AKs9,show layOk ly=false by simpa using c1];rfl
 ·rw [AKs9,show decide (t.us.length+t.gs.length≤24)=false from decide_eq_false (by have:=BSc9 (of_decide_eq_true c2) (by omega) (by omega);omega),Zcj,Zcs]
 ·rw [AKs9,show decide (t.ak.length≤24)=false from decide_eq_false (by have:=of_decide_eq_true c3;omega),Zcj,Zcs,Zcs]
 have d1:layOk ly=true:=by simpa using c1
 have hly:1≤ly.da∧ly.da≤60:=by simp only [layOk,Zai,decide_eq_true_eq] at d1;omega
 have d3:t.ak.length≤24:=by have:=of_decide_eq_false c3;omega
 have e:AKs9 t ly=(decide (t.us.length+t.gs.length≤24)&&(!(AAe9 none t.us).any (badUr ly)&&(!(AAe9 none t.gs).any (badGr ly)&&(!(AAe9 none t.ak).any (badAr ly)&& !(cntL (AOl9 t) ly.da.toNat).any (fun c=>decide (c>1)))))):=by
  rw [AKs9,d1,decide_eq_true d3,Bool.true_and,Bool.true_and]
 rw [e];refine Zaz (by simp only [Bool.and_true,Zai,decide_eq_true_eq];omega) ⟨t,ly, [],ly.da.toNat,_,rfl,rfl, ?_,⟨rfl,by simp,t1,hly,rfl⟩,Zba (fun c4 _ _=> ?_) fun c4 _=> ?_⟩
 ·rw [BWv9]
 ·rw [c4,Bool.not_true,Zcj,Zcs]
 have l1:=BRg9 (ok:=fun x:UseT=>useOk x ly) (sl:=fun x:UseT=>x.sl) hly.2 (fun p=>by obtain ⟨o,x⟩:=p;cases o<;>rfl) (fun x h=>BCr9 h) c4;refine ⟨t,ly,_,ly.da.toNat,_,rfl,rfl,rfl,⟨rfl, ?_,t2,hly,rfl⟩,Zba (fun c5 _ _=> ?_) fun c5 _=> ?_⟩
 ·simp;omega
 ·rw [c4,c5,Bool.not_true,Zcj,Zcs,Zcs]
 have l2:=BRg9 (ok:=fun x:GraT=>graOk x ly) (sl:=fun x:GraT=>x.sl) hly.2 (fun p=>by obtain ⟨o,x⟩:=p;cases o<;>rfl) (fun x h=>BFh9 h) c5;have d2:t.us.length+t.gs.length≤24:=by
  have:=of_decide_eq_false c2;rw [show Zad Zbc ((t.us.length:Int)+(t.gs.length:Int))=(t.us.length:Int)+(t.gs.length:Int) from AAx9 (by omega) (by omega)] at this;omega
 rw [decide_eq_true d2];refine ⟨t,ly,_,ly.da.toNat,_,rfl,rfl,rfl,⟨rfl, ?_,by omega,hly,rfl⟩,Zba (fun c6 _ _=> ?_) fun c6 _=>⟨t,ly,AOl9 t,ly.da.toNat,_,rfl,rfl,rfl,⟨by omega,rfl⟩,Zba (fun c7 _ _=> ?_) fun c7 _=> ?_⟩⟩
 ·simp;omega
 ·rw [c4,c5,c6];rfl
 ·rw [c4,c5,c6,c7];rfl
 ·rw [c4,c5,c6,c7];rfl
def BQc9 (args:List AV) (K:AV→Prop):Prop:=∃(t:TabT) (ly:LayT) (q:Bool),args= [tabA t,layA ly]∧(TabMx t∧q=AKs9 t ly)∧K (.d (bo q))
theorem BGq9:∀args K,BQc9 args K→∃x,PCall prog 20 args x∧K x:=by
 rintro _ K ⟨t,ly,_,rfl,⟨h,rfl⟩,hk⟩;exact ⟨_,BTv9 t ly h,hk⟩
def AEq9 (t:TabT) (ly:LayT):Prop:=layOk ly=true∧(t.us.length+t.gs.length≤24∧t.ak.length≤24)∧((∀x∈t.us,useOk x ly=true)∧t.us.Pairwise (fun a b=>a.sl<b.sl))∧((∀x∈t.gs,graOk x ly=true)∧t.gs.Pairwise (fun a b=>a.sl<b.sl))∧((∀x∈t.ak,askOk x ly=true)∧t.ak.Pairwise (fun a b=>a.sl<b.sl))∧(AOl9 t).Nodup
theorem ASp9 (l:List Int) (k:Int):cntS l k=(l.count k:Nat):=by
 rw [cntS,List.count,List.countP_eq_length_filter]
theorem AOx9 {l:List Int}:l.Nodup↔∀k,cntS l k≤1:=by
 rw [List.nodup_iff_count];constructor
 ·intro h k;rw [ASp9];have:=h k;omega
 ·intro h k;have:=h k;rw [ASp9] at this;omega
theorem BCq9 {t:TabT} {ly:LayT}:AKs9 t ly=true↔AEq9 t ly:=by
 unfold AKs9 AEq9;have w1:=AFy9 (ok:=fun x:UseT=>useOk x ly) (sl:=fun x=>x.sl) (bad:=badUr ly) (fun p=>by obtain ⟨o,x⟩:=p;cases o<;>rfl) t.us none;have w2:=AFy9 (ok:=fun x:GraT=>graOk x ly) (sl:=fun x=>x.sl) (bad:=badGr ly) (fun p=>by obtain ⟨o,x⟩:=p;cases o<;>rfl) t.gs none;have w3:=AFy9 (ok:=fun x:AskT=>askOk x ly) (sl:=fun x=>x.sl) (bad:=badAr ly) (fun p=>by obtain ⟨o,x⟩:=p;cases o<;>rfl) t.ak none;simp only [Zai,decide_eq_true_eq,Zcb,w1,w2,w3];constructor
 ·rintro ⟨h1,h2,h3,⟨u1,_,u2⟩,⟨g1,_,g2⟩,⟨a1,_,a2⟩,h4⟩;refine ⟨h1,⟨h2,h3⟩,⟨u1,u2⟩,⟨g1,g2⟩,⟨a1,a2⟩,AOx9.2 fun k=> ?_⟩;have hin:∀x∈AOl9 t,0≤x∧x<ly.da:=fun x hx=>by
   simp only [AOl9,Zbu,Zbg] at hx;rcases hx with (⟨y,hy,rfl⟩|⟨y,hy,rfl⟩)|⟨y,hy,rfl⟩
   ·exact BCr9 (u1 y hy)
   ·exact BFh9 (g1 y hy)
   ·exact BIu9 (a1 y hy)
  by_cases hk:0≤k∧k<ly.da
  ·rw [Zfh] at h4;have h5:=h4 (cntS (AOl9 t) k) (by
    rw [cntL,Zbg];exact ⟨k.toNat,List.mem_range.2 (by omega),by rw [Int.toNat_of_nonneg hk.1]⟩)
   simpa using h5
  ·have h5:(AOl9 t).filter (fun x=>x==k)= []:=by
    rw [List.filter_eq_nil_iff];intro x hx he;have h6:=hin x hx;have h7:x=k:=by simpa using he
    subst h7;exact hk h6
   rw [cntS,h5];decide
 ·rintro ⟨h1,⟨h2,h3⟩,⟨u1,u2⟩,⟨g1,g2⟩,⟨a1,a2⟩,h4⟩;refine ⟨h1,h2,h3,⟨u1,by simp,u2⟩,⟨g1,by simp,g2⟩,⟨a1,by simp,a2⟩, ?_⟩;rw [Zfh];intro c hc;rw [cntL,Zbg] at hc;obtain ⟨s,_,rfl⟩:=hc;have:=AOx9.1 h4 (s:Int);simpa using this
theorem AWr9 {h:Int×Int} {k:Int}:∀ {l:Cnt},(∀p∈l,p.1≠h.1)→(insC h l).find? (fun p=>p.1==k)=if h.1=k then some h else l.find? (fun p=>p.1==k)
 | [],_=>by
  rw [insC,List.find?_cons];by_cases hk:h.1=k
  ·rw [if_pos hk,show (h.1==k)=true by simpa using hk]
  ·rw [if_neg hk,show (h.1==k)=false by simpa using hk]
 | x::r,hl=>by
  rw [insC];have ih:=AWr9 (h:=h) (k:=k) (l:=r) fun p hp=>hl p (Zbx _ hp);have hx:=hl x (Zbv);split
  ·rw [List.find?_cons];by_cases hk:h.1=k
   ·rw [if_pos hk,show (h.1==k)=true by simpa using hk]
   ·rw [if_neg hk,show (h.1==k)=false by simpa using hk]
  ·rw [List.find?_cons,List.find?_cons,ih];by_cases hk:h.1=k
   ·have:¬x.1=k:=fun e=>hx (e.trans hk.symm);rw [if_pos hk,if_pos hk,show (x.1==k)=false by simpa using this]
   ·rw [if_neg hk,if_neg hk]
theorem BTt9 (x v k:Int) (ts:Cnt):getC k (putC (x,v) ts)=if x=k then v else getC k ts:=by
 unfold getC putC;rw [AWr9 (fun p hp=>by
  have:=(Zdq.1 hp).2;simpa using this),List.find?_filter]
 by_cases hk:x=k
 ·simp [hk]
 ·rw [if_neg hk,if_neg hk];congr 2;congr 1;funext p;by_cases hp:p.1=k
  ·have:¬k=x:=fun e=>hk e.symm;simp [hp,this]
  ·simp [hp]
def CntIs (ts:Cnt) (l:List Int):Prop:=∀k,getC k ts=cntS l k
theorem CntIs.inc {ts:Cnt} {l:List Int} (h:CntIs ts l) (hl:l.length<1000000) (x:Int):CntIs (incC x ts) (l++ [x]):=fun k=>by
 have hb:=BQa9 l x;rw [incC,BTt9,AUq9,h x,h k,AAx9 (by omega) (by omega)];by_cases hk:x=k
 ·subst hk;simp
 ·simp [hk]
theorem ALe9 {α:Type} {ok:α→Bool} {sl:α→Int}:∀ {l:List α} {last:Int} {ts:Cnt},(ABf9 ok sl last l ts).1=true↔(∀x∈l,ok x=true)∧(∀x∈l,last<sl x)∧l.Pairwise (fun a b=>sl a<sl b):=by
 intro l;induction l with
 |nil=>intro last ts;simp [ABf9]
 | cons x r ih=>
  intro last ts;refine ⟨AGa9,fun ⟨h1,h2,h3⟩=> ?_⟩;obtain ⟨h4,h5⟩:=Zds.1 h3;have hx:=h2 x (Zbv);rw [ABf9,if_neg (by rw [h1 x (Zbv)];decide),if_neg (by omega)];exact ih.2 ⟨fun y hy=>h1 y (Zbx _ hy),h4,h5⟩
theorem AIc9 {α:Type} {ok:α→Bool} {sl:α→Int}:∀ {l:List α} {last:Int} {ts:Cnt} {pre:List Int},(ABf9 ok sl last l ts).1=true→CntIs ts pre→pre.length+l.length<1000000→CntIs (ABf9 ok sl last l ts).2 (pre++l.map sl)
 | [],last,ts,pre,_,h,_=>by simpa [ABf9] using h
 | x::r,last,ts,pre,h1,h,hl=>by
  unfold ABf9 at h1 ⊢;split at h1
  ·cases h1
  ·rename_i c1;rw [if_neg c1];split at h1
   ·cases h1
   ·rename_i c2;rw [if_neg c2];have h2:=AIc9 (pre:=pre++ [sl x]) h1 (h.inc (by simp at hl;omega) (sl x)) (by simp at hl ⊢;omega);rw [List.append_assoc] at h2;exact h2
theorem CDc9 {ts:Cnt} {l:List Int} (h:CntIs ts l):okC ts=true↔l.Nodup:=by
 rw [AOx9,okC,Zbd];constructor
 ·intro h1 k;rw [←h k];cases hf:ts.find? (fun p=>p.1==k) with
  |none=>rw [getC,hf];decide
  | some p=>
   have hm:=List.mem_of_find?_eq_some hf;have hk:p.1=k:=by simpa using List.find?_some hf
   have:=h1 p hm;rw [hk] at this;simpa using this
 ·intro h1 p _;have:=h1 p.1;rw [←h p.1] at this;simpa using this
theorem AHo9 {t:TabT} {ly:LayT}:ACq9 t ly=true↔AEq9 t ly:=by
 have key:layOk ly=true→t.us.length+t.gs.length≤24→t.ak.length≤24→((ACc9 ly t.us []).1=true)→((ADa9 ly t.gs (ACc9 ly t.us []).2).1=true)→((AEl9 ly t.ak (ADa9 ly t.gs (ACc9 ly t.us []).2).2).1=true)→
  (okC (AEl9 ly t.ak (ADa9 ly t.gs (ACc9 ly t.us []).2).2).2=true↔(AOl9 t).Nodup):=fun _ h1 h2 a b c=>by
  have c1:=AIc9 (pre:= []) (show (ABf9 _ _ _ _ _).1=true from a) (fun k=>rfl) (by simp;omega);have c2:=AIc9 (show (ABf9 _ _ _ _ _).1=true from b) c1 (by simp;omega);have c3:=AIc9 (show (ABf9 _ _ _ _ _).1=true from c) c2 (by simp;omega);exact CDc9 c3
 have ly':layOk ly=true↔(1≤ly.no∧ly.no≤60)∧(1≤ly.da∧ly.da≤60):=by
  simp only [layOk,Zai,decide_eq_true_eq];omega
 constructor
 ·intro h;have h1:=ACa9 h;have h2:=AKr9 h;have h3:=AHp9 h;have h5:(ACc9 ly t.us []).1=true∧(ADa9 ly t.gs (ACc9 ly t.us []).2).1=true∧(AEl9 ly t.ak (ADa9 ly t.gs (ACc9 ly t.us []).2).2).1=true:=by
   unfold ACq9 at h;split at h<;>try (cases h;done)
   split at h<;>try (cases h;done)
   split at h<;>try (cases h;done)
   split at h<;>try (cases h;done)
   split at h<;>try (cases h;done)
   split at h<;>try (cases h;done)
   split at h<;>try (cases h;done)
   rename_i h1;split at h<;>try (cases h;done)
   rename_i h2;split at h<;>try (cases h;done)
   rename_i h3;simp only [Zcb,Bool.not_eq_false] at h1 h2 h3;exact ⟨h1,h2,h3⟩
  exact ⟨ly'.2 h1,h2,h3.1,h3.2.1,h3.2.2.1,(key (ly'.2 h1) h2.1 h2.2 h5.1 h5.2.1 h5.2.2).1 h3.2.2.2⟩
 ·rintro ⟨h1,⟨h2,h3⟩,⟨u1,u2⟩,⟨g1,g2⟩,⟨a1,a2⟩,h4⟩;obtain ⟨l1,l2⟩:=ly'.1 h1;have s1:(ACc9 ly t.us []).1=true:=ALe9.2 ⟨u1,fun x hx=>by have:=BCr9 (u1 x hx);omega,u2⟩;have s2:(ADa9 ly t.gs (ACc9 ly t.us []).2).1=true:=ALe9.2 ⟨g1,fun x hx=>by have:=BFh9 (g1 x hx);omega,g2⟩;have s3:(AEl9 ly t.ak (ADa9 ly t.gs (ACc9 ly t.us []).2).2).1=true:=ALe9.2 ⟨a1,fun x hx=>by have:=BIu9 (a1 x hx);omega,a2⟩;have s4:=(key h1 h2 h3 s1 s2 s3).2 h4;unfold ACq9;rw [if_neg (by omega),if_neg (by omega),if_neg (by omega),if_neg (by omega),if_neg (by omega),if_neg (by omega),s1,s2,s3,s4];rfl
theorem AVu9 (t:TabT) (ly:LayT):AKs9 t ly=ACq9 t ly:=Bool.eq_iff_iff.2 (BCq9.trans AHo9.symm)
def TRv:List (Nat×(List AV→(AV→Prop)→Prop)):= [(20,BQc9),(69,cNb)]
theorem CIj9:AAc9 prog TRv:=Zaj BGq9 (Zaj CHx9 Zak)
theorem BKu9 (ly:LayT) (t:TabT) (me:Int) (l:List NearT) (fr:Int):wpFn prog ⟨TRv, [],wl,y,false⟩ 100 f19 [layA ly,tabA t, .d (i64 me), .d (.sl 31 (rowsN l)), .d (i64 fr)] b R=(∃(t0:TabT) (ly1:LayT) (q2:Bool), [Zaq (Qz1 t),Zaq (Qz3 ly)]= [Zaq (Qz1 t0),Zaq (Qz3 ly1)]∧(TabMx t0∧q2=AKs9 t0 ly1)∧BIf (!q2) (R (.d (bo false)) b) (BIf (decide (me<(0:Int))) (R (.d (bo false)) b) (BIf (decide (me≥LayT.no ly)) (R (.d (bo false)) b) (BIf (decide (fr<(0:Int))) (R (.d (bo false)) b) (BIf (decide (fr>(999999992:Int))) (R (.d (bo false)) b) (∃(ly3:LayT) (l4:List NearT) (me5:Int) (fr6:Int) (q7:Bool), [Zaq (Qz3 ly),Zae (i64 me),Zae (Zan 31 (rowsN l)),Zae (i64 fr)]= [Zaq (Qz3 ly3),Zae (i64 me5),Zae (Zan 31 (rowsN l4)),Zae (i64 fr6)]∧(Zaa l4≤9223372036854775807∧q7=nbS ly3 l4 me5 fr6)∧R (.d (bo q7)) b)))))):=by kernel_rfl
theorem BTx9 (ly:LayT) (t:TabT) (me:Int) (l:List NearT) (fr:Int) (ht:TabMx t) (hl:l.length≤9223372036854775807):PCall prog 19 [layA ly,tabA t, .d (i64 me), .d (.sl 31 (rowsN l)), .d (i64 fr)] (.d (bo (newS ly t me l fr))):=by
 refine PCall.ofFn (n:=100) (u:=false) mixed CIj9 Zah func19 (by rfl) (by rfl) fun Ev bb=> ?_;rw [BKu9];refine ⟨t,ly,_,rfl,⟨ht,rfl⟩,Zba (fun c1=> ?_) fun c1=> ?_⟩
 ·have h1:ACq9 t ly=false:=by rw [←AVu9];simpa using c1
  rw [newS,h1];rfl
 have h1:ACq9 t ly=true:=by rw [←AVu9];simpa using c1
 have hv:=ACa9 h1;have ew:Zad Zbc (ly.no - 1)=ly.no - 1:=AAx9 (by omega) (by omega);have e:newS ly t me l fr=(inN me (ly.no - 1)&&(inN fr 999999992&&nbS ly l me fr)):=by rw [newS,h1,ew];rfl
 rw [e];refine Zba (fun c2=> ?_) fun c2=>Zba (fun c3=> ?_) fun c3=>Zba (fun c4=> ?_) fun c4=>Zba (fun c5=> ?_) fun c5=>⟨ly,l,me,fr,_,rfl,⟨hl,rfl⟩, ?_⟩
 ·have:=of_decide_eq_true c2;rw [show inN me (ly.no - 1)=false by rw [inN,decide_eq_false (by omega)];rfl];rfl
 ·have:=of_decide_eq_true c3;rw [show inN me (ly.no - 1)=false by rw [inN,decide_eq_false (p:=me≤ly.no - 1) (by omega),Zcs]];rfl
 ·have:=of_decide_eq_true c4;rw [show inN fr 999999992=false by rw [inN,decide_eq_false (by omega)];rfl,Zcj,Zcs]
 ·have:=of_decide_eq_true c5;rw [show inN fr 999999992=false by rw [inN,decide_eq_false (p:=fr≤999999992) (by omega),Zcs],Zcj,Zcs]
 ·have a2:=of_decide_eq_false c2;have a3:=of_decide_eq_false c3;have a4:=of_decide_eq_false c4;have a5:=of_decide_eq_false c5;rw [show inN me (ly.no - 1)=true by rw [inN,decide_eq_true (by omega),decide_eq_true (by omega)];rfl,show inN fr 999999992=true by rw [inN,decide_eq_true (by omega),decide_eq_true (by omega)];rfl];rfl
def BQg9 (args:List AV) (K:AV→Prop):Prop:=∃(ly:LayT) (t:TabT) (me:Int) (l:List NearT) (fr:Int) (q:Bool),args= [layA ly,tabA t, .d (i64 me), .d (.sl 31 (rowsN l)), .d (i64 fr)]∧(TabMx t∧l.length≤9223372036854775807∧q=newS ly t me l fr)∧K (.d (bo q))
theorem BGv9:∀args K,BQg9 args K→∃x,PCall prog 19 args x∧K x:=by
 rintro _ K ⟨ly,t,me,l,fr,_,rfl,⟨ht,hl,rfl⟩,hk⟩;exact ⟨_,BTx9 ly t me l fr ht hl,hk⟩
def h0:TabT:=⟨[], [], []⟩
def hb:TabT:=⟨[], [], [⟨1,4,0⟩,⟨2,4,0⟩]⟩
def ha:TabT:=⟨[], [⟨1,4,1,1,9⟩,⟨2,4,1,1,9⟩], []⟩
def hc:TabT:=⟨[⟨1,4,0,1⟩,⟨2,4,0,1⟩], [], []⟩
def hd:TabT:=⟨[], [⟨1,4,1,1,11⟩,⟨2,4,1,1,11⟩], []⟩
def hl:LayT:=⟨2,4⟩
theorem heB:askS hl h0 1 [toldN 0 h0 0] 0 2 0=hb:=by kernel_rfl
theorem heA:AGf9 hl h0 0 [toldN 1 hb 1] 1=ha:=by kernel_rfl
theorem heC:takeS hl hb 1 [toldN 0 ha 2] 2=hc:=by kernel_rfl
theorem heD:AGf9 hl ha 0 [toldN 1 hc 3] 3=hd:=by kernel_rfl
def CEk9 (args:List AV) (K:AV→Prop):Prop:=∃(t:TabT) (me fr:Int) (q:List NearT),LeVs args [.d (i64 me),tabA t, .d (i64 fr)]∧q= [toldN me t fr]∧K (.d (.sl 31 (rowsN q)))
theorem BNq9:∀args K,CEk9 args K→∃x,PCall prog 32 args x∧K x:=by
 rintro args K ⟨t,me,fr,_,hl,rfl,hk⟩;obtain ⟨x,hx,hk⟩:=BXe9 _ _ ⟨t,me,fr,_,rfl,rfl,hk⟩;exact ⟨x,hx.leArgsV hl,hk⟩
def cAskV (args:List AV) (K:AV→Prop):Prop:=∃(ly:LayT) (t q:TabT) (me:Int) (l:List NearT) (pe many fr:Int),LeVs args [layA ly,tabA t, .d (i64 me), .d (.sl 31 (rowsN l)), .d (i64 pe), .d (i64 many), .d (i64 fr)]∧(TabOk t∧l.length<1000000∧(∀x∈l,AJr9 x)∧q=askS ly t me l pe many fr)∧K (tabA q)
theorem BXv9:∀args K,cAskV args K→∃x,PCall prog 12 args x∧K x:=by
 rintro args K ⟨ly,t,q,me,l,pe,many,fr,hl,h,hk⟩;obtain ⟨x,hx,hk⟩:=BRf9 _ _ ⟨ly,t,q,me,l,pe,many,fr,rfl,h,hk⟩;exact ⟨x,hx.leArgsV hl,hk⟩
def BQo9 (args:List AV) (K:AV→Prop):Prop:=∃(ly:LayT) (t q:TabT) (me:Int) (l:List NearT) (fr:Int),LeVs args [layA ly,tabA t, .d (i64 me), .d (.sl 31 (rowsN l)), .d (i64 fr)]∧(TabOk t∧l.length<1000000∧(∀x∈l,ACf9 x)∧q=AGf9 ly t me l fr)∧K (tabA q)
theorem BHp9:∀args K,BQo9 args K→∃x,PCall prog 13 args x∧K x:=by
 rintro args K ⟨ly,t,q,me,l,fr,hl,h,hk⟩;obtain ⟨x,hx,hk⟩:=AXn9 _ _ ⟨ly,t,q,me,l,fr,rfl,h,hk⟩;exact ⟨x,hx.leArgsV hl,hk⟩
def CEm9 (args:List AV) (K:AV→Prop):Prop:=∃(ly:LayT) (t q:TabT) (me:Int) (l:List NearT) (fr:Int),LeVs args [layA ly,tabA t, .d (i64 me), .d (.sl 31 (rowsN l)), .d (i64 fr)]∧(TabOk t∧l.length<1000000∧(∀x∈l,ACf9 x)∧q=takeS ly t me l fr)∧K (tabA q)
theorem BNt9:∀args K,CEm9 args K→∃x,PCall prog 14 args x∧K x:=by
 rintro args K ⟨ly,t,q,me,l,fr,hl,h,hk⟩;obtain ⟨x,hx,hk⟩:=BXh9 _ _ ⟨ly,t,q,me,l,fr,rfl,h,hk⟩;exact ⟨x,hx.leArgsV hl,hk⟩
def CEo9 (args:List AV) (K:AV→Prop):Prop:=∃(t s:TabT) (q:Bool),LeVs args [tabA t,tabA s]∧(TabLq t∧q=sameS t s)∧K (.d (bo q))
theorem BNv9:∀args K,CEo9 args K→∃x,PCall prog 15 args x∧K x:=by
 rintro args K ⟨t,s,q,hl,h,hk⟩;obtain ⟨x,hx,hk⟩:=BXi9 _ _ ⟨t,s,q,rfl,h,hk⟩;exact ⟨x,hx.leArgsV hl,hk⟩
def THd:List (Nat×(List AV→(AV→Prop)→Prop)):= [(12,cAskV),(13,BQo9),(14,CEm9),(15,CEo9),(32,CEk9)]
theorem CIw9:AAc9 prog THd:=Zaj BXv9 (Zaj BHp9 (Zaj BNt9 (Zaj BNv9 (Zaj BNq9 Zak))))
abbrev Qz33 (v0:TabT) (v1:List NearT):List AV:= [Zaq [Zae (i64 2),Zae (i64 4)],Zaq (Qz1 v0),Zae (i64 1),Zae (Zan 31 (rowsN v1)),Zae (i64 10)]
abbrev Qz48 (v0:Int) (v1:TabT) (v2:Int):List AV:= [Zae (i64 v0),Zaq (Qz1 v1),Zae (i64 v2)]
abbrev Qz56 (v0:TabT):List AV:= [Zae (i64 0),Zaq (Qz1 v0),Zae (i64 9)]
theorem CDm9:wpFn prog ⟨THd, [],wl,y,false⟩ 100 f10 [] b R=(∃(t0:TabT) (me1:Int) (fr2:Int) (q3:List NearT),LeVs [Zae (i64 0),Zaq Qz4,Zae (i64 0)] (Qz48 me1 t0 fr2)∧q3= [toldN me1 t0 fr2]∧∃(ly4:LayT) (t5:TabT) (q6:TabT) (me7:Int) (l8:List NearT) (pe9:Int) (many10:Int) (fr11:Int),LeVs [Zaq [Zae (i64 2),Zae (i64 4)],Zaq Qz4,Zae (i64 1),Zae (Zan 31 (rowsN q3)),Zae (i64 0),Zae (i64 2),Zae (i64 0)] [Zaq (Qz3 ly4),Zaq (Qz1 t5),Zae (i64 me7),Zae (Zan 31 (rowsN l8)),Zae (i64 pe9),Zae (i64 many10),Zae (i64 fr11)]∧(TabOk t5∧Zaa l8<1000000∧(∀(x:NearT),x∈l8→AJr9 x)∧q6=askS ly4 t5 me7 l8 pe9 many10 fr11)∧∃(t12:TabT) (me13:Int) (fr14:Int) (q15:List NearT),LeVs [Zae (i64 1),Zaq (Qz1 q6),Zae (i64 1)] (Qz48 me13 t12 fr14)∧q15= [toldN me13 t12 fr14]∧∃(ly16:LayT) (t17:TabT) (q18:TabT) (me19:Int) (l20:List NearT) (fr21:Int),LeVs [Zaq [Zae (i64 2),Zae (i64 4)],Zaq Qz4,Zae (i64 0),Zae (Zan 31 (rowsN q15)),Zae (i64 1)] (Qz16 ly16 t17 me19 l20 fr21)∧(TabOk t17∧Zaa l20<1000000∧(∀(x:NearT),x∈l20→ACf9 x)∧q18=AGf9 ly16 t17 me19 l20 fr21)∧∃(t22:TabT) (me23:Int) (fr24:Int) (q25:List NearT),LeVs [Zae (i64 0),Zaq (Qz1 q18),Zae (i64 2)] (Qz48 me23 t22 fr24)∧q25= [toldN me23 t22 fr24]∧∃(ly26:LayT) (t27:TabT) (q28:TabT) (me29:Int) (l30:List NearT) (fr31:Int),LeVs [Zaq [Zae (i64 2),Zae (i64 4)],Zaq (Qz1 q6),Zae (i64 1),Zae (Zan 31 (rowsN q25)),Zae (i64 2)] (Qz16 ly26 t27 me29 l30 fr31)∧(TabOk t27∧Zaa l30<1000000∧(∀(x:NearT),x∈l30→ACf9 x)∧q28=takeS ly26 t27 me29 l30 fr31)∧∃(t32:TabT) (me33:Int) (fr34:Int) (q35:List NearT),LeVs [Zae (i64 1),Zaq (Qz1 q28),Zae (i64 3)] (Qz48 me33 t32 fr34)∧q35= [toldN me33 t32 fr34]∧∃(ly36:LayT) (t37:TabT) (q38:TabT) (me39:Int) (l40:List NearT) (fr41:Int),LeVs [Zaq [Zae (i64 2),Zae (i64 4)],Zaq (Qz1 q18),Zae (i64 0),Zae (Zan 31 (rowsN q35)),Zae (i64 3)] (Qz16 ly36 t37 me39 l40 fr41)∧(TabOk t37∧Zaa l40<1000000∧(∀(x:NearT),x∈l40→ACf9 x)∧q38=AGf9 ly36 t37 me39 l40 fr41)∧∃(t42:TabT) (s43:TabT) (q44:Bool),LeVs [Zaq (Qz1 q6),Zaq [Zae (Dv.s (.slice none 0 0)),Zae (Dv.s (.slice none 0 0)),AV.full 3 [[i64 1,i64 4,i64 0], [i64 2,i64 4,i64 0]]]] [Zaq (Qz1 t42),Zaq (Qz1 s43)]∧(TabLt t42∧q44=sameS t42 s43)∧BIf q44 (∃(t45:TabT) (s46:TabT) (q47:Bool),LeVs [Zaq (Qz1 q18),Zaq [Zae (Dv.s (.slice none 0 0)),AV.full 5 [[i64 1,i64 4,i64 1,i64 1,i64 9], [i64 2,i64 4,i64 1,i64 1,i64 9]],Zae (Dv.s (.slice none 0 0))]] [Zaq (Qz1 t45),Zaq (Qz1 s46)]∧(TabLt t45∧q47=sameS t45 s46)∧BIf q47 (∃(t48:TabT) (s49:TabT) (q50:Bool),LeVs [Zaq (Qz1 q28),Zaq [AV.full 4 [[i64 1,i64 4,i64 0,i64 1], [i64 2,i64 4,i64 0,i64 1]],Zae (Dv.s (.slice none 0 0)),Zae (Dv.s (.slice none 0 0))]] [Zaq (Qz1 t48),Zaq (Qz1 s49)]∧(TabLt t48∧q50=sameS t48 s49)∧BIf q50 (BIf (((Zaa (rowsG (Zdb q38)):Nat):Int)==(2:Int)) (∃(x51:Int) (x52:Int) (x53:Int) (x54:Int) (x55:Int),(rowsG (Zdb q38))[0]? =some (Qz41 x51 x52 x53 x54 x55)∧BIf (x55==(11:Int)) (∃(x58:Int) (x59:Int) (x60:Int) (x61:Int) (x62:Int),(rowsG (Zdb q38))[0]? =some (Qz41 x58 x59 x60 x61 x62)∧∃(t65:TabT) (me66:Int) (fr67:Int) (q68:List NearT),LeVs (Qz56 q18) (Qz48 me66 t65 fr67)∧q68= [toldN me66 t65 fr67]∧∃(ly69:LayT) (t70:TabT) (q71:TabT) (me72:Int) (l73:List NearT) (fr74:Int),LeVs (Qz33 q28 q68) (Qz16 ly69 t70 me72 l73 fr74)∧(TabOk t70∧Zaa l73<1000000∧(∀(x:NearT),x∈l73→ACf9 x)∧q71=takeS ly69 t70 me72 l73 fr74)∧BIf (x61==(1:Int)) (BIf (((Zaa (rowsU (TabT.us q71)):Nat):Int)==(0:Int)) (∃(ly75:LayT) (t76:TabT) (q77:TabT) (me78:Int) (l79:List NearT) (pe80:Int) (many81:Int) (fr82:Int),LeVs [Zaq [Zae (i64 2),Zae (i64 4)],Zaq (Qz1 q6),Zae (i64 1),Zae (Dv.s (.slice none 0 0)),Zae (i64 0),Zae (i64 2),Zae (i64 0)] [Zaq (Qz3 ly75),Zaq (Qz1 t76),Zae (i64 me78),Zae (Zan 31 (rowsN l79)),Zae (i64 pe80),Zae (i64 many81),Zae (i64 fr82)]∧(TabOk t76∧Zaa l79<1000000∧(∀(x:NearT),x∈l79→AJr9 x)∧q77=askS ly75 t76 me78 l79 pe80 many81 fr82)∧R (.d (bo (((Zaa (rowsA (Zdh q77)):Nat):Int)==(0:Int)))) b) (R (.d (bo false)) b)) (R (.d (bo false)) b)) (∃(t83:TabT) (me84:Int) (fr85:Int) (q86:List NearT),LeVs (Qz56 q18) (Qz48 me84 t83 fr85)∧q86= [toldN me84 t83 fr85]∧∃(ly87:LayT) (t88:TabT) (q89:TabT) (me90:Int) (l91:List NearT) (fr92:Int),LeVs (Qz33 q28 q86) (Qz16 ly87 t88 me90 l91 fr92)∧(TabOk t88∧Zaa l91<1000000∧(∀(x:NearT),x∈l91→ACf9 x)∧q89=takeS ly87 t88 me90 l91 fr92)∧R (.d (bo false)) b)) (∃(t93:TabT) (me94:Int) (fr95:Int) (q96:List NearT),LeVs (Qz56 q18) (Qz48 me94 t93 fr95)∧q96= [toldN me94 t93 fr95]∧∃(ly97:LayT) (t98:TabT) (q99:TabT) (me100:Int) (l101:List NearT) (fr102:Int),LeVs (Qz33 q28 q96) (Qz16 ly97 t98 me100 l101 fr102)∧(TabOk t98∧Zaa l101<1000000∧(∀(x:NearT),x∈l101→ACf9 x)∧q99=takeS ly97 t98 me100 l101 fr102)∧R (.d (bo false)) b)) (∃(t103:TabT) (me104:Int) (fr105:Int) (q106:List NearT),LeVs (Qz56 q18) (Qz48 me104 t103 fr105)∧q106= [toldN me104 t103 fr105]∧∃(ly107:LayT) (t108:TabT) (q109:TabT) (me110:Int) (l111:List NearT) (fr112:Int),LeVs (Qz33 q28 q106) (Qz16 ly107 t108 me110 l111 fr112)∧(TabOk t108∧Zaa l111<1000000∧(∀(x:NearT),x∈l111→ACf9 x)∧q109=takeS ly107 t108 me110 l111 fr112)∧R (.d (bo false)) b)) (∃(t113:TabT) (me114:Int) (fr115:Int) (q116:List NearT),LeVs (Qz56 q18) (Qz48 me114 t113 fr115)∧q116= [toldN me114 t113 fr115]∧∃(ly117:LayT) (t118:TabT) (q119:TabT) (me120:Int) (l121:List NearT) (fr122:Int),LeVs (Qz33 q28 q116) (Qz16 ly117 t118 me120 l121 fr122)∧(TabOk t118∧Zaa l121<1000000∧(∀(x:NearT),x∈l121→ACf9 x)∧q119=takeS ly117 t118 me120 l121 fr122)∧R (.d (bo false)) b)) (∃(t123:TabT) (me124:Int) (fr125:Int) (q126:List NearT),LeVs (Qz56 q18) (Qz48 me124 t123 fr125)∧q126= [toldN me124 t123 fr125]∧∃(ly127:LayT) (t128:TabT) (q129:TabT) (me130:Int) (l131:List NearT) (fr132:Int),LeVs (Qz33 q28 q126) (Qz16 ly127 t128 me130 l131 fr132)∧(TabOk t128∧Zaa l131<1000000∧(∀(x:NearT),x∈l131→ACf9 x)∧q129=takeS ly127 t128 me130 l131 fr132)∧R (.d (bo false)) b)):=by kernel_rfl
theorem lv0:LeV (.agg [.d (.s (.slice none 0 0)), .d (.s (.slice none 0 0)), .d (.s (.slice none 0 0))]) (tabA h0):=LeV.aggs (.cons (.nil rfl) (.cons (.nil rfl) (.cons (.nil rfl) .nil)))
theorem okH {t:TabT} (h1:t.us.length<10) (h2:t.gs.length<10) (h3:t.ak.length<10):TabOk t:=⟨by omega,by omega,by omega⟩
theorem lqH {t:TabT} (h1:t.us.length<10) (h2:t.gs.length<10) (h3:t.ak.length<10):TabLq t:=⟨by omega,by omega,by omega⟩
theorem nearH {t:TabT} (h1:t.us.length<10) (h2:t.gs.length<10) (h3:t.ak.length<10) (me fr:Int):∀x∈ [toldN me t fr],ACf9 x:=fun x hx=>by
 rw [List.mem_singleton] at hx;subst hx;exact ⟨by simp only [toldN];omega,by simp only [toldN];omega,by simp only [toldN];omega⟩
theorem CHn9 {t:TabT} (h1:t.us.length<10) (h2:t.gs.length<10) (h3:t.ak.length<10) (me fr:Int):∀x∈ [toldN me t fr],AJr9 x:=fun x hx=>by
 rw [List.mem_singleton] at hx;subst hx;exact ⟨by simp only [toldN];omega,by simp only [toldN];omega,by simp only [toldN];omega⟩
theorem heE2:takeS hl hc 1 [toldN 0 ha 9] 10=h0:=by kernel_rfl
theorem heF2:askS hl hb 1 [] 0 2 0=h0:=by kernel_rfl
theorem CHg9:PCall prog 10 [] (.d (bo true)):=by
 refine PCall.ofFn (n:=100) (u:=false) mixed CIw9 Zah func10 (by rfl) (by rfl) fun Ev bb=> ?_;rw [CDm9];refine ⟨h0,0,0, [toldN 0 h0 0], .cons .rfl (.cons lv0 (.cons .rfl .nil)),rfl, ?_⟩;refine ⟨hl,h0,hb,1, [toldN 0 h0 0],0,2,0, .cons .rfl (.cons lv0 (Zfl _)),⟨okH (by decide) (by decide) (by decide),by decide,CHn9 (by decide) (by decide) (by decide) _ _,heB.symm⟩, ?_⟩;refine ⟨hb,1,1, [toldN 1 hb 1],Zfl _,rfl, ?_⟩;refine ⟨hl,h0,ha,0, [toldN 1 hb 1],1, .cons .rfl (.cons lv0 (Zfl _)),⟨okH (by decide) (by decide) (by decide),by decide,nearH (by decide) (by decide) (by decide) _ _,heA.symm⟩, ?_⟩;refine ⟨ha,0,2, [toldN 0 ha 2],Zfl _,rfl, ?_⟩;refine ⟨hl,hb,hc,1, [toldN 0 ha 2],2,Zfl _,⟨okH (by decide) (by decide) (by decide),by decide,nearH (by decide) (by decide) (by decide) _ _,heC.symm⟩, ?_⟩;refine ⟨hc,1,3, [toldN 1 hc 3],Zfl _,rfl, ?_⟩;refine ⟨hl,ha,hd,0, [toldN 1 hc 3],3,Zfl _,⟨okH (by decide) (by decide) (by decide),by decide,nearH (by decide) (by decide) (by decide) _ _,heD.symm⟩, ?_⟩;refine ⟨hb,hb,true, .cons .rfl (.cons (LeV.aggs (.cons (.nil rfl) (.cons (.nil rfl) (.cons .full .nil)))) .nil),⟨lqH (by decide) (by decide) (by decide),(ALk9 hb).symm⟩,Zaz rfl ?_⟩;refine ⟨ha,ha,true, .cons .rfl (.cons (LeV.aggs (.cons (.nil rfl) (.cons .full (.cons (.nil rfl) .nil)))) .nil),⟨lqH (by decide) (by decide) (by decide),(ALk9 ha).symm⟩,Zaz rfl ?_⟩;refine ⟨hc,hc,true, .cons .rfl (.cons (LeV.aggs (.cons .full (.cons (.nil rfl) (.cons (.nil rfl) .nil)))) .nil),⟨lqH (by decide) (by decide) (by decide),(ALk9 hc).symm⟩,Zaz rfl ?_⟩;refine Zaz (by decide) ⟨1,4,1,1,11,rfl,Zaz (by decide) ⟨1,4,1,1,11,rfl, ?_⟩⟩;refine ⟨ha,0,9, [toldN 0 ha 9],Zfl _,rfl, ?_⟩;refine ⟨hl,hc,h0,1, [toldN 0 ha 9],10,Zfl _,⟨okH (by decide) (by decide) (by decide),by decide,nearH (by decide) (by decide) (by decide) _ _,heE2.symm⟩,Zaz (by decide) (Zaz rfl ?_)⟩;exact ⟨hl,hb,h0,1, [],0,2,0, .cons .rfl (.cons .rfl (.cons .rfl (.cons (.nil rfl) (Zfl _)))),⟨okH (by decide) (by decide) (by decide),by decide,by simp,heF2.symm⟩,rfl⟩
def cHead (args:List AV) (K:AV→Prop):Prop:=args= []∧K (.d (bo true))
theorem BXq9:∀args K,cHead args K→∃x,PCall prog 10 args x∧K x:=by
 rintro _ K ⟨rfl,hk⟩;exact ⟨_,CHg9,hk⟩
theorem AKg9 {α:Type} (p:α→Bool) (g:α):∀l:List α,(insP p g l).Perm (g::l)
 | []=> .refl _
 | x::r=>by
  rw [insP];split
  ·exact .refl _
  ·exact ((AKg9 p g r).cons x).trans (List.Perm.swap g x r)
theorem ANt9 {α:Type} {sl:α→Int} {g:α}:∀ {l:List α},l.Pairwise (fun a b=>sl a<sl b)→(∀x∈l,sl x≠sl g)→(insP (fun x=>decide (sl x>sl g)) g l).Pairwise (fun a b=>sl a<sl b)
 | [],_,_=>List.pairwise_singleton _ _
 | x::r,h,hn=>by
  obtain ⟨h1,h2⟩:=Zds.1 h;have hx:=hn x (Zbv);rw [insP];split
  ·rename_i c;have c':=of_decide_eq_true c;refine Zds.2 ⟨fun y hy=> ?_,h⟩;rcases Zbw.1 hy with rfl|hy
   ·exact c'
   ·have:=h1 y hy;omega
  ·rename_i c;have c':¬sl x>sl g:=fun e=>c (decide_eq_true e);refine Zds.2 ⟨fun y hy=> ?_,ANt9 h2 fun y hy=>hn y (Zbx _ hy)⟩;rcases Zbw.1 ((AKg9 _ g r).mem_iff.1 hy) with rfl|hy
   ·omega
   ·exact h1 y hy
theorem AXv9 {t:TabT} {s:Int} (h:busyT t s=false):(∀x∈t.us,x.sl≠s)∧∀x∈t.gs,x.sl≠s:=by
 rw [busyT,Zeo,Zfh,Zfh] at h;exact ⟨fun x hx e=>h.1 x hx (by simpa using e),fun x hx e=>h.2 x hx (by simpa using e)⟩
theorem AYs9 (t:TabT) (s:Int):((AJu9 t s).map (·.sl))=(t.ak.map (·.sl)).filter (fun x=> !(x==s)):=by
 rw [AJu9,List.filter_map];rfl
theorem BKp9 {u g a:List Int} {s:Int} (h:(u++g++a).Nodup) (hu:s∉u) (hg:s∉g):(s::(u++g++a.filter fun x=> !(x==s))).Nodup:=by
 refine List.nodup_cons.2 ⟨fun hm=> ?_, ?_⟩
 ·rw [Zbu,Zbu] at hm;rcases hm with (hm|hm)|hm
  ·exact hu hm
  ·exact hg hm
  ·have:=(Zdq.1 hm).2;simp at this
 ·exact h.sublist (List.Sublist.append (List.Sublist.refl _) List.filter_sublist)
theorem AEq9.addG {t:TabT} {ly:LayT} {g:GraT} (h:AEq9 t ly) (hg:graOk g ly=true) (hb:busyT t g.sl=false) (hn:t.us.length+t.gs.length<24):AEq9 ⟨t.us,insSG g t.gs,AJu9 t g.sl⟩ ly:=by
 obtain ⟨h1,⟨h2,h3⟩,h4,⟨g1,g2⟩,⟨a1,a2⟩,h5⟩:=h;obtain ⟨b1,b2⟩:=AXv9 hb;have hp:=AKg9 (fun x:GraT=>decide (x.sl>g.sl)) g t.gs;refine ⟨h1,⟨?_, ?_⟩,h4,⟨fun x hx=> ?_,ANt9 (sl:=fun x:GraT=>x.sl) g2 b2⟩,⟨fun x hx=>a1 x (Zdq.1 hx).1,a2.sublist List.filter_sublist⟩, ?_⟩
 ·have:=hp.length_eq;simp only [List.length_cons] at this;show t.us.length+(insP _ g t.gs).length≤24;omega
 ·exact Nat.le_trans (List.length_filter_le _ _) h3
 ·rcases Zbw.1 (hp.mem_iff.1 hx) with rfl|hx
  ·exact hg
  ·exact g1 x hx
 ·have h6:=BKp9 (s:=g.sl) h5 (fun hm=>by obtain ⟨x,hx,he⟩:=Zbg.1 hm;exact b1 x hx he) (fun hm=>by obtain ⟨x,hx,he⟩:=Zbg.1 hm;exact b2 x hx he);refine List.Perm.nodup (List.Perm.symm ?_) h6;show (t.us.map (·.sl)++(insP _ g t.gs).map (·.sl)++(AJu9 t g.sl).map (·.sl)).Perm _;rw [AYs9];have h7:((insP (fun x:GraT=>decide (x.sl>g.sl)) g t.gs).map (·.sl)).Perm (g.sl::t.gs.map (·.sl)):=hp.map _;refine ((List.Perm.append_left _ h7).append_right _).trans ?_;rw [List.append_assoc,List.append_assoc];exact List.perm_middle
theorem BBa9 {t:TabT} {ly:LayT} {g:GraT} (h:refEG t ly g=0):AEq9 (addSG t ly g) ly:=by
 obtain ⟨h1,h2,h3,h4⟩:=AKd9 h;rw [addSG,if_pos h];exact (AHo9.1 h1).addG h2 h3 h4
theorem APk9 {α β:Type} {P:β→Prop} {f:β→α→β} (hf:∀b a,P b→P (f b a)):∀(l:List α) {b:β},P b→P (l.foldl f b)
 | [],b,h=>h
 |x::r,b,h=>APk9 hf r (hf b x h)
theorem APg9 {s:SideT} {ly:LayT} {me fr:Int} {n:NearT} (t:TabT) (a:AskT) (h:AEq9 t ly):AEq9 (AAr9 s ly me fr n t a) ly:=by
 unfold AAr9;split
 ·exact h
 ·split
  ·rename_i h1;exact BBa9 h1
  ·exact h
theorem APh9 {s:SideT} {ly:LayT} {me fr:Int} {t:TabT} (h:AEq9 t ly):AEq9 (AJe9 s ly me fr t) ly:=
 APk9 (P:=fun t=>AEq9 t ly) (fun t n h=>by
  unfold AFw9;split
  ·exact APk9 (P:=fun t=>AEq9 t ly) (fun t a h=>APg9 t a h) _ h
  ·exact h) _ h
def LayIn (ly:LayT):Prop:=(1≤ly.no∧ly.no≤60)∧(1≤ly.da∧ly.da≤60)
theorem APq9 {ly:LayT} (h:LayIn ly) (sl of pe:Int):ABw9 sl of pe ly=ABe9 sl of pe ly:=by
 obtain ⟨h1,h2⟩:=h;rw [ABw9,AAx9 (by omega) (by omega),AAx9 (by omega) (by omega),Bool.eq_iff_iff];simp only [inN,ABe9,Zai,decide_eq_true_eq];omega
theorem BSw9 {ly:LayT} (h:LayIn ly) (x:UseT):useIs x ly=useOk x ly:=by
 rw [useIs,useOk,APq9 h];rfl
theorem BVy9 {ly:LayT} (h:LayIn ly) (x:GraT):graIs x ly=graOk x ly:=by
 rw [graIs,graOk,APq9 h,Bool.eq_iff_iff];simp only [inN,Zai,decide_eq_true_eq];constructor
 ·rintro ⟨h1,h2,⟨h3,h4⟩,h5⟩;exact ⟨h1,h2,h4,h5⟩
 ·rintro ⟨h1,h2,h4,h5⟩;exact ⟨h1,h2,⟨h2,h4⟩,h5⟩
theorem CDs9 {ly:LayT} (h:LayIn ly) (n:NearT):(filN ly n).us=n.us.filter fun x=>useOk x ly:=by
 show n.us.filter _=_;simp only [BSw9 h]
theorem CDt9 {ly:LayT} (h:LayIn ly) (n:NearT):(filN ly n).gs=n.gs.filter fun x=>graOk x ly:=by
 show n.gs.filter _=_;simp only [BVy9 h]
theorem CHt9 {ly:LayT} (h:LayIn ly) (n:NearT):(filN ly n).ak=n.ak.filter fun x=>ABe9 x.sl x.of x.pe ly:=by
 show n.ak.filter _=_;simp only [APq9 h]
theorem BVl9 {fr:Int} (h:0≤fr∧fr≤999999992) (g:GraT):BEt9 fr g=⟨g.sl,g.of,g.pe,g.st,if fr+8>g.un then fr+8 else g.un⟩:=by
 rw [BEt9,AAx9 (by omega) (by omega)]
theorem BTp9 {s:SideT} {ly:LayT} {fr:Int} (h:0≤fr∧fr≤999999992) {g:GraT} (hg:graOk g ly=true):graOk (AEm9 s fr g) ly=true:=by
 unfold AEm9;split
 ·rw [BVl9 h];simp only [graOk,Zai,decide_eq_true_eq] at hg ⊢;refine ⟨hg.1,hg.2.1, ?_, ?_⟩<;>split<;>omega
 ·exact hg
theorem AOs9 (s:SideT) (fr:Int) (g:GraT):(AEm9 s fr g).sl=g.sl∧(AEm9 s fr g).of=g.of∧(AEm9 s fr g).pe=g.pe∧(AEm9 s fr g).st=g.st:=by
 unfold AEm9;split<;>exact ⟨rfl,rfl,rfl,rfl⟩
theorem AEq9.expired {t:TabT} {ly:LayT} {s:SideT} {fr:Int} (h:AEq9 t ly) (hf:0≤fr∧fr≤999999992):AEq9 ⟨t.us,(AEc9 t fr).gs.map (AEm9 s fr),t.ak⟩ ly:=by
 obtain ⟨h1,⟨h2,h3⟩,h4,⟨g1,g2⟩,h5,h6⟩:=h;have hsub:(AEc9 t fr).gs.Sublist t.gs:=List.filter_sublist;refine ⟨h1,⟨?_,h3⟩,h4,⟨fun x hx=> ?_, ?_⟩,h5, ?_⟩
 ·have:=hsub.length_le;simp only [List.length_map];omega
 ·obtain ⟨y,hy,rfl⟩:=Zbg.1 hx;exact BTp9 hf (g1 y (hsub.subset hy))
 ·rw [List.pairwise_map];refine (g2.sublist hsub).imp fun {a b} hab=> ?_;rw [(AOs9 s fr a).1,(AOs9 s fr b).1];exact hab
 ·show (t.us.map (·.sl)++((AEc9 t fr).gs.map (AEm9 s fr)).map (·.sl)++t.ak.map (·.sl)).Nodup;have e:((AEc9 t fr).gs.map (AEm9 s fr)).map (·.sl)=(AEc9 t fr).gs.map (·.sl):=by
   rw [List.map_map];exact List.map_congr_left fun x _=>(AOs9 s fr x).1
  rw [e];exact h6.sublist (List.Sublist.append (List.Sublist.append (List.Sublist.refl _) (hsub.map _)) (List.Sublist.refl _))
theorem AUh9 {ly:LayT} {t:TabT} {me:Int} {l:List NearT} {fr:Int} (h:newS ly t me l fr=true):AEq9 (AGf9 ly t me l fr) ly:=by
 rw [AGf9,if_pos h];exact APh9 ((AHo9.1 (AEa9 h)).expired (AWo9 h).2)
theorem AQs9 {z:List AskT} (h0:∀a∈z,0≤a.sl):∀n:Nat,(sortA z n).Perm (z.filter fun x=>decide (x.sl<(n:Int)))
 | 0=>by
  have e:(z.filter fun x=>decide (x.sl<((0:Nat):Int)))= []:=by
   rw [List.filter_eq_nil_iff];intro x hx;have:=h0 x hx;simp;omega
  rw [e];exact .refl _
 | n+1=>by
  rw [sortA];refine ((AQs9 h0 n).append_right _).trans ?_;have e:∀l:List AskT,(l.filter (fun x=>decide (x.sl<(n:Int)))++l.filter (fun x=>x.sl==((n:Nat):Int))).Perm (l.filter fun x=>decide (x.sl<((n+1:Nat):Int))):=by
   intro l;induction l with
   |nil=>exact .refl _
   | cons a l ih=>
    simp only [List.filter_cons];by_cases c1:a.sl<(n:Int)
    ·have c2:a.sl<((n+1:Nat):Int):=by omega
     have c3:¬a.sl=(n:Int):=by omega
     simp only [c1,c2,decide_true,if_true,beq_iff_eq,c3,if_false,List.cons_append];exact ih.cons a
    ·by_cases c3:a.sl=(n:Int)
     ·have c2:a.sl<((n+1:Nat):Int):=by omega
      rw [if_neg (by simpa using c1),if_pos (by simpa using c3),if_pos (by simpa using c2)];exact List.perm_middle.trans (ih.cons a)
     ·have c2:¬a.sl<((n+1:Nat):Int):=by omega
      simp only [c1,c2,decide_false,Bool.false_eq_true,if_false,beq_iff_eq,c3];exact ih
  exact e z
theorem AYv9 {z:List AskT} {da:Int} (h:AJi9 da z):(sortA z da.toNat).Perm z:=by
 have h1:=AQs9 (fun a ha=>(h.1 a ha).1) da.toNat;rw [List.filter_eq_self.2 (fun a ha=>decide_eq_true (by have:=h.1 a ha;omega))] at h1;exact h1
theorem CGq9 {α:Type} {R:α→α→Prop}:∀ {l:List α},l.length≤1→l.Pairwise R
 | [],_=>List.Pairwise.nil
 | [x],_=>List.pairwise_singleton _ _
 |_::_::_,h=>absurd h (by simp)
theorem ALf9 {z:List AskT} (hd:z.Pairwise (fun a b=>a.sl≠b.sl)):∀n:Nat,(sortA z n).Pairwise (fun a b=>a.sl<b.sl)∧∀a∈sortA z n,a.sl<(n:Int)
 |0=>⟨List.Pairwise.nil,fun a ha=>by cases ha⟩
 | n+1=>by
  obtain ⟨h1,h2⟩:=ALf9 hd n;have h3:∀a∈z.filter (fun x=>x.sl==((n:Nat):Int)),a.sl=(n:Int):=fun a ha=>by
   have:=(Zdq.1 ha).2;simpa using this
  refine ⟨?_,fun a ha=> ?_⟩
  ·rw [sortA,List.pairwise_append];refine ⟨h1, ?_,fun a ha b hb=>by have:=h2 a ha;have:=h3 b hb;omega⟩;have h4:=AGi9 (n:Int) hd;exact CGq9 h4
  ·rw [sortA] at ha;rcases Zbu.1 ha with ha|ha
   ·have:=h2 a ha;omega
   ·have:=h3 a ha;omega
theorem AXy9 {P:AskT→Prop} {s:SideT} {us:List UseT} {gs:List GraT} {n:NearT} {pe many:Int}:∀ {ks:List Nat} {z:List AskT},(∀a∈z,P a)→(∀k∈ks,possS s ⟨us,gs, []⟩ n (triSl s k) (triOf s k)=true→P ⟨triSl s k,triOf s k,pe⟩)→∀a∈askGo s us gs n pe many ks z,P a
 | [],z,h,_=>h
 | k::r,z,h,hk=>by
  rw [askGo];split
  ·exact h
  ·refine AXy9 (fun a ha=> ?_) fun k' h'=>hk k' (Zbx _ h');unfold AIr9 at ha;split at ha
   ·rename_i h1;split at ha
    ·exact h a ha
    ·rcases Zbu.1 ha with ha|ha
     ·exact h a ha
     ·rw [List.mem_singleton] at ha;subst ha;exact hk k (Zbv) h1
   ·exact h a ha
theorem AXx9 {s:SideT} {us:List UseT} {gs:List GraT} {n:NearT} {pe many:Int}:∀ {ks:List Nat} {z:List AskT},(z.length:Int)≤many→((askGo s us gs n pe many ks z).length:Int)≤many
 | [],z,h=>h
 | k::r,z,h=>by
  rw [askGo];split
  ·exact h
  ·rename_i h1;refine AXx9 ?_;unfold AIr9;split
   ·split
    ·exact h
    ·simp only [List.length_append,List.length_cons,List.length_nil];omega
   ·exact h
theorem BSz9 (s:SideT) (k:Nat) (hd:1≤s.lay.da∧s.lay.da≤60) (hc:0≤triC s k):0≤triOf s k∧triOf s k<16:=by
 have h1:triC s k<16*s.lay.da:=by
  unfold triC;rw [show Zad Zbc (16*s.lay.da)=16*s.lay.da from AAx9 (by omega) (by omega)];exact Int.tmod_lt_of_pos _ (by omega)
 have h2:Int.tdiv (triC s k) s.lay.da=triC s k / s.lay.da:=Int.tdiv_eq_ediv_of_nonneg hc;have h3:0≤triC s k / s.lay.da:=Int.ediv_nonneg hc (by omega);have h4:triC s k / s.lay.da<16:=by
  rw [Int.ediv_lt_iff_lt_mul (by omega)];exact h1
 unfold triOf;rw [h2,AAx9 (by omega) (by omega)];exact ⟨h3,h4⟩
structure AskIs (ly:LayT) (t:TabT) (s:SideT) (n:NearT) (pe many:Int) (q:List AskT):Prop where
 ok:∀a∈q,askOk a ly=true∧possS s ⟨t.us,t.gs, []⟩ n a.sl a.of=true∧a.pe=pe
 sorted:q.Pairwise (fun a b=>a.sl<b.sl)
 len:(q.length:Int)≤many
theorem BPo9 {ly:LayT} {t:TabT} {me:Int} {l:List NearT} {fr pe:Int} {n:NearT} (h:newS ly t me l fr=true) (hf:sFind (sideS ly me l fr) pe=some n):∃x∈l,n=filN ly x∧x.fm=pe∧(0≤pe∧pe<ly.no)∧pe≠me:=by
 have hv:=ACa9 (AEa9 h);have hbad:(AAe9 none l).any (badN ly me fr)=false:=by
  rw [newS,Zai,Zai,Zai,Zcb] at h;exact h.2.2.2
 have h1:=List.mem_of_find?_eq_some hf;have h2:(n.fm==pe)=true:=List.find?_some (p:=fun x:NearT=>x.fm==pe) hf;simp only [sideS,Zbg] at h1;obtain ⟨x,hx,rfl⟩:=h1;have h3:x.fm=pe:=by
  have h5:(filN ly x).fm=pe:=by simpa using h2
  exact h5
 have h4:=AWq9 hv.1.2 hbad x hx;rw [h3] at h4;exact ⟨x,hx,rfl,h3,⟨h4.1,h4.2.1⟩,h4.2.2.1⟩
theorem BRi9 {ly:LayT} {t:TabT} {me:Int} {l:List NearT} {pe many fr:Int} (h:newS ly t me l fr=true) (hm:0≤many∧many≤24):
 (sFind (sideS ly me l fr) pe=none∧askS ly t me l pe many fr=⟨t.us,t.gs, []⟩)∨∃n q,sFind (sideS ly me l fr) pe=some n∧askS ly t me l pe many fr=⟨t.us,t.gs,q⟩∧AskIs ly t (sideS ly me l fr) n pe many q∧q=sortA (askGo (sideS ly me l fr) t.us t.gs n pe many (triKs ly) (keptA (sideS ly me l fr) t n pe many)) ly.da.toNat:=by
 have hin:inN many 24=true:=by rw [inN,decide_eq_true hm.1,decide_eq_true hm.2];rfl
 have hvt:=AEa9 h;have hv:=ACa9 hvt;have hva:=AHp9 hvt;have hni:=AWo9 h;cases hf:sFind (sideS ly me l fr) pe with
 |none=>exact .inl ⟨rfl,by rw [askS,h,hin,Bool.and_self,if_pos rfl,hf]⟩
 | some n=>
  refine .inr ⟨n,_,rfl,by rw [askS,h,hin,Bool.and_self,if_pos rfl,hf], ?_,rfl⟩;obtain ⟨x,_,_,_,hpe,_⟩:=BPo9 h hf;have hset0:AJi9 ly.da t.ak:=⟨fun a ha=>BIu9 (hva.2.2.1.1 a ha),hva.2.2.1.2.imp fun h=>by omega⟩;have hk0:AJi9 ly.da (keptA (sideS ly me l fr) t n pe many):=
   ⟨fun a ha=>hset0.1 a (Zdq.1 (List.mem_of_mem_take ha)).1,(hset0.2.sublist List.filter_sublist).sublist (List.take_sublist _ _)⟩
  have htri:∀k∈triKs ly,(0≤triSl (sideS ly me l fr) k∧triSl (sideS ly me l fr) k<(sideS ly me l fr).lay.da)∧(0≤triOf (sideS ly me l fr) k∧triOf (sideS ly me l fr) k<16):=fun k hk=>by
   rw [triKs,List.mem_range'_1] at hk;have hd:(sideS ly me l fr).lay.da=ly.da:=rfl;have hn0:=BPd9 (s:=sideS ly me l fr) k (by omega) (by rw [hd];exact hv.2) ⟨hni.1.1,by have:=hni.1.2;show me<60;omega⟩ hni.2;exact ⟨BCu9 _ k (by rw [hd];exact hv.2) hn0,BSz9 _ k (by rw [hd];exact hv.2) hn0⟩
  have hgs:AJi9 ly.da _:=AKj9 (s:=sideS ly me l fr) (us:=t.us) (gs:=t.gs) (n:=n) (pe:=pe) (many:=many) hk0 fun k hk=>(htri k hk).1;have hp:=AYv9 hgs;refine ⟨fun a ha=> ?_,(ALf9 hgs.2 _).1, ?_⟩
  ·refine AXy9 (P:=fun a=>askOk a ly=true∧possS (sideS ly me l fr) ⟨t.us,t.gs, []⟩ n a.sl a.of=true∧a.pe=pe) (fun a ha=> ?_) (fun k hk hps=> ?_) a (hp.mem_iff.1 ha)
   ·have h1:=Zdq.1 (List.mem_of_mem_take ha);have h2:=h1.2;rw [keepA,Zai] at h2;exact ⟨hva.2.2.1.1 a h1.1,h2.2,by simpa using h2.1⟩
   ·obtain ⟨h1,h2⟩:=htri k hk;refine ⟨?_,hps,rfl⟩;show ABe9 _ _ pe ly=true;simp only [ABe9,Zai,decide_eq_true_eq];have hd:(sideS ly me l fr).lay.da=ly.da:=rfl;rw [hd] at h1;exact ⟨h1.1,h1.2,h2.1,h2.2,hpe.1,hpe.2⟩
  ·rw [hp.length_eq];refine AXx9 ?_;rw [keptA,List.length_take];omega
theorem BPm9 {s:SideT} {t:TabT} {n:NearT} {sl of:Int} (h:possS s ⟨t.us,t.gs, []⟩ n sl of=true):busyT t sl=false∧busyT ⟨n.us,n.gs, []⟩ sl=false∧BFl9 s.ns sl of s.me=false:=by
 unfold possS at h;split at h
 ·cases h
 ·rename_i h1;split at h
  ·cases h
  ·rename_i h2;refine ⟨?_,by simpa using h2,by simpa using h⟩;have h3:busyT t sl=busyT ⟨t.us,t.gs, []⟩ sl:=rfl;rw [h3];simpa using h1
theorem AEq9.asks {t:TabT} {ly:LayT} {q:List AskT} (h:AEq9 t ly) (hok:∀a∈q,askOk a ly=true) (hs:q.Pairwise (fun a b=>a.sl<b.sl)) (hl:q.length≤24) (hb:∀a∈q,busyT t a.sl=false):AEq9 ⟨t.us,t.gs,q⟩ ly:=by
 obtain ⟨h1,⟨h2,_⟩,h4,h5,_,h6⟩:=h;refine ⟨h1,⟨h2,hl⟩,h4,h5,⟨hok,hs⟩, ?_⟩;show (t.us.map (·.sl)++t.gs.map (·.sl)++q.map (·.sl)).Nodup;have h7:(t.us.map (·.sl)++t.gs.map (·.sl)).Nodup:=h6.sublist (List.sublist_append_left _ _);rw [List.nodup_append];refine ⟨h7, ?_,fun a ha b hb' hab=> ?_⟩
 ·rw [List.Nodup,List.pairwise_map];exact hs.imp fun h=>by omega
 ·obtain ⟨x,hx,rfl⟩:=Zbg.1 hb';obtain ⟨b1,b2⟩:=AXv9 (hb x hx);rcases Zbu.1 ha with ha|ha
  ·obtain ⟨y,hy,rfl⟩:=Zbg.1 ha;exact b1 y hy hab
  ·obtain ⟨y,hy,rfl⟩:=Zbg.1 ha;exact b2 y hy hab
theorem BIv9 {ly:LayT} {t:TabT} {me:Int} {l:List NearT} {pe many fr:Int} (h:newS ly t me l fr=true):AEq9 (askS ly t me l pe many fr) ly:=by
 have hvt:=AHo9.1 (AEa9 h);by_cases hm:0≤many∧many≤24
 ·rcases BRi9 (pe:=pe) h hm with ⟨_,e⟩|⟨n,q,_,e,hq,_⟩
  ·rw [e];exact hvt.asks (by simp) .nil (by simp) (by simp)
  ·rw [e];exact hvt.asks (fun a ha=>(hq.ok a ha).1) hq.sorted (by have:=hq.len;omega) fun a ha=>(BPm9 (hq.ok a ha).2.1).1
 ·have hin:inN many 24=false:=by
   rw [inN];by_cases h1:0≤many
   ·rw [decide_eq_false (p:=many≤24) (by omega),Zcs]
   ·rw [decide_eq_false (p:=many≥0) (by omega),Zcj]
  rw [askS,hin,Zcs,if_neg (by decide)];exact hvt
theorem BTi9 {t:TabT} {l:List NearT} (h:AQt9 t l=true):TabOk t∧l.length<1000000∧(∀x∈l,AJr9 x)∧∀x∈l,ACf9 x:=by
 rw [AQt9,Zai,BFt9] at h;obtain ⟨h1,h2,h3,h4⟩:=h;rw [AUo9,Zai,Zcb,decide_eq_true_eq] at h1;have hl:l.length≤70:=by omega
 have h5:∀x∈l,x.us.length≤40∧x.gs.length≤40∧x.ak.length≤40:=fun x hx=>by
  have h6:=h1.1;rw [List.take_of_length_le hl,Zfh] at h6;have h7:=h6 x hx;simp only [manyN,Bool.or_eq_true,decide_eq_true_eq,not_or] at h7;omega
 refine ⟨⟨by omega,by omega,by omega⟩,by omega,fun x hx=> ?_,fun x hx=> ?_⟩
 ·have:=h5 x hx;exact ⟨by omega,by omega,by omega⟩
 ·have:=h5 x hx;exact ⟨by omega,by omega,by omega⟩
theorem APx9 {α:Type} (p:α→Bool) (l:List α) (k:Nat) (x:α) (h:l[k]? =some x):(l.take (k+1)).all p=((l.take k).all p&&p x):=by
 rw [List.take_add_one,h,List.all_append];simp
end Go.Proofs.YthcbbmnjikhihaaGreat.Am
namespace Go.Proofs.YthcbbmnjikhihaaGreat.Am
open Go Go.RowKit Go.Proofs Go.ChangeShapes Go.WideShapes Go.ChangeAt Tryz
open AV renaming agg → Zaq, bad → Zab, d → Zae, ptr → Zaf
open BIf renaming of → Zba, t → Zaz
open Bool renaming and_eq_true → Zai, and_false → Zcs, false_and → Zcj, not_eq_true' → Zcb, or_eq_false_iff → Zeo
open AAc9 renaming cons → Zaj, nil → Zak
open Go.Code renaming loop → Zat
open Dv renaming sl → Zan
open Int renaming toNat → Zam
open Go.IntKind renaming i64 → Zbc, wrap → Zad
open LayT renaming da → Zcx
open LeH renaming refl → Zbp
open LeVs renaming refl → Zfl
open List renaming all → Zbk, all_eq_true → Zbd, any_eq_false → Zfh, any_eq_true → Zdv, length → Zaa, mem_append → Zbu, mem_cons → Zbw, mem_cons_of_mem → Zbx, mem_cons_self → Zbv, mem_filter → Zdq, mem_map → Zbg, pairwise_cons → Zds
open NearT renaming fm → Zdm
open AAl9 renaming nil → Zah
open TabT renaming ak → Zdh, gs → Zdb
open AV (bad)
set_option linter.unusedVariables false
set_option maxRecDepth 20000
theorem glob0 (S:Pr) (w:World):Glob S w:=fun g j v h=>by simp [AGr9] at h
theorem CFo9:ownKnob Tryz.prog.godebug=none:=by kernel_rfl
theorem BBb9:laidOutB prog=true:=by kernel_rfl
def AQg9:List Ty:= [.int .i64, .int .i64, .int .i64, .int .i64]
def AUk9:List Ty:= [.int .i64, .int .i64, .int .i64, .int .i64, .int .i64]
def AVk9:List Ty:= [.int .i64, .int .i64, .int .i64]
theorem CAp9 {row:List Dv} (h:AGu9 AQg9 row):∃x:UseT,row=useR x:=by
 unfold AQg9 at h;obtain _|⟨h0,h⟩:=h
 obtain _|⟨h1,h⟩:=h
 obtain _|⟨h2,h⟩:=h
 obtain _|⟨h3,h⟩:=h
 cases h;cases h0;cases h1;cases h2;cases h3;exact ⟨⟨_,_,_,_⟩,rfl⟩
theorem CDo9 {row:List Dv} (h:AGu9 AUk9 row):∃x:GraT,row=graR x:=by
 unfold AUk9 at h;obtain _|⟨h0,h⟩:=h
 obtain _|⟨h1,h⟩:=h
 obtain _|⟨h2,h⟩:=h
 obtain _|⟨h3,h⟩:=h
 obtain _|⟨h4,h⟩:=h
 cases h;cases h0;cases h1;cases h2;cases h3;cases h4;exact ⟨⟨_,_,_,_,_⟩,rfl⟩
theorem CFb9 {row:List Dv} (h:AGu9 AVk9 row):∃x:AskT,row=askR x:=by
 unfold AVk9 at h;obtain _|⟨h0,h⟩:=h
 obtain _|⟨h1,h⟩:=h
 obtain _|⟨h2,h⟩:=h
 cases h;cases h0;cases h1;cases h2;exact ⟨⟨_,_,_⟩,rfl⟩
theorem BPc9 {x:Dv} (h:HasTy (.sl AQg9) x):∃l:List UseT,x= .sl 4 (rowsU l)∧l.length≤maxLen∧True:=by
 cases h with
 | sl _ xs hl h=>
  have key:∀(xs:List (List Dv)),(∀row∈xs,AGu9 AQg9 row)→∃l:List UseT,xs=rowsU l:=by
   intro xs;induction xs with
   |nil=>exact fun _=>⟨[],rfl⟩
   | cons row xs ih=>
    intro h;obtain ⟨p,rfl⟩:=ih fun r hr=>h r (Zbx _ hr);obtain ⟨x,rfl⟩:=CAp9 (h row (Zbv ..));exact ⟨x::p,rfl⟩
  obtain ⟨p,rfl⟩:=key xs h;exact ⟨p,rfl,by simpa [rowsU] using hl,trivial⟩
theorem BPy9 {x:Dv} (h:HasTy (.sl AUk9) x):∃l:List GraT,x= .sl 5 (rowsG l)∧l.length≤maxLen∧True:=by
 cases h with
 | sl _ xs hl h=>
  have key:∀(xs:List (List Dv)),(∀row∈xs,AGu9 AUk9 row)→∃l:List GraT,xs=rowsG l:=by
   intro xs;induction xs with
   |nil=>exact fun _=>⟨[],rfl⟩
   | cons row xs ih=>
    intro h;obtain ⟨p,rfl⟩:=ih fun r hr=>h r (Zbx _ hr);obtain ⟨x,rfl⟩:=CDo9 (h row (Zbv ..));exact ⟨x::p,rfl⟩
  obtain ⟨p,rfl⟩:=key xs h;exact ⟨p,rfl,by simpa [rowsG] using hl,trivial⟩
theorem BRh9 {x:Dv} (h:HasTy (.sl AVk9) x):∃l:List AskT,x= .sl 3 (rowsA l)∧l.length≤maxLen∧True:=by
 cases h with
 | sl _ xs hl h=>
  have key:∀(xs:List (List Dv)),(∀row∈xs,AGu9 AVk9 row)→∃l:List AskT,xs=rowsA l:=by
   intro xs;induction xs with
   |nil=>exact fun _=>⟨[],rfl⟩
   | cons row xs ih=>
    intro h;obtain ⟨p,rfl⟩:=ih fun r hr=>h r (Zbx _ hr);obtain ⟨x,rfl⟩:=CFb9 (h row (Zbv ..));exact ⟨x::p,rfl⟩
  obtain ⟨p,rfl⟩:=key xs h;exact ⟨p,rfl,by simpa [rowsA] using hl,trivial⟩
def ARm9:List Ty:= [.int .i64, .int .i64, .int .i64, .int .i64, .int .i64, .int .i64, .int .i64, .int .i64, .int .i64, .int .i64, .int .i64, .int .i64, .sl AQg9, .sl AUk9, .sl AVk9, .sl AQg9, .bool, .sl [.int .i64, .int .i64, .int .i64, .int .i64, .int .i64, .int .i64, .int .i64, .int .i64], .sl [.int .i64, .int .i64, .int .i64, .int .i64, .int .i64, .int .i64, .int .i64, .int .i64], .sl [.int .i64], .int .i64, .int .i64, .int .u64, .int .i64, .int .i64, .int .i64, .int .i64, .int .i64, .sl [.int .u8], .sl [.int .u64], .bool]
theorem BVd9 {row:List Dv} (h:AGu9 ARm9 row):∃x:NearT,row=nearR x:=by
 unfold ARm9 at h;obtain _|⟨h0,h⟩:=h
 obtain _|⟨h1,h⟩:=h
 obtain _|⟨h2,h⟩:=h
 obtain _|⟨h3,h⟩:=h
 obtain _|⟨h4,h⟩:=h
 obtain _|⟨h5,h⟩:=h
 obtain _|⟨h6,h⟩:=h
 obtain _|⟨h7,h⟩:=h
 obtain _|⟨h8,h⟩:=h
 obtain _|⟨h9,h⟩:=h
 obtain _|⟨h10,h⟩:=h
 obtain _|⟨h11,h⟩:=h
 obtain _|⟨h12,h⟩:=h
 obtain _|⟨h13,h⟩:=h
 obtain _|⟨h14,h⟩:=h
 obtain _|⟨h15,h⟩:=h
 obtain _|⟨h16,h⟩:=h
 obtain _|⟨h17,h⟩:=h
 obtain _|⟨h18,h⟩:=h
 obtain _|⟨h19,h⟩:=h
 obtain _|⟨h20,h⟩:=h
 obtain _|⟨h21,h⟩:=h
 obtain _|⟨h22,h⟩:=h
 obtain _|⟨h23,h⟩:=h
 obtain _|⟨h24,h⟩:=h
 obtain _|⟨h25,h⟩:=h
 obtain _|⟨h26,h⟩:=h
 obtain _|⟨h27,h⟩:=h
 obtain _|⟨h28,h⟩:=h
 obtain _|⟨h29,h⟩:=h
 obtain _|⟨h30,h⟩:=h
 cases h;obtain ⟨us,rfl,_⟩:=BPc9 h12;obtain ⟨gs,rfl,_⟩:=BPy9 h13;obtain ⟨ak,rfl,_⟩:=BRh9 h14;cases h0;cases h1;cases h2;cases h3;cases h4;cases h5;cases h6;cases h7;cases h8;cases h9;cases h10;cases h11;cases h15;cases h16;cases h17;cases h18;cases h19;cases h20;cases h21;cases h22;cases h23;cases h24;cases h25;cases h26;cases h27;cases h28;cases h29;cases h30;exact ⟨⟨_,_,us,gs,ak,_,_,_,_,_,_,_,_,_,_,_,_,_,_,_,_,_,_,_,_,_,_,_,_,_,_⟩,rfl⟩
theorem BVc9 {x:Dv} (h:HasTy (.sl ARm9) x):∃l:List NearT,x= .sl 31 (rowsN l)∧l.length≤maxLen∧True:=by
 cases h with
 | sl _ xs hl h=>
  have key:∀(xs:List (List Dv)),(∀row∈xs,AGu9 ARm9 row)→∃l:List NearT,xs=rowsN l:=by
   intro xs;induction xs with
   |nil=>exact fun _=>⟨[],rfl⟩
   | cons row xs ih=>
    intro h;obtain ⟨p,rfl⟩:=ih fun r hr=>h r (Zbx _ hr);obtain ⟨x,rfl⟩:=BVd9 (h row (Zbv ..));exact ⟨x::p,rfl⟩
  obtain ⟨p,rfl⟩:=key xs h;exact ⟨p,rfl,by simpa [rowsN] using hl,trivial⟩
theorem CBf9 {row:List Dv} (h:AGu9 [.int .i64, .int .i64] row):∃ly:LayT,Zaq (row.map .d)=layA ly∧True:=by
 obtain _|⟨h0,h⟩:=h
 obtain _|⟨h1,h⟩:=h
 cases h;cases h0;cases h1;exact ⟨⟨_,_⟩,rfl,trivial⟩
theorem CBe9 {row:List Dv} (h:AGu9 [.sl AQg9, .sl AUk9, .sl AVk9] row):∃t:TabT,Zaq (row.map .d)=tabA t∧TabMx t:=by
 obtain _|⟨h0,h⟩:=h
 obtain _|⟨h1,h⟩:=h
 obtain _|⟨h2,h⟩:=h
 cases h;obtain ⟨us,rfl,l0,_⟩:=BPc9 h0;obtain ⟨gs,rfl,l1,_⟩:=BPy9 h1;obtain ⟨ak,rfl,l2,_⟩:=BRh9 h2;exact ⟨⟨us,gs,ak⟩,rfl,l0,l1,l2⟩
theorem CHs9:flat prog 20 23=some [.int .i64, .int .i64]:=by kernel_rfl
theorem CHr9:flat prog 20 28=some [.sl AQg9, .sl AUk9, .sl AVk9]:=by kernel_rfl
theorem CHq9:flat prog 20 29=some [.sl ARm9]:=by kernel_rfl
end Go.Proofs.YthcbbmnjikhihaaGreat.Am
namespace Go.Proofs.YthcbbmnjikhihaaGreat.Am
open Go Go.RowKit Go.Proofs Tryz
open AV renaming agg → Zaq, bad → Zab, d → Zae, ptr → Zaf
open BIf renaming of → Zba, t → Zaz
open Bool renaming and_eq_true → Zai, and_false → Zcs, false_and → Zcj, not_eq_true' → Zcb, or_eq_false_iff → Zeo
open AAc9 renaming cons → Zaj, nil → Zak
open Go.Code renaming loop → Zat
open Dv renaming sl → Zan
open Int renaming toNat → Zam
open Go.IntKind renaming i64 → Zbc, wrap → Zad
open LayT renaming da → Zcx
open LeH renaming refl → Zbp
open LeVs renaming refl → Zfl
open List renaming all → Zbk, all_eq_true → Zbd, any_eq_false → Zfh, any_eq_true → Zdv, length → Zaa, mem_append → Zbu, mem_cons → Zbw, mem_cons_of_mem → Zbx, mem_cons_self → Zbv, mem_filter → Zdq, mem_map → Zbg, pairwise_cons → Zds
open NearT renaming fm → Zdm
open AAl9 renaming nil → Zah
open TabT renaming ak → Zdh, gs → Zdb
variable {β:Type} (wl:WLT β) (y:ACw9 β) (b:β) (R:AV→β→Prop) (K:Exit→List AV→List Blk→β→Prop) (Q:β→Prop)
open AV (bad)
set_option linter.unusedVariables false
set_option maxRecDepth 20000
set_option maxHeartbeats 1000000
noncomputable def lpNd0:Code:=sub [1,1,1,1,1,1,0,1,2,3] (code Tryz.f6)
noncomputable def lpNd1:Code:=sub [1,1,1,1,1,1,0,1,2,3,1,0,2,1,1,1,1,1,2,3] (code Tryz.f6)
noncomputable def lpNd2:Code:=sub [1,1,1,1,1,1,1,1,0,1,2,3] (code Tryz.f6)
noncomputable def lpNd3:Code:=sub [1,1,1,1,1,1,1,1,0,1,2,3,1,0,2,1,1,1,1,0,1,2,3] (code Tryz.f6)
def tmNd (me pe fr:Int) (l:List NearT) (u:Bool) (i c k:AV):List AV:= [.bad, .bad, .d (i64 me), .d (.sl 31 (rowsN l)), .d (i64 pe), .bad, .d (i64 fr), .ptr 0 0, .ptr 1 0, .bad, .bad, .bad, .bad, .bad, .bad, .d (bo u), .bad, .bad, .ptr 2 0,i,c, .bad, .bad,k]++List.replicate 219 .bad
def tmNe (me fr:Int) (l:List NearT) (u:Bool) (i g f k:AV):List AV:= [.bad, .bad, .d (i64 me), .d (.sl 31 (rowsN l)), .bad, .bad, .d (i64 fr), .ptr 0 0, .ptr 1 0, .bad, .bad, .bad, .bad, .bad, .bad, .d (bo u), .bad, .bad, .bad, .bad, .bad, .bad, .bad, .bad, .bad, .ptr 3 0,i,g, .bad,f,k]++List.replicate 212 .bad
def TNa:List (Nat×(List AV→(AV→Prop)→Prop)):= [(23,BQm9)]
theorem CIq9:AAc9 prog TNa:=Zaj BHe9 Zak
def TNb:List (Nat×(List AV→(AV→Prop)→Prop)):= [(25,cUses),(26,cAsks),(27,BQj9)]
theorem CIp9:AAc9 prog TNb:=Zaj BXc9 (Zaj BXu9 (Zaj BGz9 Zak))
abbrev Qz15 (v0:LayT) (v1:TabT) (v2:TabT) (v3:Int) (v4:Int):= [Blk.mk (Qz3 v0) false false 0,Blk.mk (Qz1 v1) false false 0,Blk.mk (Qz1 v2) false false 0,Blk.mk [Zae (i64 v3),Zae (i64 v4)] false false 0]
theorem rNd1 (ly:LayT) (t a:TabT) (sl of me pe fr:Int) (l:List NearT) (u:Bool) (i k:Int):wpc prog ⟨TNa, [],wl,y,false⟩ 100 lpNd1 (tmNd me pe fr l u (.d (i64 i)) (.ptr 3 0) (.d (i64 k))) [layB ly,tabB t,tabB a,cellB sl of] b (maskK 4 [2,3,4,6,7,8,15,18,19,20,23] K)=(BIf (decide (k<((Zaa (rowsN l):Nat):Int))) (BIf (true&&decide (0≤k)) (∃(n0:NearT),(rowsN l)[Zam k]? =some (nearR n0)∧∃(l3:LayT) (n4:NearT) (s5:Int) (q6:Bool), [Zaq (Qz3 ly),nearA n0,Zae (i64 sl)]= [Zaq (Qz3 l3),nearA n4,Zae (i64 s5)]∧(Zaa (NearT.us n4)≤9223372036854775807∧Zaa (NearT.gs n4)≤9223372036854775807∧q6=AJs9 l3 n4 s5)∧BIf u (BIf (true&&decide (0≤k)) (∃(n7:NearT),(rowsN l)[Zam k]? =some (nearR n7)∧BIf (Zdm n7 !=pe) (K .normal (Zab::Zab::Zae (i64 me)::Zae (Zan 31 (rowsN l))::Zae (i64 pe)::Zab::Zae (i64 fr)::Zaf 0 0::Zaf 1 0::bds 6 (Zae (bo true)::Zab::Zab::Zaf 2 0::Zae (i64 i)::Zaf 3 0::Zab::Zab::Zae (i64 (Zad .i64 (k+1)))::bds 219 [])) (Qz15 ly t a sl of) b) (K .normal (Zab::Zab::Zae (i64 me)::Zae (Zan 31 (rowsN l))::Zae (i64 pe)::Zab::Zae (i64 fr)::Zaf 0 0::Zaf 1 0::bds 6 (Zae (bo !q6)::Zab::Zab::Zaf 2 0::Zae (i64 i)::Zaf 3 0::Zab::Zab::Zae (i64 (Zad .i64 (k+1)))::bds 219 [])) (Qz15 ly t a sl of) b)) False) (K .normal (Zab::Zab::Zae (i64 me)::Zae (Zan 31 (rowsN l))::Zae (i64 pe)::Zab::Zae (i64 fr)::Zaf 0 0::Zaf 1 0::bds 6 (Zae (bo false)::Zab::Zab::Zaf 2 0::Zae (i64 i)::Zaf 3 0::Zab::Zab::Zae (i64 (Zad .i64 (k+1)))::bds 219 [])) (Qz15 ly t a sl of) b)) False) (K (Exit.exit 2) (Zab::Zab::Zae (i64 me)::Zae (Zan 31 (rowsN l))::Zae (i64 pe)::Zab::Zae (i64 fr)::Zaf 0 0::Zaf 1 0::bds 6 (Zae (bo u)::Zab::Zab::Zaf 2 0::Zae (i64 i)::Zaf 3 0::Zab::Zab::Zae (i64 k)::bds 219 [])) (Qz15 ly t a sl of) b)):=by kernel_rfl
abbrev Qz9 (v0:LayT) (v1:TabT) (v2:TabT) (v3:TabT) (v4:GraT):= [Blk.mk (Qz3 v0) false false 0,Blk.mk (Qz1 v1) false false 0,Blk.mk (Qz1 v2) false false 0,Blk.mk (Qz1 v3) false false 0,Blk.mk (Qz5 v4) false false 0]
theorem rNd3 (ly:LayT) (t a c:TabT) (g:GraT) (me fr:Int) (l:List NearT) (u f:Bool) (i k:Int):wpc prog ⟨TNb, [],wl,y,false⟩ 100 lpNd3 (tmNe me fr l u (.d (i64 i)) (.ptr 4 0) (.d (bo f)) (.d (i64 k))) [layB ly,tabB t,tabB a,tabB c,graB g] b (maskK 5 [2,3,6,7,8,15,25,26,27,29,30] K)=(BIf (decide (k<((Zaa (rowsN l):Nat):Int))) (BIf (true&&decide (0≤k)) (∃(n0:NearT),(rowsN l)[Zam k]? =some (nearR n0)∧∃(l3:LayT) (n4:NearT) (sl5:Int) (of6:Int) (pe7:Int) (q8:Bool), [Zaq (Qz3 ly),nearA n0,Zaq (Qz59 g),Zae (i64 (-1))]= [Zaq (Qz3 l3),nearA n4,Zaq [Zae (i64 sl5),Zae (i64 of6)],Zae (i64 pe7)]∧(Zaa (NearT.us n4)≤9223372036854775807∧q8=UsesS l3 n4 sl5 of6 pe7)∧BIf (true&&decide (0≤k)) (∃(n9:NearT),(rowsN l)[Zam k]? =some (nearR n9)∧∃(l12:LayT) (n13:NearT) (sl14:Int) (of15:Int) (pe16:Int) (q17:Bool), [Zaq (Qz3 ly),nearA n9,Zaq (Qz59 g),Zae (i64 me)]= [Zaq (Qz3 l12),nearA n13,Zaq [Zae (i64 sl14),Zae (i64 of15)],Zae (i64 pe16)]∧(Zaa (NearT.ak n13)≤9223372036854775807∧q17=AsksS l12 n13 sl14 of15 pe16)∧BIf (true&&decide (0≤k)) (∃(n18:NearT),(rowsN l)[Zam k]? =some (nearR n18)∧∃(n21:NearT) (fr22:Int) (q23:Bool), [nearA n18,Zae (i64 fr)]= [nearA n21,Zae (i64 fr22)]∧q23=ASf9 n21 fr22∧BIf f (BIf u (BIf (true&&decide (0≤k)) (∃(n24:NearT),(rowsN l)[Zam k]? =some (nearR n24)∧BIf (Zdm n24==GraT.pe g) (K .normal (Zab::Zab::Zae (i64 me)::Zae (Zan 31 (rowsN l))::Zab::Zab::Zae (i64 fr)::Zaf 0 0::Zaf 1 0::bds 6 (Zae (bo true)::bds 9 (Zaf 3 0::Zae (i64 i)::Zaf 4 0::Zab::Zae (bo true)::Zae (i64 (Zad .i64 (k+1)))::bds 212 []))) (Qz9 ly t a c g) b) (K .normal (Zab::Zab::Zae (i64 me)::Zae (Zan 31 (rowsN l))::Zab::Zab::Zae (i64 fr)::Zaf 0 0::Zaf 1 0::bds 6 (Zae (bo !q8)::bds 9 (Zaf 3 0::Zae (i64 i)::Zaf 4 0::Zab::Zae (bo true)::Zae (i64 (Zad .i64 (k+1)))::bds 212 []))) (Qz9 ly t a c g) b)) False) (K .normal (Zab::Zab::Zae (i64 me)::Zae (Zan 31 (rowsN l))::Zab::Zab::Zae (i64 fr)::Zaf 0 0::Zaf 1 0::bds 6 (Zae (bo false)::bds 9 (Zaf 3 0::Zae (i64 i)::Zaf 4 0::Zab::Zae (bo true)::Zae (i64 (Zad .i64 (k+1)))::bds 212 []))) (Qz9 ly t a c g) b)) (BIf (true&&decide (0≤k)) (∃(n27:NearT),(rowsN l)[Zam k]? =some (nearR n27)∧BIf (Zdm n27==GraT.pe g) (BIf q17 (BIf u (BIf (true&&decide (0≤k)) (∃(n30:NearT),(rowsN l)[Zam k]? =some (nearR n30)∧BIf (Zdm n30==GraT.pe g) (K .normal (Zab::Zab::Zae (i64 me)::Zae (Zan 31 (rowsN l))::Zab::Zab::Zae (i64 fr)::Zaf 0 0::Zaf 1 0::bds 6 (Zae (bo true)::bds 9 (Zaf 3 0::Zae (i64 i)::Zaf 4 0::Zab::Zae (bo q23)::Zae (i64 (Zad .i64 (k+1)))::bds 212 []))) (Qz9 ly t a c g) b) (K .normal (Zab::Zab::Zae (i64 me)::Zae (Zan 31 (rowsN l))::Zab::Zab::Zae (i64 fr)::Zaf 0 0::Zaf 1 0::bds 6 (Zae (bo !q8)::bds 9 (Zaf 3 0::Zae (i64 i)::Zaf 4 0::Zab::Zae (bo q23)::Zae (i64 (Zad .i64 (k+1)))::bds 212 []))) (Qz9 ly t a c g) b)) False) (K .normal (Zab::Zab::Zae (i64 me)::Zae (Zan 31 (rowsN l))::Zab::Zab::Zae (i64 fr)::Zaf 0 0::Zaf 1 0::bds 6 (Zae (bo false)::bds 9 (Zaf 3 0::Zae (i64 i)::Zaf 4 0::Zab::Zae (bo q23)::Zae (i64 (Zad .i64 (k+1)))::bds 212 []))) (Qz9 ly t a c g) b)) (BIf u (BIf (true&&decide (0≤k)) (∃(n33:NearT),(rowsN l)[Zam k]? =some (nearR n33)∧BIf (Zdm n33==GraT.pe g) (K .normal (Zab::Zab::Zae (i64 me)::Zae (Zan 31 (rowsN l))::Zab::Zab::Zae (i64 fr)::Zaf 0 0::Zaf 1 0::bds 6 (Zae (bo true)::bds 9 (Zaf 3 0::Zae (i64 i)::Zaf 4 0::Zab::Zae (bo false)::Zae (i64 (Zad .i64 (k+1)))::bds 212 []))) (Qz9 ly t a c g) b) (K .normal (Zab::Zab::Zae (i64 me)::Zae (Zan 31 (rowsN l))::Zab::Zab::Zae (i64 fr)::Zaf 0 0::Zaf 1 0::bds 6 (Zae (bo !q8)::bds 9 (Zaf 3 0::Zae (i64 i)::Zaf 4 0::Zab::Zae (bo false)::Zae (i64 (Zad .i64 (k+1)))::bds 212 []))) (Qz9 ly t a c g) b)) False) (K .normal (Zab::Zab::Zae (i64 me)::Zae (Zan 31 (rowsN l))::Zab::Zab::Zae (i64 fr)::Zaf 0 0::Zaf 1 0::bds 6 (Zae (bo false)::bds 9 (Zaf 3 0::Zae (i64 i)::Zaf 4 0::Zab::Zae (bo false)::Zae (i64 (Zad .i64 (k+1)))::bds 212 []))) (Qz9 ly t a c g) b))) (BIf u (BIf (true&&decide (0≤k)) (∃(n36:NearT),(rowsN l)[Zam k]? =some (nearR n36)∧BIf (Zdm n36==GraT.pe g) (K .normal (Zab::Zab::Zae (i64 me)::Zae (Zan 31 (rowsN l))::Zab::Zab::Zae (i64 fr)::Zaf 0 0::Zaf 1 0::bds 6 (Zae (bo true)::bds 9 (Zaf 3 0::Zae (i64 i)::Zaf 4 0::Zab::Zae (bo false)::Zae (i64 (Zad .i64 (k+1)))::bds 212 []))) (Qz9 ly t a c g) b) (K .normal (Zab::Zab::Zae (i64 me)::Zae (Zan 31 (rowsN l))::Zab::Zab::Zae (i64 fr)::Zaf 0 0::Zaf 1 0::bds 6 (Zae (bo !q8)::bds 9 (Zaf 3 0::Zae (i64 i)::Zaf 4 0::Zab::Zae (bo false)::Zae (i64 (Zad .i64 (k+1)))::bds 212 []))) (Qz9 ly t a c g) b)) False) (K .normal (Zab::Zab::Zae (i64 me)::Zae (Zan 31 (rowsN l))::Zab::Zab::Zae (i64 fr)::Zaf 0 0::Zaf 1 0::bds 6 (Zae (bo false)::bds 9 (Zaf 3 0::Zae (i64 i)::Zaf 4 0::Zab::Zae (bo false)::Zae (i64 (Zad .i64 (k+1)))::bds 212 []))) (Qz9 ly t a c g) b))) False)) False) False) False) (K (Exit.exit 6) (Zab::Zab::Zae (i64 me)::Zae (Zan 31 (rowsN l))::Zab::Zab::Zae (i64 fr)::Zaf 0 0::Zaf 1 0::bds 6 (Zae (bo u)::bds 9 (Zaf 3 0::Zae (i64 i)::Zaf 4 0::Zab::Zae (bo f)::Zae (i64 k)::bds 212 []))) (Qz9 ly t a c g) b)):=by kernel_rfl
theorem AMd9 {α β:Type} {P:β→Prop} {f:β→α→β}:∀(l:List α) {b:β},(∀b a,a∈l→P b→P (f b a))→P b→P (l.foldl f b)
 | [],b,_,h=>h
 |x::r,b,hf,h=>AMd9 r (fun b a ha=>hf b a (Zbx _ ha)) (hf b x Zbv h)
def Asked (s:SideT) (me fr:Int) (b:GraT):Prop:=∃n∈s.ns,ANa9 s n=true∧∃a∈n.ak,a.pe=me∧usedS s.ns a.sl a.of n.fm=false∧b=newG fr n a
def GrInv (s:SideT) (me fr:Int) (g0:List GraT) (q:TabT):Prop:=(∀g∈g0,g∈q.gs)∧∀b∈q.gs,b∈g0∨(Asked s me fr b∧∀g∈g0,g.sl≠b.sl)
theorem AUi9 {s:SideT} {ly:LayT} {me fr:Int} {n:NearT} {a:AskT} {g0:List GraT} {q:TabT} (hn:n∈s.ns) (hh:ANa9 s n=true) (ha:a∈n.ak) (h:GrInv s me fr g0 q):GrInv s me fr g0 (AAr9 s ly me fr n q a):=by
 unfold AAr9;split
 ·exact h
 ·rename_i h0;split
  ·rename_i h1;rw [addSG,if_pos h1];obtain ⟨b1,b2⟩:=AXv9 (AKd9 h1).2.2.1;have hp:=AKg9 (fun x:GraT=>decide (x.sl>(newG fr n a).sl)) (newG fr n a) q.gs;simp only [Bool.not_eq_true,Zeo,bne_eq_false_iff_eq] at h0;refine ⟨fun g hg=>hp.mem_iff.2 (Zbx _ (h.1 g hg)),fun b hb=> ?_⟩;rcases Zbw.1 (hp.mem_iff.1 hb) with rfl|hb
   ·exact .inr ⟨⟨n,hn,hh,a,ha,h0.1,h0.2,rfl⟩,fun g hg=>b2 g (h.1 g hg)⟩
   ·exact h.2 b hb
  ·exact h
theorem AUj9 (s:SideT) (ly:LayT) (me fr:Int) (t:TabT):GrInv s me fr t.gs (AJe9 s ly me fr t):=by
 refine AMd9 (P:=GrInv s me fr t.gs) _ (fun q n hn h=> ?_) ⟨fun g hg=>hg,fun b hb=> .inl hb⟩;unfold AFw9;split
 ·rename_i hh;exact AMd9 (P:=GrInv s me fr t.gs) _ (fun q a ha h=>AUi9 hn hh ha h) h
 ·exact h
theorem BFg9 {ly:LayT} {t:TabT} {me:Int} {l:List NearT} {fr:Int} (h:newS ly t me l fr=true):GrInv (sideS ly me l fr) me fr ((AEc9 t fr).gs.map (AEm9 (sideS ly me l fr) fr)) (AGf9 ly t me l fr):=by
 rw [AGf9,if_pos h];exact AUj9 _ _ _ _ ⟨t.us,_,t.ak⟩
theorem CDd9 {ly:LayT} {t:TabT} {me:Int} {l:List NearT} {fr:Int} (h:newS ly t me l fr=true):∀n∈l,0≤n.fm∧n.fm<ly.no∧n.fm≠me∧0≤n.fr∧n.fr≤fr:=by
 have hv:=ACa9 (AEa9 h);rw [newS,Zai,Zai,Zai,Zcb] at h;exact AWq9 hv.1.2 h.2.2.2
theorem AUg9 {ly:LayT} {t:TabT} {me:Int} {l:List NearT} {fr:Int} (h:newS ly t me l fr=true) {x:NearT} (hx:x∈l) (hh:ANa9 (sideS ly me l fr) (filN ly x)=true):ASf9 x fr=true:=by
 have h1:=CDd9 h x hx;have h2:=(AWo9 h).2;have h3:(filN ly x).fr≥Zad Zbc (fr - 1):=of_decide_eq_true hh;have h4:(filN ly x).fr=x.fr:=rfl;rw [AAx9 (by omega) (by omega),h4] at h3;refine decide_eq_true ?_;rw [AAx9 (by omega) (by omega)];omega
def ndB (ly:LayT) (sl pe:Int) (n:NearT):Bool:=n.fm !=pe|| !AJs9 ly n sl
def ndF (ly:LayT) (g:GraT) (me fr:Int) (n:NearT):Bool:=n.fm==g.pe&&(AsksS ly n g.sl g.of me&&ASf9 n fr)
def ndU (ly:LayT) (g:GraT) (n:NearT):Bool:=n.fm==g.pe|| !UsesS ly n g.sl g.of (-1)
theorem wrNd1 {Ev:Env prog} {b:Ev.β} {Q:Exit→St Ev.β→Prop} (ly:LayT) (t a:TabT) (sl of me pe fr:Int) (l:List NearT) (u0:Bool) (i:Nat) (hl:l.length≤9223372036854775807) (hN:∀x∈l,AAy9 x)
 (hQ:∀k:Int,Q (.exit 2) ⟨tmNd me pe fr l (u0&&l.all (ndB ly sl pe)) (.d (i64 i)) (.ptr 3 0) (.d (i64 k)), [layB ly,tabB t,tabB a,cellB sl of],b⟩):
 WR Ev lpNd1 (l.length+1) ⟨tmNd me pe fr l (u0&&(l.take 0).all (ndB ly sl pe)) (.d (i64 i)) (.ptr 3 0) (.d (i64 (0:Nat))), [layB ly,tabB t,tabB a,cellB sl of],b⟩ Q:=by
 refine WR.scanL (X:=⟨TNa, [],wlW Ev,Ev.Y,false⟩) (k:=100) [2,3,4,6,7,8,15,18,19,20,23] mixed (CX.Ok.of CIq9 Zah) l (fun _=>false) (fun k=>tmNd me pe fr l (u0&&(l.take k).all (ndB ly sl pe)) (.d (i64 i)) (.ptr 3 0) (.d (i64 (k:Nat)))) (fun k=>tmNd me pe fr l (u0&&(l.take k).all (ndB ly sl pe)) (.d (i64 i)) (.ptr 3 0) (.d (i64 (k:Nat)))) [layB ly,tabB t,tabB a,cellB sl of] 2 (fun k x hk hx K k1 k2=> ?_) (fun K k1=> ?_) (fun h=> ?_) fun h i=>by simp at h
 ·refine Eq.mpr (rNd1 _ _ _ K ly t a sl of me pe fr l _ i k) ?_;have k2:=k2 rfl;have hok:=hN x (List.mem_of_getElem? hx);simp only [APx9 _ _ _ _ hx,←Bool.and_assoc] at k2;generalize (u0&&(l.take k).all (ndB ly sl pe))=u at k2 ⊢;rw [wrapN (by omega)];have key:∀u':Bool,u'=(u&&ndB ly sl pe x)→K .normal (tmNd me pe fr l u' (.d (i64 i)) (.ptr 3 0) (.d (i64 ((k+1:Nat):Int)))) [layB ly,tabB t,tabB a,cellB sl of] b:=by
   rintro _ rfl;exact k2
  refine (Zaz (by rw [ABm9];simp;omega) (Zaz (natI k) ⟨_,ABc9 hx,⟨_,_,_,_,rfl,⟨hok.1,⟨hok.2.1,rfl⟩⟩,(Zba (fun hu=>(Zaz (natI k) ⟨_,ABc9 hx,(Zba (fun c1=> ?_) fun c1=> ?_)⟩)) fun hu=> ?_)⟩⟩));all_goals first|exact k1|(refine key _ ?_;rw [ndB])
  all_goals (try rw [c1])
  all_goals (try rw [hu])
  all_goals (try simp)
 ·refine Eq.mpr (rNd1 _ _ _ K ly t a sl of me pe fr l _ i _) ?_;exact BIf.f (by rw [ABm9];simp) k1
 ·simp only [List.take_length];exact hQ _
def wlNd1 {β:Type}:WLT β:=fun cd tm hp b K=>∃(ly:LayT) (t a:TabT) (sl of me pe fr:Int) (l:List NearT) (u q:Bool) (i:Nat),cd= .loop lpNd1∧AAv9 [2,3,4,6,7,8,15,18,19,20,23] 0 tm=tmNd me pe fr l u (.d (i64 i)) (.ptr 3 0) (.d (i64 0))∧hp= [layB ly,tabB t,tabB a,cellB sl of]∧(l.length≤9223372036854775807∧(∀x∈l,AAy9 x)∧q=(u&&l.all (ndB ly sl pe)))∧
 ∀k:Int,K (.exit 2) (tmNd me pe fr l q (.d (i64 i)) (.ptr 3 0) (.d (i64 k))) [layB ly,tabB t,tabB a,cellB sl of] b
theorem BSm9 {Ev:Env prog} (c:Code) (tm:List AV) (hp:List Blk) (b:Ev.β) (K:Exit→List AV→List Blk→Ev.β→Prop) (h:wlNd1 c tm hp b K):W Ev c ⟨tm,hp,b⟩ (fun e s=>K e s.tm s.hp s.b):=by
 obtain ⟨ly,t,a,sl,of,me,pe,fr,l,u,q,i,rfl,htm,rfl,⟨hl,hN,rfl⟩,hK⟩:=h;refine W.cast (htm▸AAb9 _ tm 0) (Zbp _) ?_;have h1:=wrNd1 (Q:=fun e s=>K e s.tm s.hp s.b) (b:=b) ly t a sl of me pe fr l u i hl hN hK;rw [List.take_zero,List.all_nil,Bool.and_true] at h1;exact W.rounds h1
theorem wrNd3 {Ev:Env prog} {b:Ev.β} {Q:Exit→St Ev.β→Prop} (ly:LayT) (t a c:TabT) (g:GraT) (me fr:Int) (l:List NearT) (u0:Bool) (i:Nat) (hl:l.length≤9223372036854775807) (hN:∀x∈l,AAy9 x)
 (hQ:∀k:Int,Q (.exit 6) ⟨tmNe me fr l (u0&&l.all (ndU ly g)) (.d (i64 i)) (.ptr 4 0) (.d (bo (l.any (ndF ly g me fr)))) (.d (i64 k)), [layB ly,tabB t,tabB a,tabB c,graB g],b⟩):
 WR Ev lpNd3 (l.length+1) ⟨tmNe me fr l (u0&&(l.take 0).all (ndU ly g)) (.d (i64 i)) (.ptr 4 0) (.d (bo ((l.take 0).any (ndF ly g me fr)))) (.d (i64 (0:Nat))), [layB ly,tabB t,tabB a,tabB c,graB g],b⟩ Q:=by
 refine WR.scanL (X:=⟨TNb, [],wlW Ev,Ev.Y,false⟩) (k:=100) [2,3,6,7,8,15,25,26,27,29,30] mixed (CX.Ok.of CIp9 Zah) l (fun _=>false) (fun k=>tmNe me fr l (u0&&(l.take k).all (ndU ly g)) (.d (i64 i)) (.ptr 4 0) (.d (bo ((l.take k).any (ndF ly g me fr)))) (.d (i64 (k:Nat)))) (fun k=>tmNe me fr l (u0&&(l.take k).all (ndU ly g)) (.d (i64 i)) (.ptr 4 0) (.d (bo ((l.take k).any (ndF ly g me fr)))) (.d (i64 (k:Nat)))) [layB ly,tabB t,tabB a,tabB c,graB g] 6 (fun k x hk hx K k1 k2=> ?_) (fun K k1=> ?_) (fun h=> ?_) fun h i=>by simp at h
 ·refine Eq.mpr (rNd3 _ _ _ K ly t a c g me fr l _ _ i k) ?_;have k2:=k2 rfl;have hok:=hN x (List.mem_of_getElem? hx);simp only [APx9 _ _ _ _ hx,BXz9 _ _ _ _ hx,←Bool.and_assoc] at k2;generalize (u0&&(l.take k).all (ndU ly g))=u at k2 ⊢;generalize (l.take k).any (ndF ly g me fr)=f at k2 ⊢;rw [wrapN (by omega)];have key:∀u' f':Bool,u'=(u&&ndU ly g x)→f'=(f||ndF ly g me fr x)→K .normal (tmNe me fr l u' (.d (i64 i)) (.ptr 4 0) (.d (bo f')) (.d (i64 ((k+1:Nat):Int)))) [layB ly,tabB t,tabB a,tabB c,graB g] b:=by
   rintro _ _ rfl rfl;exact k2
  refine (Zaz (by rw [ABm9];simp;omega) (Zaz (natI k) ⟨_,ABc9 hx,⟨_,_,_,_,_,_,rfl,⟨hok.1,rfl⟩,(Zaz (natI k) ⟨_,ABc9 hx,⟨_,_,_,_,_,_,rfl,⟨hok.2.2,rfl⟩,(Zaz (natI k) ⟨_,ABc9 hx,⟨_,_,_,rfl,rfl,(Zba (fun hf=>(Zba (fun hu=>(Zaz (natI k) ⟨_,ABc9 hx,(Zba (fun c1=> ?_) fun c1=> ?_)⟩)) fun hu=> ?_)) fun hf=>(Zaz (natI k) ⟨_,ABc9 hx,(Zba (fun c1=>(Zba (fun c2=>(Zba (fun hu=>(Zaz (natI k) ⟨_,ABc9 hx,(Zaz c1 ?_)⟩)) fun hu=> ?_)) fun c2=>(Zba (fun hu=>(Zaz (natI k) ⟨_,ABc9 hx,(Zaz c1 ?_)⟩)) fun hu=> ?_))) fun c1=>(Zba (fun hu=>(Zaz (natI k) ⟨_,ABc9 hx,(BIf.f c1 ?_)⟩)) fun hu=> ?_))⟩))⟩⟩)⟩⟩)⟩⟩));all_goals (refine key _ _ ?_ ?_<;>first|rw [ndU]|rw [ndF])
  all_goals (try rw [c1])
  all_goals (try rw [c2])
  all_goals (try rw [hf])
  all_goals (try rw [hu])
  all_goals (try simp)
 ·refine Eq.mpr (rNd3 _ _ _ K ly t a c g me fr l _ _ i _) ?_;exact BIf.f (by rw [ABm9];simp) k1
 ·simp only [List.take_length];exact hQ _
def wlNd3 {β:Type}:WLT β:=fun cd tm hp b K=>∃(ly:LayT) (t a c:TabT) (g:GraT) (me fr:Int) (l:List NearT) (u q f:Bool) (i:Nat),cd= .loop lpNd3∧AAv9 [2,3,6,7,8,15,25,26,27,29,30] 0 tm=tmNe me fr l u (.d (i64 i)) (.ptr 4 0) (.d (bo false)) (.d (i64 0))∧hp= [layB ly,tabB t,tabB a,tabB c,graB g]∧(l.length≤9223372036854775807∧(∀x∈l,AAy9 x)∧q=(u&&l.all (ndU ly g))∧f=l.any (ndF ly g me fr))∧
 ∀k:Int,K (.exit 6) (tmNe me fr l q (.d (i64 i)) (.ptr 4 0) (.d (bo f)) (.d (i64 k))) [layB ly,tabB t,tabB a,tabB c,graB g] b
theorem BSk9 {Ev:Env prog} (c:Code) (tm:List AV) (hp:List Blk) (b:Ev.β) (K:Exit→List AV→List Blk→Ev.β→Prop) (h:wlNd3 c tm hp b K):W Ev c ⟨tm,hp,b⟩ (fun e s=>K e s.tm s.hp s.b):=by
 obtain ⟨ly,t,a,c,g,me,fr,l,u,q,f,i,rfl,htm,rfl,⟨hl,hN,rfl,rfl⟩,hK⟩:=h;refine W.cast (htm▸AAb9 _ tm 0) (Zbp _) ?_;have h1:=wrNd3 (Q:=fun e s=>K e s.tm s.hp s.b) (b:=b) ly t a c g me fr l u i hl hN hK;rw [List.take_zero,List.any_nil,List.all_nil,Bool.and_true] at h1;exact W.rounds h1
def TNc:List (Nat×(List AV→(AV→Prop)→Prop)):= [(21,BHq9),(22,cBusy)]
theorem CIo9:AAc9 prog TNc:=Zaj BAp9 (Zaj BXr9 Zak)
def TNd:List (Nat×(List AV→(AV→Prop)→Prop)):= [(24,cHad)]
theorem CIn9:AAc9 prog TNd:=Zaj CEs9 Zak
abbrev Qz34 (v0:Int) (v1:List NearT) (v2:Int) (v3:Int) (v4:Int):=Zab::Zab::Zae (i64 v0)::Zae (Zan 31 (rowsN v1))::Zae (i64 v2)::Zab::Zae (i64 v3)::Zaf 0 0::Zaf 1 0::bds 6 (Zae (bo false)::Zab::Zab::Zaf 2 0::Zae (i64 v4)::Zaf 3 0::Zab::Zab::Zae (i64 0)::bds 219 [])
abbrev Qz36 (v0:LayT) (v1:TabT) (v2:TabT):= [Blk.mk (Qz3 v0) false false 0,Blk.mk (Qz1 v1) false false 0,Blk.mk (Qz1 v2) false false 0]
theorem rNd0 (ly:LayT) (t a:TabT) (me pe fr:Int) (l:List NearT) (u:Bool) (i:Int):wpc prog ⟨TNc, [],wlNd1,y,false⟩ 100 lpNd0 (tmNd me pe fr l u (.d (i64 i)) .bad .bad) [layB ly,tabB t,tabB a] b (maskK 3 [2,3,4,6,7,8,15,18,19] K)=(BIf (decide (i<((Zaa (rowsA (Zdh a)):Nat):Int))) (BIf (true&&decide (0≤i)) (∃(x0:Int) (x1:Int) (x2:Int),(rowsA (Zdh a))[Zam i]? =some [i64 x0,i64 x1,i64 x2]∧∃(ly5:LayT) (l6:List NearT) (sl7:Int) (of8:Int) (me9:Int) (q10:Bool), [Zaq (Qz3 ly),Zae (Zan 31 (rowsN l)),Zaq [Zae (i64 x0),Zae (i64 x1)],Zae (i64 me)]= [Zaq (Qz3 ly5),Zae (Zan 31 (rowsN l6)),Zaq [Zae (i64 sl7),Zae (i64 of8)],Zae (i64 me9)]∧(Zaa l6≤9223372036854775807∧(∀(x:NearT),x∈l6→AAy9 x)∧q10=forS ly5 l6 sl7 of8 me9)∧∃(t11:TabT) (s12:Int) (q13:Bool), [Zaq (Qz1 t),Zae (i64 x0)]= [Zaq (Qz1 t11),Zae (i64 s12)]∧(Zaa (TabT.us t11)≤9223372036854775807∧Zaa (Zdb t11)≤9223372036854775807∧q13=BusyS t11 s12)∧BIf u (BIf (!q10) (BIf (!q13) (BIf (true&&decide (0≤i)) (∃(x14:Int) (x15:Int) (x16:Int),(rowsA (Zdh a))[Zam i]? =some [i64 x14,i64 x15,i64 x16]∧∃(ly19:LayT) (t20:TabT) (a21:TabT) (sl22:Int) (of23:Int) (me24:Int) (pe25:Int) (fr26:Int) (l27:List NearT) (u28:Bool) (q29:Bool) (i30:Nat),Zat lpNd1=Zat lpNd1∧(Zab::Zab::Zae (i64 me)::Zae (Zan 31 (rowsN l))::Zae (i64 pe)::Zab::Zae (i64 fr)::Zaf 0 0::Zaf 1 0::bds 6 (Zae (bo (x16==pe))::Zab::Zab::Zaf 2 0::Zae (i64 i)::Zaf 3 0::Zab::Zab::Zae (i64 0)::bds 219 []))=(Zab::Zab::Zae (i64 me24)::Zae (Zan 31 (rowsN l27))::Zae (i64 pe25)::Zab::Zae (i64 fr26)::Zaf 0 0::Zaf 1 0::bds 6 (Zae (bo u28)::Zab::Zab::Zaf 2 0::Zae (i64 (i30:Int))::Zaf 3 0::Zab::Zab::Zae (i64 0)::bds 219 []))∧(Qz15 ly t a x0 x1)=(Qz15 ly19 t20 a21 sl22 of23)∧(Zaa l27≤9223372036854775807∧(∀(x:NearT),x∈l27→AAy9 x)∧q29=(u28&&Zbk l27 (ndB ly19 sl22 pe25)))∧∀(k:Int),K .normal (Zab::Zab::Zae (i64 me24)::Zae (Zan 31 (rowsN l27))::Zae (i64 pe25)::Zab::Zae (i64 fr26)::Zaf 0 0::Zaf 1 0::bds 6 (Zae (bo q29)::Zab::Zab::Zaf 2 0::Zae (i64 (Zad .i64 ((i30:Int)+(1:Int))))::bds 223 [])) (Qz36 ly19 t20 a21) b) False) (∃(ly31:LayT) (t32:TabT) (a33:TabT) (sl34:Int) (of35:Int) (me36:Int) (pe37:Int) (fr38:Int) (l39:List NearT) (u40:Bool) (q41:Bool) (i42:Nat),Zat lpNd1=Zat lpNd1∧(Qz34 me l pe fr i)=(Zab::Zab::Zae (i64 me36)::Zae (Zan 31 (rowsN l39))::Zae (i64 pe37)::Zab::Zae (i64 fr38)::Zaf 0 0::Zaf 1 0::bds 6 (Zae (bo u40)::Zab::Zab::Zaf 2 0::Zae (i64 (i42:Int))::Zaf 3 0::Zab::Zab::Zae (i64 0)::bds 219 []))∧(Qz15 ly t a x0 x1)=(Qz15 ly31 t32 a33 sl34 of35)∧(Zaa l39≤9223372036854775807∧(∀(x:NearT),x∈l39→AAy9 x)∧q41=(u40&&Zbk l39 (ndB ly31 sl34 pe37)))∧∀(k:Int),K .normal (Zab::Zab::Zae (i64 me36)::Zae (Zan 31 (rowsN l39))::Zae (i64 pe37)::Zab::Zae (i64 fr38)::Zaf 0 0::Zaf 1 0::bds 6 (Zae (bo q41)::Zab::Zab::Zaf 2 0::Zae (i64 (Zad .i64 ((i42:Int)+(1:Int))))::bds 223 [])) (Qz36 ly31 t32 a33) b)) (∃(ly43:LayT) (t44:TabT) (a45:TabT) (sl46:Int) (of47:Int) (me48:Int) (pe49:Int) (fr50:Int) (l51:List NearT) (u52:Bool) (q53:Bool) (i54:Nat),Zat lpNd1=Zat lpNd1∧(Qz34 me l pe fr i)=(Zab::Zab::Zae (i64 me48)::Zae (Zan 31 (rowsN l51))::Zae (i64 pe49)::Zab::Zae (i64 fr50)::Zaf 0 0::Zaf 1 0::bds 6 (Zae (bo u52)::Zab::Zab::Zaf 2 0::Zae (i64 (i54:Int))::Zaf 3 0::Zab::Zab::Zae (i64 0)::bds 219 []))∧(Qz15 ly t a x0 x1)=(Qz15 ly43 t44 a45 sl46 of47)∧(Zaa l51≤9223372036854775807∧(∀(x:NearT),x∈l51→AAy9 x)∧q53=(u52&&Zbk l51 (ndB ly43 sl46 pe49)))∧∀(k:Int),K .normal (Zab::Zab::Zae (i64 me48)::Zae (Zan 31 (rowsN l51))::Zae (i64 pe49)::Zab::Zae (i64 fr50)::Zaf 0 0::Zaf 1 0::bds 6 (Zae (bo q53)::Zab::Zab::Zaf 2 0::Zae (i64 (Zad .i64 ((i54:Int)+(1:Int))))::bds 223 [])) (Qz36 ly43 t44 a45) b)) (∃(ly55:LayT) (t56:TabT) (a57:TabT) (sl58:Int) (of59:Int) (me60:Int) (pe61:Int) (fr62:Int) (l63:List NearT) (u64:Bool) (q65:Bool) (i66:Nat),Zat lpNd1=Zat lpNd1∧(Qz34 me l pe fr i)=(Zab::Zab::Zae (i64 me60)::Zae (Zan 31 (rowsN l63))::Zae (i64 pe61)::Zab::Zae (i64 fr62)::Zaf 0 0::Zaf 1 0::bds 6 (Zae (bo u64)::Zab::Zab::Zaf 2 0::Zae (i64 (i66:Int))::Zaf 3 0::Zab::Zab::Zae (i64 0)::bds 219 []))∧(Qz15 ly t a x0 x1)=(Qz15 ly55 t56 a57 sl58 of59)∧(Zaa l63≤9223372036854775807∧(∀(x:NearT),x∈l63→AAy9 x)∧q65=(u64&&Zbk l63 (ndB ly55 sl58 pe61)))∧∀(k:Int),K .normal (Zab::Zab::Zae (i64 me60)::Zae (Zan 31 (rowsN l63))::Zae (i64 pe61)::Zab::Zae (i64 fr62)::Zaf 0 0::Zaf 1 0::bds 6 (Zae (bo q65)::Zab::Zab::Zaf 2 0::Zae (i64 (Zad .i64 ((i66:Int)+(1:Int))))::bds 223 [])) (Qz36 ly55 t56 a57) b)) False) (K (Exit.exit 0) (Zab::Zab::Zae (i64 me)::Zae (Zan 31 (rowsN l))::Zae (i64 pe)::Zab::Zae (i64 fr)::Zaf 0 0::Zaf 1 0::bds 6 (Zae (bo u)::Zab::Zab::Zaf 2 0::Zae (i64 i)::bds 223 [])) (Qz36 ly t a) b)):=by kernel_rfl
abbrev Qz28 (v0:LayT) (v1:TabT) (v2:TabT) (v3:TabT):= [Blk.mk (Qz3 v0) false false 0,Blk.mk (Qz1 v1) false false 0,Blk.mk (Qz1 v2) false false 0,Blk.mk (Qz1 v3) false false 0]
theorem rNd2 (ly:LayT) (t a c:TabT) (me fr:Int) (l:List NearT) (u:Bool) (i:Int):wpc prog ⟨TNd, [],wlNd3,y,false⟩ 100 lpNd2 (tmNe me fr l u (.d (i64 i)) .bad .bad .bad) [layB ly,tabB t,tabB a,tabB c] b (maskK 4 [2,3,6,7,8,15,25,26] K)=(BIf (decide (i<((Zaa (rowsG (Zdb c)):Nat):Int))) (BIf (true&&decide (0≤i)) (∃(x0:Int) (x1:Int) (x2:Int) (x3:Int) (x4:Int),(rowsG (Zdb c))[Zam i]? =some (Qz41 x0 x1 x2 x3 x4)∧∃(t7:TabT) (sl8:Int) (of9:Int) (pe10:Int) (q11:Bool), [Zaq (Qz1 t),Zaq [Zae (i64 x0),Zae (i64 x1)],Zae (i64 x2)]= [Zaq (Qz1 t7),Zaq [Zae (i64 sl8),Zae (i64 of9)],Zae (i64 pe10)]∧(Zaa (Zdb t7)≤9223372036854775807∧q11=HadS t7 sl8 of9 pe10)∧BIf q11 (K .normal (Zab::Zab::Zae (i64 me)::Zae (Zan 31 (rowsN l))::Zab::Zab::Zae (i64 fr)::Zaf 0 0::Zaf 1 0::bds 6 (Zae (bo u)::bds 9 (Zaf 3 0::Zae (i64 (Zad .i64 (i+1)))::bds 216 []))) (Qz28 ly t a c) b) (∃(ly12:LayT) (t13:TabT) (a14:TabT) (c15:TabT) (g16:GraT) (me17:Int) (fr18:Int) (l19:List NearT) (u20:Bool) (q21:Bool) (f22:Bool) (i23:Nat),Zat lpNd3=Zat lpNd3∧(Zab::Zab::Zae (i64 me)::Zae (Zan 31 (rowsN l))::Zab::Zab::Zae (i64 fr)::Zaf 0 0::Zaf 1 0::bds 6 (Zae (bo u)::bds 9 (Zaf 3 0::Zae (i64 i)::Zaf 4 0::Zab::Zae (bo false)::Zae (i64 0)::bds 212 [])))=(Zab::Zab::Zae (i64 me17)::Zae (Zan 31 (rowsN l19))::Zab::Zab::Zae (i64 fr18)::Zaf 0 0::Zaf 1 0::bds 6 (Zae (bo u20)::bds 9 (Zaf 3 0::Zae (i64 (i23:Int))::Zaf 4 0::Zab::Zae (bo false)::Zae (i64 0)::bds 212 [])))∧ [Blk.mk (Qz3 ly) false false 0,Blk.mk (Qz1 t) false false 0,Blk.mk (Qz1 a) false false 0,Blk.mk (Qz1 c) false false 0,Blk.mk (Qz22 x0 x1 x2 x3 x4) false false 0]=(Qz9 ly12 t13 a14 c15 g16)∧(Zaa l19≤9223372036854775807∧(∀(x:NearT),x∈l19→AAy9 x)∧q21=(u20&&Zbk l19 (ndU ly12 g16))∧f22=List.any l19 (ndF ly12 g16 me17 fr18))∧∀(k:Int),BIf q21 (BIf f22 (BIf (GraT.st g16==fr18) (K .normal (Zab::Zab::Zae (i64 me17)::Zae (Zan 31 (rowsN l19))::Zab::Zab::Zae (i64 fr18)::Zaf 0 0::Zaf 1 0::bds 6 (Zae (bo (GraT.un g16==Zad .i64 (fr18+8)))::bds 9 (Zaf 3 0::Zae (i64 (Zad .i64 ((i23:Int)+(1:Int))))::bds 216 []))) (Qz28 ly12 t13 a14 c15) b) (K .normal (Zab::Zab::Zae (i64 me17)::Zae (Zan 31 (rowsN l19))::Zab::Zab::Zae (i64 fr18)::Zaf 0 0::Zaf 1 0::bds 6 (Zae (bo false)::bds 9 (Zaf 3 0::Zae (i64 (Zad .i64 ((i23:Int)+(1:Int))))::bds 216 []))) (Qz28 ly12 t13 a14 c15) b)) (K .normal (Zab::Zab::Zae (i64 me17)::Zae (Zan 31 (rowsN l19))::Zab::Zab::Zae (i64 fr18)::Zaf 0 0::Zaf 1 0::bds 6 (Zae (bo false)::bds 9 (Zaf 3 0::Zae (i64 (Zad .i64 ((i23:Int)+(1:Int))))::bds 216 []))) (Qz28 ly12 t13 a14 c15) b)) (K .normal (Zab::Zab::Zae (i64 me17)::Zae (Zan 31 (rowsN l19))::Zab::Zab::Zae (i64 fr18)::Zaf 0 0::Zaf 1 0::bds 6 (Zae (bo false)::bds 9 (Zaf 3 0::Zae (i64 (Zad .i64 ((i23:Int)+(1:Int))))::bds 216 []))) (Qz28 ly12 t13 a14 c15) b))) False) (K (Exit.exit 4) (Zab::Zab::Zae (i64 me)::Zae (Zan 31 (rowsN l))::Zab::Zab::Zae (i64 fr)::Zaf 0 0::Zaf 1 0::bds 6 (Zae (bo u)::bds 9 (Zaf 3 0::Zae (i64 i)::bds 216 []))) (Qz28 ly t a c) b)):=by kernel_rfl
def ndA (ly:LayT) (t:TabT) (me pe:Int) (l:List NearT) (x:AskT):Bool:= !forS ly l x.sl x.of me&&(!BusyS t x.sl&&(x.pe==pe&&l.all (ndB ly x.sl pe)))
def ndG (ly:LayT) (t:TabT) (me fr:Int) (l:List NearT) (g:GraT):Bool:=HadS t g.sl g.of g.pe||(l.all (ndU ly g)&&(l.any (ndF ly g me fr)&&(g.st==fr&&g.un==Zad Zbc (fr+8))))
theorem wrNd0 {Ev:Env prog} {b:Ev.β} {Q:Exit→St Ev.β→Prop} (ly:LayT) (t a:TabT) (me pe fr:Int) (l:List NearT) (u0:Bool) (hl:l.length≤9223372036854775807) (hN:∀x∈l,AAy9 x) (ht:TabMx t) (hc:a.ak.length≤9223372036854775807)
 (hQ:∀i:Int,Q (.exit 0) ⟨tmNd me pe fr l (u0&&a.ak.all (ndA ly t me pe l)) (.d (i64 i)) .bad .bad, [layB ly,tabB t,tabB a],b⟩):
 WR Ev lpNd0 (a.ak.length+1) ⟨tmNd me pe fr l (u0&&(a.ak.take 0).all (ndA ly t me pe l)) (.d (i64 (0:Nat))) .bad .bad, [layB ly,tabB t,tabB a],b⟩ Q:=by
 refine WR.scanL (X:=⟨TNc, [],wlNd1,Ev.Y,false⟩) (k:=100) [2,3,4,6,7,8,15,18,19] mixed (CX.Ok.ofWl CIo9 Zah BSm9) a.ak (fun _=>false) (fun i=>tmNd me pe fr l (u0&&(a.ak.take i).all (ndA ly t me pe l)) (.d (i64 (i:Nat))) .bad .bad) (fun i=>tmNd me pe fr l (u0&&(a.ak.take i).all (ndA ly t me pe l)) (.d (i64 (i:Nat))) .bad .bad) [layB ly,tabB t,tabB a] 0 (fun i x hi hx K k1 k2=> ?_) (fun K k1=> ?_) (fun h=> ?_) fun h i=>by simp at h
 ·refine Eq.mpr (rNd0 _ _ K ly t a me pe fr l _ i) ?_;have k2:=k2 rfl;simp only [APx9 _ _ _ _ hx,←Bool.and_assoc] at k2;generalize (u0&&(a.ak.take i).all (ndA ly t me pe l))=u at k2 ⊢;have key:∀u':Bool,u'=(u&&ndA ly t me pe l x)→K .normal (tmNd me pe fr l u' (.d (i64 ((i+1:Nat):Int))) .bad .bad) [layB ly,tabB t,tabB a] b:=by
   rintro _ rfl;exact k2
  refine (Zaz (by rw [AAn9];simp;omega) (Zaz (natI i) ⟨_,_,_,ABk9 hx,⟨_,_,_,_,_,_,rfl,⟨hl,⟨hN,rfl⟩⟩,⟨_,_,_,rfl,⟨ht.1,⟨ht.2.1,rfl⟩⟩,(Zba (fun hu=>(Zba (fun c1=>(Zba (fun c2=>(Zaz (natI i) ⟨_,_,_,ABk9 hx,⟨_,_,_,_,_,_,_,_,_,_,_,_,rfl,rfl,rfl,⟨hl,⟨hN,rfl⟩⟩,(fun k=> ?_)⟩⟩)) fun c2=>⟨_,_,_,_,_,_,_,_,_,_,_,_,rfl,rfl,rfl,⟨hl,⟨hN,rfl⟩⟩,(fun k=> ?_)⟩)) fun c1=>⟨_,_,_,_,_,_,_,_,_,_,_,_,rfl,rfl,rfl,⟨hl,⟨hN,rfl⟩⟩,(fun k=> ?_)⟩)) fun hu=>⟨_,_,_,_,_,_,_,_,_,_,_,_,rfl,rfl,rfl,⟨hl,⟨hN,rfl⟩⟩,(fun k=> ?_)⟩)⟩⟩⟩));all_goals (rw [wrapN (by omega)];refine key _ ?_;rw [ndA])
  all_goals (generalize l.all (ndB ly x.sl pe)=A1 at*;clear k2 key;cases u<;>simp_all)
 ·refine Eq.mpr (rNd0 _ _ K ly t a me pe fr l _ _) ?_;exact BIf.f (by rw [AAn9];simp) k1
 ·simp only [List.take_length];exact hQ _
theorem wrNd2 {Ev:Env prog} {b:Ev.β} {Q:Exit→St Ev.β→Prop} (ly:LayT) (t a c:TabT) (me fr:Int) (l:List NearT) (u0:Bool) (hl:l.length≤9223372036854775807) (hN:∀x∈l,AAy9 x) (ht:TabMx t) (hc:c.gs.length≤9223372036854775807)
 (hQ:∀i:Int,Q (.exit 4) ⟨tmNe me fr l (u0&&c.gs.all (ndG ly t me fr l)) (.d (i64 i)) .bad .bad .bad, [layB ly,tabB t,tabB a,tabB c],b⟩):
 WR Ev lpNd2 (c.gs.length+1) ⟨tmNe me fr l (u0&&(c.gs.take 0).all (ndG ly t me fr l)) (.d (i64 (0:Nat))) .bad .bad .bad, [layB ly,tabB t,tabB a,tabB c],b⟩ Q:=by
 refine WR.scanL (X:=⟨TNd, [],wlNd3,Ev.Y,false⟩) (k:=100) [2,3,6,7,8,15,25,26] mixed (CX.Ok.ofWl CIn9 Zah BSk9) c.gs (fun _=>false) (fun i=>tmNe me fr l (u0&&(c.gs.take i).all (ndG ly t me fr l)) (.d (i64 (i:Nat))) .bad .bad .bad) (fun i=>tmNe me fr l (u0&&(c.gs.take i).all (ndG ly t me fr l)) (.d (i64 (i:Nat))) .bad .bad .bad) [layB ly,tabB t,tabB a,tabB c] 4 (fun i x hi hx K k1 k2=> ?_) (fun K k1=> ?_) (fun h=> ?_) fun h i=>by simp at h
 ·refine Eq.mpr (rNd2 _ _ K ly t a c me fr l _ i) ?_;have k2:=k2 rfl;simp only [APx9 _ _ _ _ hx,←Bool.and_assoc] at k2;generalize (u0&&(c.gs.take i).all (ndG ly t me fr l))=u at k2 ⊢;have key:∀u':Bool,u'=(u&&ndG ly t me fr l x)→K .normal (tmNe me fr l u' (.d (i64 ((i+1:Nat):Int))) .bad .bad .bad) [layB ly,tabB t,tabB a,tabB c] b:=by
   rintro _ rfl;exact k2
  refine (Zaz (by rw [AAf9];simp;omega) (Zaz (natI i) ⟨_,_,_,_,_,ABj9 hx,⟨_,_,_,_,_,rfl,⟨ht.2.1,rfl⟩,(Zba (fun c1=> ?_) fun c1=>⟨_,_,_,_,_,_,_,_,_,_,_,_,rfl,rfl,rfl,⟨hl,⟨hN,⟨rfl,rfl⟩⟩⟩,(fun k=>(Zba (fun c2=>(Zba (fun c3=>(Zba (fun c4=> ?_) fun c4=> ?_)) fun c3=> ?_)) fun c2=> ?_))⟩)⟩⟩));all_goals (rw [wrapN (by omega)];refine key _ ?_;rw [ndG])
  all_goals (try generalize l.all (ndU ly x)=A1 at*)
  all_goals (try generalize l.any (ndF ly x me fr)=B1 at*)
  all_goals (clear k2 key;cases u<;>simp_all)
 ·refine Eq.mpr (rNd2 _ _ K ly t a c me fr l _ _) ?_;exact BIf.f (by rw [AAf9];simp) k1
 ·simp only [List.take_length];exact hQ _
def wlNd0 {β:Type}:WLT β:=fun cd tm hp b K=>∃(ly:LayT) (t a:TabT) (me pe fr:Int) (l:List NearT) (u q:Bool),cd= .loop lpNd0∧AAv9 [2,3,4,6,7,8,15,18,19] 0 tm=tmNd me pe fr l u (.d (i64 0)) .bad .bad∧hp= [layB ly,tabB t,tabB a]∧(l.length≤9223372036854775807∧(∀x∈l,AAy9 x)∧TabMx t∧a.ak.length≤9223372036854775807∧q=(u&&a.ak.all (ndA ly t me pe l)))∧
 ∀i:Int,K (.exit 0) (tmNd me pe fr l q (.d (i64 i)) .bad .bad) [layB ly,tabB t,tabB a] b
theorem BSn9 {Ev:Env prog} (c:Code) (tm:List AV) (hp:List Blk) (b:Ev.β) (K:Exit→List AV→List Blk→Ev.β→Prop) (h:wlNd0 c tm hp b K):W Ev c ⟨tm,hp,b⟩ (fun e s=>K e s.tm s.hp s.b):=by
 obtain ⟨ly,t,a,me,pe,fr,l,u,q,rfl,htm,rfl,⟨hl,hN,ht,hc,rfl⟩,hK⟩:=h;refine W.cast (htm▸AAb9 _ tm 0) (Zbp _) ?_;have h1:=wrNd0 (Q:=fun e s=>K e s.tm s.hp s.b) (b:=b) ly t a me pe fr l u hl hN ht hc hK;rw [List.take_zero,List.all_nil,Bool.and_true] at h1;exact W.rounds h1
def wlNd2 {β:Type}:WLT β:=fun cd tm hp b K=>∃(ly:LayT) (t a c:TabT) (me fr:Int) (l:List NearT) (u q:Bool),cd= .loop lpNd2∧AAv9 [2,3,6,7,8,15,25,26] 0 tm=tmNe me fr l u (.d (i64 0)) .bad .bad .bad∧hp= [layB ly,tabB t,tabB a,tabB c]∧(l.length≤9223372036854775807∧(∀x∈l,AAy9 x)∧TabMx t∧c.gs.length≤9223372036854775807∧q=(u&&c.gs.all (ndG ly t me fr l)))∧
 ∀i:Int,K (.exit 4) (tmNe me fr l q (.d (i64 i)) .bad .bad .bad) [layB ly,tabB t,tabB a,tabB c] b
theorem BSl9 {Ev:Env prog} (c:Code) (tm:List AV) (hp:List Blk) (b:Ev.β) (K:Exit→List AV→List Blk→Ev.β→Prop) (h:wlNd2 c tm hp b K):W Ev c ⟨tm,hp,b⟩ (fun e s=>K e s.tm s.hp s.b):=by
 obtain ⟨ly,t,a,c,me,fr,l,u,q,rfl,htm,rfl,⟨hl,hN,ht,hc,rfl⟩,hK⟩:=h;refine W.cast (htm▸AAb9 _ tm 0) (Zbp _) ?_;have h1:=wrNd2 (Q:=fun e s=>K e s.tm s.hp s.b) (b:=b) ly t a c me fr l u hl hN ht hc hK;rw [List.take_zero,List.all_nil,Bool.and_true] at h1;exact W.rounds h1
def wlNd {β:Type}:WLT β:=fun cd tm hp b K=>match cidO cd with
 |9=>wlNd0 cd tm hp b K
 |22=>wlNd2 cd tm hp b K
 |_=>False
theorem BZz9 {Ev:Env prog} (c:Code) (tm:List AV) (hp:List Blk) (b:Ev.β) (K:Exit→List AV→List Blk→Ev.β→Prop) (h:wlNd c tm hp b K):W Ev c ⟨tm,hp,b⟩ (fun e s=>K e s.tm s.hp s.b):=by
 unfold wlNd at h;split at h
 ·exact BSn9 c tm hp b K h
 ·exact BSl9 c tm hp b K h
 ·exact h.elim
def TL6:List (Nat×(List AV→(AV→Prop)→Prop)):= [(10,cHead),(11,CEn9),(19,BQg9),(12,cAsk),(13,CEt9)]
theorem CIr9:AAc9 prog TL6:=Zaj BXq9 (Zaj BNu9 (Zaj BGv9 (Zaj BRf9 (Zaj AXn9 Zak))))
abbrev Qz63 (v0:Int) (v1:List NearT) (v2:Int) (v3:Bool):=Zab::Zab::Zae (i64 v0)::Zae (Zan 31 (rowsN v1))::Zab::Zab::Zae (i64 v2)::Zaf 0 0::Zaf 1 0::bds 6 (Zae (bo v3)::bds 9 (Zaf 3 0::Zae (i64 0)::bds 216 []))
theorem CDi9 (ly:LayT) (t:TabT) (me:Int) (l:List NearT) (pe many fr:Int):wpFn prog ⟨TL6, [],wlNd,y,false⟩ 100 Tryz.f6 [layA ly,tabA t, .d (i64 me), .d (.sl 31 (rowsN l)), .d (i64 pe), .d (i64 many), .d (i64 fr)] b R=(([]:List AV)= []∧∃(t0:TabT) (l1:List NearT) (q2:Bool), [Zaq (Qz1 t),Zae (Zan 31 (rowsN l))]= [Zaq (Qz1 t0),Zae (Zan 31 (rowsN l1))]∧q2=AQt9 t0 l1∧∃(ly3:LayT) (t4:TabT) (me5:Int) (l6:List NearT) (fr7:Int) (q8:Bool),(Qz16 ly t me l fr)=(Qz16 ly3 t4 me5 l6 fr7)∧(TabMx t4∧Zaa l6≤9223372036854775807∧q8=newS ly3 t4 me5 l6 fr7)∧BIf (!q2) (R (.d (bo true)) b) (BIf (!q8) (R (.d (bo true)) b) (BIf (decide (many<(0:Int))) (R (.d (bo true)) b) (BIf (decide (many>(24:Int))) (R (.d (bo true)) b) (∃(ly9:LayT) (t10:TabT) (q11:TabT) (me12:Int) (l13:List NearT) (pe14:Int) (many15:Int) (fr16:Int), [Zaq (Qz3 ly),Zaq (Qz1 t),Zae (i64 me),Zae (Zan 31 (rowsN l)),Zae (i64 pe),Zae (i64 many),Zae (i64 fr)]= [Zaq (Qz3 ly9),Zaq (Qz1 t10),Zae (i64 me12),Zae (Zan 31 (rowsN l13)),Zae (i64 pe14),Zae (i64 many15),Zae (i64 fr16)]∧(TabOk t10∧Zaa l13<1000000∧(∀(x:NearT),x∈l13→AJr9 x)∧q11=askS ly9 t10 me12 l13 pe14 many15 fr16)∧∃(ly17:LayT) (t18:TabT) (a19:TabT) (me20:Int) (pe21:Int) (fr22:Int) (l23:List NearT) (u24:Bool) (q25:Bool),Zat lpNd0=Zat lpNd0∧(Zab::Zab::Zae (i64 me)::Zae (Zan 31 (rowsN l))::Zae (i64 pe)::Zab::Zae (i64 fr)::Zaf 0 0::Zaf 1 0::bds 6 (Zae (bo true)::Zab::Zab::Zaf 2 0::Zae (i64 0)::bds 223 []))=(Zab::Zab::Zae (i64 me20)::Zae (Zan 31 (rowsN l23))::Zae (i64 pe21)::Zab::Zae (i64 fr22)::Zaf 0 0::Zaf 1 0::bds 6 (Zae (bo u24)::Zab::Zab::Zaf 2 0::Zae (i64 0)::bds 223 []))∧(Qz36 ly t q11)=(Qz36 ly17 t18 a19)∧(Zaa l23≤9223372036854775807∧(∀(x:NearT),x∈l23→AAy9 x)∧TabMx t18∧Zaa (Zdh a19)≤9223372036854775807∧q25=(u24&&Zbk (Zdh a19) (ndA ly17 t18 me20 pe21 l23)))∧∀(i:Int),∃(ly26:LayT) (t27:TabT) (q28:TabT) (me29:Int) (l30:List NearT) (fr31:Int),(Qz16 ly17 t18 me20 l23 fr22)=(Qz16 ly26 t27 me29 l30 fr31)∧(TabOk t27∧Zaa l30<1000000∧(∀(x:NearT),x∈l30→ACf9 x)∧q28=AGf9 ly26 t27 me29 l30 fr31)∧∃(ly32:LayT) (t33:TabT) (a34:TabT) (c35:TabT) (me36:Int) (fr37:Int) (l38:List NearT) (u39:Bool) (q40:Bool),Zat lpNd2=Zat lpNd2∧(Qz63 me20 l23 fr22 q25)=(Qz63 me36 l38 fr37 u39)∧(Qz28 ly17 t18 a19 q28)=(Qz28 ly32 t33 a34 c35)∧(Zaa l38≤9223372036854775807∧(∀(x:NearT),x∈l38→AAy9 x)∧TabMx t33∧Zaa (Zdb c35)≤9223372036854775807∧q40=(u39&&Zbk (Zdb c35) (ndG ly32 t33 me36 fr37 l38)))∧∀(i:Int),R (.d (bo q40)) b))))):=by kernel_rfl
theorem AWf9 {ly:LayT} {me fr:Int}:∀ {l:List NearT} {o:Option NearT},(AAe9 o l).any (badN ly me fr)=false→(∀p,o=some p→∀n∈l,p.fm<n.fm)∧l.Pairwise (fun a b=>a.fm<b.fm)
 | [],o,h=>⟨fun _ _ n hn=>by (cases hn), .nil⟩
 | x::r,o,h=>by
  simp only [AAe9,List.any_cons,Zeo] at h;obtain ⟨h1,h2⟩:=h;obtain ⟨i1,i2⟩:=AWf9 h2;refine ⟨fun p hp n hn=> ?_,Zds.2 ⟨i1 x rfl,i2⟩⟩;subst hp;simp only [badN,Zeo,ARf9,decide_eq_false_iff_not] at h1;have h3:p.fm<x.fm:=by have:=h1.2.2.2.2.2;omega
  rcases Zbw.1 hn with rfl|hn
  ·exact h3
  ·have:=i1 x rfl n hn;omega
theorem BLw9 {ly:LayT} {t:TabT} {me:Int} {l:List NearT} {fr:Int} (h:newS ly t me l fr=true) {a b:NearT} (ha:a∈l) (hb:b∈l) (e:a.fm=b.fm):a=b:=by
 rw [newS,Zai,Zai,Zai,Zcb] at h;have hp:=(AWf9 h.2.2.2).2;clear h;induction l with
 |nil=>cases ha
 | cons x r ih=>
  rw [Zds] at hp;rcases Zbw.1 ha with ha1|ha1<;>rcases Zbw.1 hb with hb1|hb1
  ·rw [ha1,hb1]
  ·have:=hp.1 b hb1;rw [ha1] at e;omega
  ·have:=hp.1 a ha1;rw [hb1] at e;omega
  ·exact ih ha1 hb1 hp.2
theorem BDb9 {ly:LayT} {me:Int} {l:List NearT} {fr:Int} {x:NearT} (hx:x∈l):filN ly x∈(sideS ly me l fr).ns:=Zbg.2 ⟨x,hx,rfl⟩
theorem CDe9 {ly:LayT} {t:TabT} {me:Int} {l:List NearT} {pe many fr:Int} (h:newS ly t me l fr=true) (hm:0≤many∧many≤24):(askS ly t me l pe many fr).ak.all (ndA ly t me pe l)=true:=by
 have hl:LayIn ly:=ACa9 (AEa9 h);rcases BRi9 (pe:=pe) h hm with ⟨_,e⟩|⟨n,q,hf,e,hq,_⟩
 ·rw [e];rfl
 ·rw [e];refine Zbd.2 fun a ha=> ?_;obtain ⟨_,hps,hpe⟩:=hq.ok a ha;obtain ⟨p1,p2,p3⟩:=BPm9 (t:=t) hps;obtain ⟨x,hx,rfl,hxp,_⟩:=BPo9 h hf;have c1:forS ly l a.sl a.of me=false:=by
   rw [Bool.eq_false_iff];intro hc;obtain ⟨y,hy,hg⟩:=Zdv.1 hc;obtain ⟨g,hg,hk⟩:=Zdv.1 hg;rw [forG,Zai] at hk;have hk2:((g.sl==a.sl&&g.of==a.of)&& !(g.pe==(sideS ly me l fr).me))=true:=hk.2;refine absurd p3 ?_;rw [Bool.not_eq_false];exact Zdv.2 ⟨_,BDb9 hy,Zdv.2 ⟨g,by rw [CDt9 hl];exact Zdq.2 ⟨hg,hk.1⟩,hk2⟩⟩
  have c2:BusyS t a.sl=false:=p1;have c3:l.all (ndB ly a.sl pe)=true:=by
   refine Zbd.2 fun y hy=> ?_;rw [ndB,Bool.or_eq_true,Zcb,bne_iff_ne];by_cases hyp:y.fm=pe
   ·right;have:=BLw9 h hy hx (by rw [hyp,hxp]);subst this;obtain ⟨b1,b2⟩:=AXv9 p2;rw [AJs9,Zeo,Zfh,Zfh];refine ⟨fun z hz hzz=> ?_,fun z hz hzz=> ?_⟩
    ·rw [Zai,beq_iff_eq] at hzz;exact b1 z (by show z∈(filN ly y).us;rw [CDs9 hl];exact Zdq.2 ⟨hz,hzz.1⟩) hzz.2
    ·rw [Zai,beq_iff_eq] at hzz;exact b2 z (by show z∈(filN ly y).gs;rw [CDt9 hl];exact Zdq.2 ⟨hz,hzz.1⟩) hzz.2
   ·exact .inl hyp
  rw [ndA,c1,c2,c3,hpe];simp
theorem BLx9 {ly:LayT} {t:TabT} {me:Int} {l:List NearT} {fr:Int} (h:newS ly t me l fr=true):(AGf9 ly t me l fr).gs.all (ndG ly t me fr l)=true:=by
 have hl:LayIn ly:=ACa9 (AEa9 h);refine Zbd.2 fun b hb=> ?_;rw [ndG,Bool.or_eq_true];rcases (BFg9 h).2 b hb with hm|⟨⟨n,hn,hh,a,ha,hme,hu,rfl⟩,_⟩
 ·left;obtain ⟨g,hg,rfl⟩:=Zbg.1 hm;obtain ⟨e1,e2,e3,_⟩:=AOs9 (sideS ly me l fr) fr g;refine Zdv.2 ⟨g,(Zdq.1 hg).1, ?_⟩;rw [e1,e2,e3];simp
 ·right;obtain ⟨x,hx,rfl⟩:=Zbg.1 hn;obtain ⟨ha1,ha2⟩:=Zdq.1 (by rw [CHt9 hl] at ha;exact ha);have c1:l.all (ndU ly (newG fr (filN ly x) a))=true:=by
   refine Zbd.2 fun y hy=> ?_;rw [ndU,Bool.or_eq_true,Zcb];by_cases hyf:y.fm=x.fm
   ·exact .inl (beq_iff_eq.2 hyf)
   ·right;rw [UsesS,Zfh];intro z hz hzz;rw [Zai,Zai] at hzz;refine absurd hu ?_;rw [Bool.not_eq_false];refine Zdv.2 ⟨_,BDb9 hy, ?_⟩;have h3:((filN ly y).fm==(filN ly x).fm)=false:=beq_eq_false_iff_ne.2 hyf;rw [h3,Bool.not_false,Bool.true_and];exact Zdv.2 ⟨z,by rw [CDs9 hl];exact Zdq.2 ⟨hz,hzz.1⟩,hzz.2.1⟩
  have c2:l.any (ndF ly (newG fr (filN ly x) a) me fr)=true:=by
   refine Zdv.2 ⟨x,hx, ?_⟩;have h1:(x.fm==(newG fr (filN ly x) a).pe)=true:=beq_self_eq_true _;have h2:AsksS ly x (newG fr (filN ly x) a).sl (newG fr (filN ly x) a).of me=true:=by
    refine Zdv.2 ⟨a,ha1, ?_⟩;rw [show ABe9 a.sl a.of a.pe ly=true from ha2,←hme];simp [newG]
   rw [ndF,h1,h2,AUg9 h hx hh];rfl
  rw [c1,c2];simp [newG]
theorem CHd9 (ly:LayT) (t:TabT) (me:Int) (l:List NearT) (pe many fr:Int) (ht:TabMx t) (hl:l.length≤9223372036854775807):
 PCall prog 6 [layA ly,tabA t, .d (i64 me), .d (.sl 31 (rowsN l)), .d (i64 pe), .d (i64 many), .d (i64 fr)] (.d (bo true)):=by
 refine PCall.ofFnW (n:=100) (u:=false) (fun _=>wlNd) mixed CIr9 Zah (fun Ev=>BZz9) func6 (by rfl) (by rfl) fun Ev bb=> ?_;rw [CDi9];refine ⟨rfl,t,l,_,rfl,rfl,ly,t,me,l,fr,_,rfl,⟨ht,hl,rfl⟩,Zba (fun _=>rfl) fun c1=>Zba (fun _=>rfl) fun c2=>Zba (fun _=>rfl) fun c3=>Zba (fun _=>rfl) fun c4=> ?_⟩;have d1:AQt9 t l=true:=by simpa using c1
 have d2:newS ly t me l fr=true:=by simpa using c2
 have hm:0≤many∧many≤24:=by
  rw [decide_eq_false_iff_not] at c3 c4;omega
 obtain ⟨s1,s2,s3,s4⟩:=BTi9 d1;have hN:∀x∈l,AAy9 x:=fun x hx=>by obtain ⟨g1,g2,g3⟩:=s4 x hx;exact ⟨by omega,by omega,by omega⟩
 have v1:=BIv9 (pe:=pe) (many:=many) d2;have v2:=AUh9 d2;refine ⟨ly,t,askS ly t me l pe many fr,me,l,pe,many,fr,rfl,⟨s1,s2,s3,rfl⟩,ly,t,askS ly t me l pe many fr,me,pe,fr,l,true,true,rfl,rfl,rfl,⟨hl,hN,ht,by have:=v1.2.1.2;omega,by rw [CDe9 d2 hm];rfl⟩,fun i=> ?_⟩;refine ⟨ly,t,AGf9 ly t me l fr,me,l,fr,rfl,⟨s1,s2,s4,rfl⟩,ly,t,askS ly t me l pe many fr,AGf9 ly t me l fr,me,fr,l,true,true,rfl,rfl,rfl,⟨hl,hN,ht,by have:=v2.2.1.1;omega,by rw [BLx9 d2];rfl⟩,fun i=>rfl⟩
end Go.Proofs.YthcbbmnjikhihaaGreat.Am