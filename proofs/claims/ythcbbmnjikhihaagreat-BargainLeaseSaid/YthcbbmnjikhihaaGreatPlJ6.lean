import Derived.Test.YthcbbmnjikhihaaGreatPlJ5
import Derived.Test.YthcbbmnjikhihaaGreatPlJ2
import Derived.Test.YthcbbmnjikhihaaGreatRows
import Derived.ProofKit
set_option linter.unusedSimpArgs false
set_option linter.unusedVariables false
namespace Go.Proofs.YthcbbmnjikhihaaGreat.Am
open Go Go.RowKit Go.Proofs Tryz
open AV renaming agg → Zar, bad → Zab, d → Zae, ptr → Zaf
open BIf renaming of → Zba, t → Zaz
open Bool renaming and_eq_true → Zak, false_and → Zck, or_eq_true → Zdy, true_and → Zde
open AAb9 renaming cons → Zai, nil → Zaj
open Go.Code renaming loop → Zav
open Dv renaming sl → Zan
open GraT renaming un → Zdt
open Int renaming toNat → Zam
open Go.IntKind renaming i64 → Zbc, wrap → Zad
open LeVs renaming refl → Zfi
open List renaming any_eq_true → Zej, length → Zaa, mem_cons → Zcb, mem_cons_of_mem → Zcj, mem_cons_self → Zcc, mem_filter → Zeh, mem_map → Zbj
open NearT renaming ak → Zbq, gs → Zbm, us → Zbk
open AAl9 renaming nil → Zah
open TabT renaming ak → Zby, gs → Zbi, us → Zbv
variable {β:Type} (wl:WLT β) (y:ACw9 β) (b:β) (R:AV→β→Prop) (K:Exit→List AV→List Blk→β→Prop)
open AV (bad)
set_option linter.unusedVariables false
set_option maxRecDepth 20000
set_option maxHeartbeats 1000000
def TRv:List (Nat×(List AV→(AV→Prop)→Prop)):= [(20,BPc9),(69,cNb)]
theorem CHh9:AAb9 prog TRv:=Zai BFy9 (Zai CGu9 Zaj)
theorem BJv9 (ly:LayT) (t:TabT) (me:Int) (l:List NearT) (fr:Int):wpFn prog ⟨TRv, [],wl,y,false⟩ 100 f19 [layA ly,tabA t, .d (i64 me), .d (.sl 31 (rowsN l)), .d (i64 fr)] b R=(∃(t0:TabT) (ly1:LayT) (q2:Bool), [Zar (Qz1 t),Zar (Qz3 ly)]= [Zar (Qz1 t0),Zar (Qz3 ly1)]∧((Zaa (Zbv t0)≤9223372036854775807∧Zaa (Zbi t0)≤9223372036854775807∧Zaa (Zby t0)≤9223372036854775807)∧q2=AKj9 t0 ly1)∧BIf (!q2) (R (.d (bo false)) b) (BIf (decide (me<(0:Int))) (R (.d (bo false)) b) (BIf (decide (me≥LayT.no ly)) (R (.d (bo false)) b) (BIf (decide (fr<(0:Int))) (R (.d (bo false)) b) (BIf (decide (fr>(999999992:Int))) (R (.d (bo false)) b) (∃(ly3:LayT) (l4:List NearT) (me5:Int) (fr6:Int) (q7:Bool), [Zar (Qz3 ly),Zae (i64 me),Zae (Zan 31 (rowsN l)),Zae (i64 fr)]= [Zar (Qz3 ly3),Zae (i64 me5),Zae (Zan 31 (rowsN l4)),Zae (i64 fr6)]∧(Zaa l4≤9223372036854775807∧q7=nbS ly3 l4 me5 fr6)∧R (.d (bo q7)) b)))))):=by kernel_rfl
theorem BSx9 (ly:LayT) (t:TabT) (me:Int) (l:List NearT) (fr:Int) (ht:TabMx t) (hl:l.length≤9223372036854775807):PCall prog 19 [layA ly,tabA t, .d (i64 me), .d (.sl 31 (rowsN l)), .d (i64 fr)] (.d (bo (newS ly t me l fr))):=by
 refine PCall.ofFn (n:=100) (u:=false) mixed CHh9 Zah func19 (by rfl) (by rfl) fun Ev bb=> ?_;rw [BJv9];refine ⟨t,ly,_,rfl,⟨ht,rfl⟩,Zba (fun c1=> ?_) fun c1=> ?_⟩
 ·have h1:ACq9 t ly=false:=by rw [←AVm9];simpa using c1
  rw [newS,h1];rfl
 have h1:ACq9 t ly=true:=by rw [←AVm9];simpa using c1
 have hv:=ACb9 h1;have ew:Zad Zbc (ly.no - 1)=ly.no - 1:=AAt9 (by omega) (by omega);have e:newS ly t me l fr=(inN me (ly.no - 1)&&(inN fr 999999992&&nbS ly l me fr)):=by rw [newS,h1,ew];rfl
 rw [e];refine Zba (fun c2=> ?_) fun c2=>Zba (fun c3=> ?_) fun c3=>Zba (fun c4=> ?_) fun c4=>Zba (fun c5=> ?_) fun c5=>⟨ly,l,me,fr,_,rfl,⟨hl,rfl⟩, ?_⟩
 ·have:=of_decide_eq_true c2;rw [show inN me (ly.no - 1)=false by rw [inN,decide_eq_false (by omega)];rfl];rfl
 ·have:=of_decide_eq_true c3;rw [show inN me (ly.no - 1)=false by rw [inN,decide_eq_false (p:=me≤ly.no - 1) (by omega),Bool.and_false]];rfl
 ·have:=of_decide_eq_true c4;rw [show inN fr 999999992=false by rw [inN,decide_eq_false (by omega)];rfl,Zck,Bool.and_false]
 ·have:=of_decide_eq_true c5;rw [show inN fr 999999992=false by rw [inN,decide_eq_false (p:=fr≤999999992) (by omega),Bool.and_false],Zck,Bool.and_false]
 ·have a2:=of_decide_eq_false c2;have a3:=of_decide_eq_false c3;have a4:=of_decide_eq_false c4;have a5:=of_decide_eq_false c5;rw [show inN me (ly.no - 1)=true by rw [inN,decide_eq_true (by omega),decide_eq_true (by omega)];rfl,show inN fr 999999992=true by rw [inN,decide_eq_true (by omega),decide_eq_true (by omega)];rfl];rfl
def BPg9 (args:List AV) (K:AV→Prop):Prop:=∃(ly:LayT) (t:TabT) (me:Int) (l:List NearT) (fr:Int) (q:Bool),args= [layA ly,tabA t, .d (i64 me), .d (.sl 31 (rowsN l)), .d (i64 fr)]∧(TabMx t∧l.length≤9223372036854775807∧q=newS ly t me l fr)∧K (.d (bo q))
theorem BGd9:∀args K,BPg9 args K→∃x,PCall prog 19 args x∧K x:=by
 rintro _ K ⟨ly,t,me,l,fr,_,rfl,⟨ht,hl,rfl⟩,hk⟩;exact ⟨_,BSx9 ly t me l fr ht hl,hk⟩
def h0:TabT:=⟨[], [], []⟩
def hb:TabT:=⟨[], [], [⟨1,4,0⟩,⟨2,4,0⟩]⟩
def ha:TabT:=⟨[], [⟨1,4,1,1,9⟩,⟨2,4,1,1,9⟩], []⟩
def hc:TabT:=⟨[⟨1,4,0,1⟩,⟨2,4,0,1⟩], [], []⟩
def hd:TabT:=⟨[], [⟨1,4,1,1,11⟩,⟨2,4,1,1,11⟩], []⟩
def hl:LayT:=⟨2,4⟩
theorem heB:askS hl h0 1 [toldN 0 h0 0] 0 2 0=hb:=by kernel_rfl
theorem heA:ACd9 hl h0 0 [toldN 1 hb 1] 1=ha:=by kernel_rfl
theorem heC:takeS hl hb 1 [toldN 0 ha 2] 2=hc:=by kernel_rfl
theorem heD:ACd9 hl ha 0 [toldN 1 hc 3] 3=hd:=by kernel_rfl
def CDh9 (args:List AV) (K:AV→Prop):Prop:=∃(t:TabT) (me fr:Int) (q:List NearT),LeVs args [.d (i64 me),tabA t, .d (i64 fr)]∧q= [toldN me t fr]∧K (.d (.sl 31 (rowsN q)))
theorem BMr9:∀args K,CDh9 args K→∃x,PCall prog 32 args x∧K x:=by
 rintro args K ⟨t,me,fr,_,hl,rfl,hk⟩;obtain ⟨x,hx,hk⟩:=BWe9 _ _ ⟨t,me,fr,_,rfl,rfl,hk⟩;exact ⟨x,hx.leArgsV hl,hk⟩
def cAskV (args:List AV) (K:AV→Prop):Prop:=∃(ly:LayT) (t q:TabT) (me:Int) (l:List NearT) (pe many fr:Int),LeVs args [layA ly,tabA t, .d (i64 me), .d (.sl 31 (rowsN l)), .d (i64 pe), .d (i64 many), .d (i64 fr)]∧(TabOk t∧l.length<1000000∧(∀x∈l,ASq9 x)∧q=askS ly t me l pe many fr)∧K (tabA q)
theorem BWu9:∀args K,cAskV args K→∃x,PCall prog 12 args x∧K x:=by
 rintro args K ⟨ly,t,q,me,l,pe,many,fr,hl,h,hk⟩;obtain ⟨x,hx,hk⟩:=CDx9 _ _ ⟨ly,t,q,me,l,pe,many,fr,rfl,h,hk⟩;exact ⟨x,hx.leArgsV hl,hk⟩
def BGx9 (args:List AV) (K:AV→Prop):Prop:=∃(ly:LayT) (t q:TabT) (me:Int) (l:List NearT) (fr:Int),LeVs args [layA ly,tabA t, .d (i64 me), .d (.sl 31 (rowsN l)), .d (i64 fr)]∧(TabOk t∧l.length<1000000∧(∀x∈l,AFb9 x)∧q=ACd9 ly t me l fr)∧K (tabA q)
theorem ASi9:∀args K,BGx9 args K→∃x,PCall prog 13 args x∧K x:=by
 rintro args K ⟨ly,t,q,me,l,fr,hl,h,hk⟩;obtain ⟨x,hx,hk⟩:=AXg9 _ _ ⟨ly,t,q,me,l,fr,rfl,h,hk⟩;exact ⟨x,hx.leArgsV hl,hk⟩
def CDj9 (args:List AV) (K:AV→Prop):Prop:=∃(ly:LayT) (t q:TabT) (me:Int) (l:List NearT) (fr:Int),LeVs args [layA ly,tabA t, .d (i64 me), .d (.sl 31 (rowsN l)), .d (i64 fr)]∧(TabOk t∧l.length<1000000∧(∀x∈l,AFb9 x)∧q=takeS ly t me l fr)∧K (tabA q)
theorem BMu9:∀args K,CDj9 args K→∃x,PCall prog 14 args x∧K x:=by
 rintro args K ⟨ly,t,q,me,l,fr,hl,h,hk⟩;obtain ⟨x,hx,hk⟩:=BWh9 _ _ ⟨ly,t,q,me,l,fr,rfl,h,hk⟩;exact ⟨x,hx.leArgsV hl,hk⟩
def CDl9 (args:List AV) (K:AV→Prop):Prop:=∃(t s:TabT) (q:Bool),LeVs args [tabA t,tabA s]∧(TabLq t∧q=sameS t s)∧K (.d (bo q))
theorem BMw9:∀args K,CDl9 args K→∃x,PCall prog 15 args x∧K x:=by
 rintro args K ⟨t,s,q,hl,h,hk⟩;obtain ⟨x,hx,hk⟩:=BWi9 _ _ ⟨t,s,q,rfl,h,hk⟩;exact ⟨x,hx.leArgsV hl,hk⟩
def THd:List (Nat×(List AV→(AV→Prop)→Prop)):= [(12,cAskV),(13,BGx9),(14,CDj9),(15,CDl9),(32,CDh9)]
theorem CHt9:AAb9 prog THd:=Zai BWu9 (Zai ASi9 (Zai BMu9 (Zai BMw9 (Zai BMr9 Zaj))))
abbrev Qz31 (v0:TabT) (v1:List NearT):List AV:= [Zar [Zae (i64 2),Zae (i64 4)],Zar (Qz1 v0),Zae (i64 1),Zae (Zan 31 (rowsN v1)),Zae (i64 10)]
abbrev Qz46 (v0:Int) (v1:TabT) (v2:Int):List AV:= [Zae (i64 v0),Zar (Qz1 v1),Zae (i64 v2)]
abbrev Qz54 (v0:TabT):List AV:= [Zae (i64 0),Zar (Qz1 v0),Zae (i64 9)]
theorem CCl9:wpFn prog ⟨THd, [],wl,y,false⟩ 100 f10 [] b R=(∃(t0:TabT) (me1:Int) (fr2:Int) (q3:List NearT),LeVs [Zae (i64 0),Zar Qz4,Zae (i64 0)] (Qz46 me1 t0 fr2)∧q3= [toldN me1 t0 fr2]∧∃(ly4:LayT) (t5:TabT) (q6:TabT) (me7:Int) (l8:List NearT) (pe9:Int) (many10:Int) (fr11:Int),LeVs [Zar [Zae (i64 2),Zae (i64 4)],Zar Qz4,Zae (i64 1),Zae (Zan 31 (rowsN q3)),Zae (i64 0),Zae (i64 2),Zae (i64 0)] [Zar (Qz3 ly4),Zar (Qz1 t5),Zae (i64 me7),Zae (Zan 31 (rowsN l8)),Zae (i64 pe9),Zae (i64 many10),Zae (i64 fr11)]∧((Zaa (Zbv t5)<10000∧Zaa (Zbi t5)<10000∧Zaa (Zby t5)<10000)∧Zaa l8<1000000∧(∀(x:NearT),x∈l8→Zaa (Zbk x)<10000∧Zaa (Zbm x)<10000∧Zaa (Zbq x)<10000)∧q6=askS ly4 t5 me7 l8 pe9 many10 fr11)∧∃(t12:TabT) (me13:Int) (fr14:Int) (q15:List NearT),LeVs [Zae (i64 1),Zar (Qz1 q6),Zae (i64 1)] (Qz46 me13 t12 fr14)∧q15= [toldN me13 t12 fr14]∧∃(ly16:LayT) (t17:TabT) (q18:TabT) (me19:Int) (l20:List NearT) (fr21:Int),LeVs [Zar [Zae (i64 2),Zae (i64 4)],Zar Qz4,Zae (i64 0),Zae (Zan 31 (rowsN q15)),Zae (i64 1)] (Qz16 ly16 t17 me19 l20 fr21)∧((Zaa (Zbv t17)<10000∧Zaa (Zbi t17)<10000∧Zaa (Zby t17)<10000)∧Zaa l20<1000000∧(∀(x:NearT),x∈l20→Zaa (Zbk x)<1000000∧Zaa (Zbm x)<1000000∧Zaa (Zbq x)<1000000)∧q18=ACd9 ly16 t17 me19 l20 fr21)∧∃(t22:TabT) (me23:Int) (fr24:Int) (q25:List NearT),LeVs [Zae (i64 0),Zar (Qz1 q18),Zae (i64 2)] (Qz46 me23 t22 fr24)∧q25= [toldN me23 t22 fr24]∧∃(ly26:LayT) (t27:TabT) (q28:TabT) (me29:Int) (l30:List NearT) (fr31:Int),LeVs [Zar [Zae (i64 2),Zae (i64 4)],Zar (Qz1 q6),Zae (i64 1),Zae (Zan 31 (rowsN q25)),Zae (i64 2)] (Qz16 ly26 t27 me29 l30 fr31)∧((Zaa (Zbv t27)<10000∧Zaa (Zbi t27)<10000∧Zaa (Zby t27)<10000)∧Zaa l30<1000000∧(∀(x:NearT),x∈l30→Zaa (Zbk x)<1000000∧Zaa (Zbm x)<1000000∧Zaa (Zbq x)<1000000)∧q28=takeS ly26 t27 me29 l30 fr31)∧∃(t32:TabT) (me33:Int) (fr34:Int) (q35:List NearT),LeVs [Zae (i64 1),Zar (Qz1 q28),Zae (i64 3)] (Qz46 me33 t32 fr34)∧q35= [toldN me33 t32 fr34]∧∃(ly36:LayT) (t37:TabT) (q38:TabT) (me39:Int) (l40:List NearT) (fr41:Int),LeVs [Zar [Zae (i64 2),Zae (i64 4)],Zar (Qz1 q18),Zae (i64 0),Zae (Zan 31 (rowsN q35)),Zae (i64 3)] (Qz16 ly36 t37 me39 l40 fr41)∧((Zaa (Zbv t37)<10000∧Zaa (Zbi t37)<10000∧Zaa (Zby t37)<10000)∧Zaa l40<1000000∧(∀(x:NearT),x∈l40→Zaa (Zbk x)<1000000∧Zaa (Zbm x)<1000000∧Zaa (Zbq x)<1000000)∧q38=ACd9 ly36 t37 me39 l40 fr41)∧∃(t42:TabT) (s43:TabT) (q44:Bool),LeVs [Zar (Qz1 q6),Zar [Zae (Dv.s (.slice none 0 0)),Zae (Dv.s (.slice none 0 0)),AV.full 3 [[i64 1,i64 4,i64 0], [i64 2,i64 4,i64 0]]]] [Zar (Qz1 t42),Zar (Qz1 s43)]∧((Zaa (Zbv t42)<1000000∧Zaa (Zbi t42)<1000000∧Zaa (Zby t42)<1000000)∧q44=sameS t42 s43)∧BIf q44 (∃(t45:TabT) (s46:TabT) (q47:Bool),LeVs [Zar (Qz1 q18),Zar [Zae (Dv.s (.slice none 0 0)),AV.full 5 [[i64 1,i64 4,i64 1,i64 1,i64 9], [i64 2,i64 4,i64 1,i64 1,i64 9]],Zae (Dv.s (.slice none 0 0))]] [Zar (Qz1 t45),Zar (Qz1 s46)]∧((Zaa (Zbv t45)<1000000∧Zaa (Zbi t45)<1000000∧Zaa (Zby t45)<1000000)∧q47=sameS t45 s46)∧BIf q47 (∃(t48:TabT) (s49:TabT) (q50:Bool),LeVs [Zar (Qz1 q28),Zar [AV.full 4 [[i64 1,i64 4,i64 0,i64 1], [i64 2,i64 4,i64 0,i64 1]],Zae (Dv.s (.slice none 0 0)),Zae (Dv.s (.slice none 0 0))]] [Zar (Qz1 t48),Zar (Qz1 s49)]∧((Zaa (Zbv t48)<1000000∧Zaa (Zbi t48)<1000000∧Zaa (Zby t48)<1000000)∧q50=sameS t48 s49)∧BIf q50 (BIf (((Zaa (rowsG (Zbi q38)):Nat):Int)==(2:Int)) (∃(x51:Int) (x52:Int) (x53:Int) (x54:Int) (x55:Int),(rowsG (Zbi q38))[0]? =some (Qz32 x51 x52 x53 x54 x55)∧BIf (x55==(11:Int)) (∃(x58:Int) (x59:Int) (x60:Int) (x61:Int) (x62:Int),(rowsG (Zbi q38))[0]? =some (Qz32 x58 x59 x60 x61 x62)∧∃(t65:TabT) (me66:Int) (fr67:Int) (q68:List NearT),LeVs (Qz54 q18) (Qz46 me66 t65 fr67)∧q68= [toldN me66 t65 fr67]∧∃(ly69:LayT) (t70:TabT) (q71:TabT) (me72:Int) (l73:List NearT) (fr74:Int),LeVs (Qz31 q28 q68) (Qz16 ly69 t70 me72 l73 fr74)∧((Zaa (Zbv t70)<10000∧Zaa (Zbi t70)<10000∧Zaa (Zby t70)<10000)∧Zaa l73<1000000∧(∀(x:NearT),x∈l73→Zaa (Zbk x)<1000000∧Zaa (Zbm x)<1000000∧Zaa (Zbq x)<1000000)∧q71=takeS ly69 t70 me72 l73 fr74)∧BIf (x61==(1:Int)) (BIf (((Zaa (rowsU (Zbv q71)):Nat):Int)==(0:Int)) (∃(ly75:LayT) (t76:TabT) (q77:TabT) (me78:Int) (l79:List NearT) (pe80:Int) (many81:Int) (fr82:Int),LeVs [Zar [Zae (i64 2),Zae (i64 4)],Zar (Qz1 q6),Zae (i64 1),Zae (Dv.s (.slice none 0 0)),Zae (i64 0),Zae (i64 2),Zae (i64 0)] [Zar (Qz3 ly75),Zar (Qz1 t76),Zae (i64 me78),Zae (Zan 31 (rowsN l79)),Zae (i64 pe80),Zae (i64 many81),Zae (i64 fr82)]∧((Zaa (Zbv t76)<10000∧Zaa (Zbi t76)<10000∧Zaa (Zby t76)<10000)∧Zaa l79<1000000∧(∀(x:NearT),x∈l79→Zaa (Zbk x)<10000∧Zaa (Zbm x)<10000∧Zaa (Zbq x)<10000)∧q77=askS ly75 t76 me78 l79 pe80 many81 fr82)∧R (.d (bo (((Zaa (rowsA (Zby q77)):Nat):Int)==(0:Int)))) b) (R (.d (bo false)) b)) (R (.d (bo false)) b)) (∃(t83:TabT) (me84:Int) (fr85:Int) (q86:List NearT),LeVs (Qz54 q18) (Qz46 me84 t83 fr85)∧q86= [toldN me84 t83 fr85]∧∃(ly87:LayT) (t88:TabT) (q89:TabT) (me90:Int) (l91:List NearT) (fr92:Int),LeVs (Qz31 q28 q86) (Qz16 ly87 t88 me90 l91 fr92)∧((Zaa (Zbv t88)<10000∧Zaa (Zbi t88)<10000∧Zaa (Zby t88)<10000)∧Zaa l91<1000000∧(∀(x:NearT),x∈l91→Zaa (Zbk x)<1000000∧Zaa (Zbm x)<1000000∧Zaa (Zbq x)<1000000)∧q89=takeS ly87 t88 me90 l91 fr92)∧R (.d (bo false)) b)) (∃(t93:TabT) (me94:Int) (fr95:Int) (q96:List NearT),LeVs (Qz54 q18) (Qz46 me94 t93 fr95)∧q96= [toldN me94 t93 fr95]∧∃(ly97:LayT) (t98:TabT) (q99:TabT) (me100:Int) (l101:List NearT) (fr102:Int),LeVs (Qz31 q28 q96) (Qz16 ly97 t98 me100 l101 fr102)∧((Zaa (Zbv t98)<10000∧Zaa (Zbi t98)<10000∧Zaa (Zby t98)<10000)∧Zaa l101<1000000∧(∀(x:NearT),x∈l101→Zaa (Zbk x)<1000000∧Zaa (Zbm x)<1000000∧Zaa (Zbq x)<1000000)∧q99=takeS ly97 t98 me100 l101 fr102)∧R (.d (bo false)) b)) (∃(t103:TabT) (me104:Int) (fr105:Int) (q106:List NearT),LeVs (Qz54 q18) (Qz46 me104 t103 fr105)∧q106= [toldN me104 t103 fr105]∧∃(ly107:LayT) (t108:TabT) (q109:TabT) (me110:Int) (l111:List NearT) (fr112:Int),LeVs (Qz31 q28 q106) (Qz16 ly107 t108 me110 l111 fr112)∧((Zaa (Zbv t108)<10000∧Zaa (Zbi t108)<10000∧Zaa (Zby t108)<10000)∧Zaa l111<1000000∧(∀(x:NearT),x∈l111→Zaa (Zbk x)<1000000∧Zaa (Zbm x)<1000000∧Zaa (Zbq x)<1000000)∧q109=takeS ly107 t108 me110 l111 fr112)∧R (.d (bo false)) b)) (∃(t113:TabT) (me114:Int) (fr115:Int) (q116:List NearT),LeVs (Qz54 q18) (Qz46 me114 t113 fr115)∧q116= [toldN me114 t113 fr115]∧∃(ly117:LayT) (t118:TabT) (q119:TabT) (me120:Int) (l121:List NearT) (fr122:Int),LeVs (Qz31 q28 q116) (Qz16 ly117 t118 me120 l121 fr122)∧((Zaa (Zbv t118)<10000∧Zaa (Zbi t118)<10000∧Zaa (Zby t118)<10000)∧Zaa l121<1000000∧(∀(x:NearT),x∈l121→Zaa (Zbk x)<1000000∧Zaa (Zbm x)<1000000∧Zaa (Zbq x)<1000000)∧q119=takeS ly117 t118 me120 l121 fr122)∧R (.d (bo false)) b)) (∃(t123:TabT) (me124:Int) (fr125:Int) (q126:List NearT),LeVs (Qz54 q18) (Qz46 me124 t123 fr125)∧q126= [toldN me124 t123 fr125]∧∃(ly127:LayT) (t128:TabT) (q129:TabT) (me130:Int) (l131:List NearT) (fr132:Int),LeVs (Qz31 q28 q126) (Qz16 ly127 t128 me130 l131 fr132)∧((Zaa (Zbv t128)<10000∧Zaa (Zbi t128)<10000∧Zaa (Zby t128)<10000)∧Zaa l131<1000000∧(∀(x:NearT),x∈l131→Zaa (Zbk x)<1000000∧Zaa (Zbm x)<1000000∧Zaa (Zbq x)<1000000)∧q129=takeS ly127 t128 me130 l131 fr132)∧R (.d (bo false)) b)):=by kernel_rfl
theorem lv0:LeV (.agg [.d (.s (.slice none 0 0)), .d (.s (.slice none 0 0)), .d (.s (.slice none 0 0))]) (tabA h0):=LeV.aggs (.cons (.nil rfl) (.cons (.nil rfl) (.cons (.nil rfl) .nil)))
theorem okH {t:TabT} (h1:t.us.length<10) (h2:t.gs.length<10) (h3:t.ak.length<10):TabOk t:=⟨by omega,by omega,by omega⟩
theorem lqH {t:TabT} (h1:t.us.length<10) (h2:t.gs.length<10) (h3:t.ak.length<10):TabLq t:=⟨by omega,by omega,by omega⟩
theorem nearH {t:TabT} (h1:t.us.length<10) (h2:t.gs.length<10) (h3:t.ak.length<10) (me fr:Int):∀x∈ [toldN me t fr],AFb9 x:=fun x hx=>by
 rw [List.mem_singleton] at hx;subst hx;exact ⟨by simp only [toldN];omega,by simp only [toldN];omega,by simp only [toldN];omega⟩
theorem CGj9 {t:TabT} (h1:t.us.length<10) (h2:t.gs.length<10) (h3:t.ak.length<10) (me fr:Int):∀x∈ [toldN me t fr],ASq9 x:=fun x hx=>by
 rw [List.mem_singleton] at hx;subst hx;exact ⟨by simp only [toldN];omega,by simp only [toldN];omega,by simp only [toldN];omega⟩
theorem heE2:takeS hl hc 1 [toldN 0 ha 9] 10=h0:=by kernel_rfl
theorem heF2:askS hl hb 1 [] 0 2 0=h0:=by kernel_rfl
theorem CGd9:PCall prog 10 [] (.d (bo true)):=by
 refine PCall.ofFn (n:=100) (u:=false) mixed CHt9 Zah func10 (by rfl) (by rfl) fun Ev bb=> ?_;rw [CCl9];refine ⟨h0,0,0, [toldN 0 h0 0], .cons .rfl (.cons lv0 (.cons .rfl .nil)),rfl, ?_⟩;refine ⟨hl,h0,hb,1, [toldN 0 h0 0],0,2,0, .cons .rfl (.cons lv0 (Zfi _)),⟨okH (by decide) (by decide) (by decide),by decide,CGj9 (by decide) (by decide) (by decide) _ _,heB.symm⟩, ?_⟩;refine ⟨hb,1,1, [toldN 1 hb 1],Zfi _,rfl, ?_⟩;refine ⟨hl,h0,ha,0, [toldN 1 hb 1],1, .cons .rfl (.cons lv0 (Zfi _)),⟨okH (by decide) (by decide) (by decide),by decide,nearH (by decide) (by decide) (by decide) _ _,heA.symm⟩, ?_⟩;refine ⟨ha,0,2, [toldN 0 ha 2],Zfi _,rfl, ?_⟩;refine ⟨hl,hb,hc,1, [toldN 0 ha 2],2,Zfi _,⟨okH (by decide) (by decide) (by decide),by decide,nearH (by decide) (by decide) (by decide) _ _,heC.symm⟩, ?_⟩;refine ⟨hc,1,3, [toldN 1 hc 3],Zfi _,rfl, ?_⟩;refine ⟨hl,ha,hd,0, [toldN 1 hc 3],3,Zfi _,⟨okH (by decide) (by decide) (by decide),by decide,nearH (by decide) (by decide) (by decide) _ _,heD.symm⟩, ?_⟩;refine ⟨hb,hb,true, .cons .rfl (.cons (LeV.aggs (.cons (.nil rfl) (.cons (.nil rfl) (.cons .full .nil)))) .nil),⟨lqH (by decide) (by decide) (by decide),(ALa9 hb).symm⟩,Zaz rfl ?_⟩;refine ⟨ha,ha,true, .cons .rfl (.cons (LeV.aggs (.cons (.nil rfl) (.cons .full (.cons (.nil rfl) .nil)))) .nil),⟨lqH (by decide) (by decide) (by decide),(ALa9 ha).symm⟩,Zaz rfl ?_⟩;refine ⟨hc,hc,true, .cons .rfl (.cons (LeV.aggs (.cons .full (.cons (.nil rfl) (.cons (.nil rfl) .nil)))) .nil),⟨lqH (by decide) (by decide) (by decide),(ALa9 hc).symm⟩,Zaz rfl ?_⟩;refine Zaz (by decide) ⟨1,4,1,1,11,rfl,Zaz (by decide) ⟨1,4,1,1,11,rfl, ?_⟩⟩;refine ⟨ha,0,9, [toldN 0 ha 9],Zfi _,rfl, ?_⟩;refine ⟨hl,hc,h0,1, [toldN 0 ha 9],10,Zfi _,⟨okH (by decide) (by decide) (by decide),by decide,nearH (by decide) (by decide) (by decide) _ _,heE2.symm⟩,Zaz (by decide) (Zaz rfl ?_)⟩;exact ⟨hl,hb,h0,1, [],0,2,0, .cons .rfl (.cons .rfl (.cons .rfl (.cons (.nil rfl) (Zfi _)))),⟨okH (by decide) (by decide) (by decide),by decide,by simp,heF2.symm⟩,rfl⟩
def cHead (args:List AV) (K:AV→Prop):Prop:=args= []∧K (.d (bo true))
theorem BWq9:∀args K,cHead args K→∃x,PCall prog 10 args x∧K x:=by
 rintro _ K ⟨rfl,hk⟩;exact ⟨_,CGd9,hk⟩
theorem AJx9 {α:Type} (p:α→Bool) (g:α):∀l:List α,(insP p g l).Perm (g::l)
 | []=> .refl _
 | x::r=>by
  rw [insP];split
  ·exact .refl _
  ·exact ((AJx9 p g r).cons x).trans (List.Perm.swap g x r)
theorem ANl9 {α:Type} {sl:α→Int} {g:α}:∀ {l:List α},l.Pairwise (fun a b=>sl a<sl b)→(∀x∈l,sl x≠sl g)→(insP (fun x=>decide (sl x>sl g)) g l).Pairwise (fun a b=>sl a<sl b)
 | [],_,_=>List.pairwise_singleton _ _
 | x::r,h,hn=>by
  obtain ⟨h1,h2⟩:=List.pairwise_cons.1 h;have hx:=hn x (Zcc);rw [insP];split
  ·rename_i c;have c':=of_decide_eq_true c;refine List.pairwise_cons.2 ⟨fun y hy=> ?_,h⟩;rcases Zcb.1 hy with rfl|hy
   ·exact c'
   ·have:=h1 y hy;omega
  ·rename_i c;have c':¬sl x>sl g:=fun e=>c (decide_eq_true e);refine List.pairwise_cons.2 ⟨fun y hy=> ?_,ANl9 h2 fun y hy=>hn y (Zcj _ hy)⟩;rcases Zcb.1 ((AJx9 _ g r).mem_iff.1 hy) with rfl|hy
   ·omega
   ·exact h1 y hy
theorem BQe9 {t:TabT} {s:Int} (h:busyT t s=false):(∀x∈t.us,x.sl≠s)∧∀x∈t.gs,x.sl≠s:=by
 rw [busyT,Bool.or_eq_false_iff,List.any_eq_false,List.any_eq_false] at h;exact ⟨fun x hx e=>h.1 x hx (by simpa using e),fun x hx e=>h.2 x hx (by simpa using e)⟩
theorem AYg9 (t:TabT) (s:Int):((AJk9 t s).map (·.sl))=(t.ak.map (·.sl)).filter (fun x=> !(x==s)):=by
 rw [AJk9,List.filter_map];rfl
theorem BJq9 {u g a:List Int} {s:Int} (h:(u++g++a).Nodup) (hu:s∉u) (hg:s∉g):(s::(u++g++a.filter fun x=> !(x==s))).Nodup:=by
 refine List.nodup_cons.2 ⟨fun hm=> ?_, ?_⟩
 ·rw [List.mem_append,List.mem_append] at hm;rcases hm with (hm|hm)|hm
  ·exact hu hm
  ·exact hg hm
  ·have:=(Zeh.1 hm).2;simp at this
 ·exact h.sublist (List.Sublist.append (List.Sublist.refl _) List.filter_sublist)
theorem AEo9.addG {t:TabT} {ly:LayT} {g:GraT} (h:AEo9 t ly) (hg:graOk g ly=true) (hb:busyT t g.sl=false) (hn:t.us.length+t.gs.length<24):AEo9 ⟨t.us,insSG g t.gs,AJk9 t g.sl⟩ ly:=by
 obtain ⟨h1,⟨h2,h3⟩,h4,⟨g1,g2⟩,⟨a1,a2⟩,h5⟩:=h;obtain ⟨b1,b2⟩:=BQe9 hb;have hp:=AJx9 (fun x:GraT=>decide (x.sl>g.sl)) g t.gs;refine ⟨h1,⟨?_, ?_⟩,h4,⟨fun x hx=> ?_,ANl9 (sl:=fun x:GraT=>x.sl) g2 b2⟩,⟨fun x hx=>a1 x (Zeh.1 hx).1,a2.sublist List.filter_sublist⟩, ?_⟩
 ·have:=hp.length_eq;simp only [List.length_cons] at this;show t.us.length+(insP _ g t.gs).length≤24;omega
 ·exact Nat.le_trans (List.length_filter_le _ _) h3
 ·rcases Zcb.1 (hp.mem_iff.1 hx) with rfl|hx
  ·exact hg
  ·exact g1 x hx
 ·have h6:=BJq9 (s:=g.sl) h5 (fun hm=>by obtain ⟨x,hx,he⟩:=Zbj.1 hm;exact b1 x hx he) (fun hm=>by obtain ⟨x,hx,he⟩:=Zbj.1 hm;exact b2 x hx he);refine List.Perm.nodup (List.Perm.symm ?_) h6;show (t.us.map (·.sl)++(insP _ g t.gs).map (·.sl)++(AJk9 t g.sl).map (·.sl)).Perm _;rw [AYg9];have h7:((insP (fun x:GraT=>decide (x.sl>g.sl)) g t.gs).map (·.sl)).Perm (g.sl::t.gs.map (·.sl)):=hp.map _;refine ((List.Perm.append_left _ h7).append_right _).trans ?_;rw [List.append_assoc,List.append_assoc];exact List.perm_middle
theorem BAn9 {t:TabT} {ly:LayT} {g:GraT} (h:refEG t ly g=0):AEo9 (addSG t ly g) ly:=by
 obtain ⟨h1,h2,h3,h4⟩:=AJu9 h;rw [addSG,if_pos h];exact (AEq9.1 h1).addG h2 h3 h4
theorem APc9 {α β:Type} {P:β→Prop} {f:β→α→β} (hf:∀b a,P b→P (f b a)):∀(l:List α) {b:β},P b→P (l.foldl f b)
 | [],b,h=>h
 |x::r,b,h=>APc9 hf r (hf b x h)
theorem AOy9 {s:SideT} {ly:LayT} {me fr:Int} {n:NearT} (t:TabT) (a:AskT) (h:AEo9 t ly):AEo9 (AAr9 s ly me fr n t a) ly:=by
 unfold AAr9;split
 ·exact h
 ·split
  ·rename_i h1;exact BAn9 h1
  ·exact h
theorem AOz9 {s:SideT} {ly:LayT} {me fr:Int} {t:TabT} (h:AEo9 t ly):AEo9 (AIw9 s ly me fr t) ly:=
 APc9 (P:=fun t=>AEo9 t ly) (fun t n h=>by
  unfold AFx9;split
  ·exact APc9 (P:=fun t=>AEo9 t ly) (fun t a h=>AOy9 t a h) _ h
  ·exact h) _ h
def LayIn (ly:LayT):Prop:=(1≤ly.no∧ly.no≤60)∧(1≤ly.da∧ly.da≤60)
theorem AWq9 {ly:LayT} (h:LayIn ly) (sl of pe:Int):ABv9 sl of pe ly=ABf9 sl of pe ly:=by
 obtain ⟨h1,h2⟩:=h;rw [ABv9,AAt9 (by omega) (by omega),AAt9 (by omega) (by omega),Bool.eq_iff_iff];simp only [inN,ABf9,Zak,decide_eq_true_eq];omega
theorem BRv9 {ly:LayT} (h:LayIn ly) (x:UseT):useIs x ly=useOk x ly:=by
 rw [useIs,useOk,AWq9 h];rfl
theorem CGp9 {ly:LayT} (h:LayIn ly) (n:NearT):(filN ly n).us=n.us.filter fun x=>useOk x ly:=by
 show n.us.filter _=_;simp only [BRv9 h]
theorem CGq9 {ly:LayT} (h:LayIn ly) (n:NearT):(filN ly n).ak=n.ak.filter fun x=>ABf9 x.sl x.of x.pe ly:=by
 show n.ak.filter _=_;simp only [AWq9 h]
theorem BEd9 {fr:Int} (h:0≤fr∧fr≤999999992) (g:GraT):BEe9 fr g=⟨g.sl,g.of,g.pe,g.st,if fr+8>g.un then fr+8 else g.un⟩:=by
 rw [BEe9,AAt9 (by omega) (by omega)]
theorem BSp9 {s:SideT} {ly:LayT} {fr:Int} (h:0≤fr∧fr≤999999992) {g:GraT} (hg:graOk g ly=true):graOk (ACl9 s fr g) ly=true:=by
 unfold ACl9;split
 ·rw [BEd9 h];simp only [graOk,Zak,decide_eq_true_eq] at hg ⊢;refine ⟨hg.1,hg.2.1, ?_, ?_⟩<;>split<;>omega
 ·exact hg
theorem AHe9 (s:SideT) (fr:Int) (g:GraT):(ACl9 s fr g).sl=g.sl∧(ACl9 s fr g).of=g.of∧(ACl9 s fr g).pe=g.pe∧(ACl9 s fr g).st=g.st:=by
 unfold ACl9;split<;>exact ⟨rfl,rfl,rfl,rfl⟩
theorem AEo9.expired {t:TabT} {ly:LayT} {s:SideT} {fr:Int} (h:AEo9 t ly) (hf:0≤fr∧fr≤999999992):AEo9 ⟨t.us,(ACz9 t fr).gs.map (ACl9 s fr),t.ak⟩ ly:=by
 obtain ⟨h1,⟨h2,h3⟩,h4,⟨g1,g2⟩,h5,h6⟩:=h;have hsub:(ACz9 t fr).gs.Sublist t.gs:=List.filter_sublist;refine ⟨h1,⟨?_,h3⟩,h4,⟨fun x hx=> ?_, ?_⟩,h5, ?_⟩
 ·have:=hsub.length_le;simp only [List.length_map];omega
 ·obtain ⟨y,hy,rfl⟩:=Zbj.1 hx;exact BSp9 hf (g1 y (hsub.subset hy))
 ·rw [List.pairwise_map];refine (g2.sublist hsub).imp fun {a b} hab=> ?_;rw [(AHe9 s fr a).1,(AHe9 s fr b).1];exact hab
 ·show (t.us.map (·.sl)++((ACz9 t fr).gs.map (ACl9 s fr)).map (·.sl)++t.ak.map (·.sl)).Nodup;have e:((ACz9 t fr).gs.map (ACl9 s fr)).map (·.sl)=(ACz9 t fr).gs.map (·.sl):=by
   rw [List.map_map];exact List.map_congr_left fun x _=>(AHe9 s fr x).1
  rw [e];exact h6.sublist (List.Sublist.append (List.Sublist.append (List.Sublist.refl _) (hsub.map _)) (List.Sublist.refl _))
theorem AHj9 {ly:LayT} {t:TabT} {me:Int} {l:List NearT} {fr:Int} (h:newS ly t me l fr=true):AEo9 (ACd9 ly t me l fr) ly:=by
 rw [ACd9,if_pos h];exact AOz9 ((AEq9.1 (AFk9 h)).expired (ALk9 h).2)
theorem CCd9 {ly:LayT} {t:TabT} {me:Int} {l:List NearT} {fr pe:Int} {n:NearT} (h:newS ly t me l fr=true) (hf:sFind (sideS ly me l fr) pe=some n):∃x∈l,n=filN ly x∧x.fm=pe∧(0≤pe∧pe<ly.no)∧pe≠me:=by
 have hv:=ACb9 (AFk9 h);have hbad:(AAg9 none l).any (badN ly me fr)=false:=by
  rw [newS,Zak,Zak,Zak,Bool.not_eq_true'] at h;exact h.2.2.2
 have h1:=List.mem_of_find?_eq_some hf;have h2:(n.fm==pe)=true:=List.find?_some (p:=fun x:NearT=>x.fm==pe) hf;simp only [sideS,Zbj] at h1;obtain ⟨x,hx,rfl⟩:=h1;have h3:x.fm=pe:=by
  have h5:(filN ly x).fm=pe:=by simpa using h2
  exact h5
 have h4:=AWi9 hv.1.2 hbad x hx;rw [h3] at h4;exact ⟨x,hx,rfl,h3,⟨h4.1,h4.2.1⟩,h4.2.2.1⟩
theorem BSh9 {t:TabT} {l:List NearT} (h:AQk9 t l=true):TabOk t∧l.length<1000000∧(∀x∈l,ASq9 x)∧∀x∈l,AFb9 x:=by
 rw [AQk9,Zak,BFb9] at h;obtain ⟨h1,h2,h3,h4⟩:=h;rw [AUg9,Zak,Bool.not_eq_true',decide_eq_true_eq] at h1;have hl:l.length≤70:=by omega
 have h5:∀x∈l,x.us.length≤40∧x.gs.length≤40∧x.ak.length≤40:=fun x hx=>by
  have h6:=h1.1;rw [List.take_of_length_le hl,List.any_eq_false] at h6;have h7:=h6 x hx;simp only [manyN,Zdy,decide_eq_true_eq,not_or] at h7;omega
 refine ⟨⟨by omega,by omega,by omega⟩,by omega,fun x hx=> ?_,fun x hx=> ?_⟩
 ·have:=h5 x hx;exact ⟨by omega,by omega,by omega⟩
 ·have:=h5 x hx;exact ⟨by omega,by omega,by omega⟩
theorem APp9 {α:Type} (p:α→Bool) (l:List α) (k:Nat) (x:α) (h:l[k]? =some x):(l.take (k+1)).all p=((l.take k).all p&&p x):=by
 rw [List.take_add_one,h,List.all_append];simp
end Go.Proofs.YthcbbmnjikhihaaGreat.Am
namespace Go.Proofs.YthcbbmnjikhihaaGreat.Am
open Go Go.RowKit Go.Proofs Go.ChangeShapes Go.WideShapes Go.ChangeAt Tryz
open AV renaming agg → Zar, bad → Zab, d → Zae, ptr → Zaf
open BIf renaming of → Zba, t → Zaz
open Bool renaming and_eq_true → Zak, false_and → Zck, or_eq_true → Zdy, true_and → Zde
open AAb9 renaming cons → Zai, nil → Zaj
open Go.Code renaming loop → Zav
open Dv renaming sl → Zan
open GraT renaming un → Zdt
open Int renaming toNat → Zam
open Go.IntKind renaming i64 → Zbc, wrap → Zad
open LeVs renaming refl → Zfi
open List renaming any_eq_true → Zej, length → Zaa, mem_cons → Zcb, mem_cons_of_mem → Zcj, mem_cons_self → Zcc, mem_filter → Zeh, mem_map → Zbj
open NearT renaming ak → Zbq, gs → Zbm, us → Zbk
open AAl9 renaming nil → Zah
open TabT renaming ak → Zby, gs → Zbi, us → Zbv
open AV (bad)
set_option linter.unusedVariables false
set_option maxRecDepth 20000
theorem glob0 (S:Pr) (w:World):Glob S w:=fun g j v h=>by simp [AGq9] at h
theorem CEn9:ownKnob Tryz.prog.godebug=none:=by kernel_rfl
theorem BAo9:laidOutB prog=true:=by kernel_rfl
def APz9:List Ty:= [.int .i64, .int .i64, .int .i64, .int .i64]
def AUc9:List Ty:= [.int .i64, .int .i64, .int .i64, .int .i64, .int .i64]
def AVc9:List Ty:= [.int .i64, .int .i64, .int .i64]
theorem BZn9 {row:List Dv} (h:AGt9 APz9 row):∃x:UseT,row=useR x:=by
 unfold APz9 at h;obtain _|⟨h0,h⟩:=h
 obtain _|⟨h1,h⟩:=h
 obtain _|⟨h2,h⟩:=h
 obtain _|⟨h3,h⟩:=h
 cases h;cases h0;cases h1;cases h2;cases h3;exact ⟨⟨_,_,_,_⟩,rfl⟩
theorem CCn9 {row:List Dv} (h:AGt9 AUc9 row):∃x:GraT,row=graR x:=by
 unfold AUc9 at h;obtain _|⟨h0,h⟩:=h
 obtain _|⟨h1,h⟩:=h
 obtain _|⟨h2,h⟩:=h
 obtain _|⟨h3,h⟩:=h
 obtain _|⟨h4,h⟩:=h
 cases h;cases h0;cases h1;cases h2;cases h3;cases h4;exact ⟨⟨_,_,_,_,_⟩,rfl⟩
theorem CEa9 {row:List Dv} (h:AGt9 AVc9 row):∃x:AskT,row=askR x:=by
 unfold AVc9 at h;obtain _|⟨h0,h⟩:=h
 obtain _|⟨h1,h⟩:=h
 obtain _|⟨h2,h⟩:=h
 cases h;cases h0;cases h1;cases h2;exact ⟨⟨_,_,_⟩,rfl⟩
theorem BOe9 {x:Dv} (h:HasTy (.sl APz9) x):∃l:List UseT,x= .sl 4 (rowsU l)∧l.length≤maxLen∧True:=by
 cases h with
 | sl _ xs hl h=>
  have key:∀(xs:List (List Dv)),(∀row∈xs,AGt9 APz9 row)→∃l:List UseT,xs=rowsU l:=by
   intro xs;induction xs with
   |nil=>exact fun _=>⟨[],rfl⟩
   | cons row xs ih=>
    intro h;obtain ⟨p,rfl⟩:=ih fun r hr=>h r (Zcj _ hr);obtain ⟨x,rfl⟩:=BZn9 (h row (Zcc ..));exact ⟨x::p,rfl⟩
  obtain ⟨p,rfl⟩:=key xs h;exact ⟨p,rfl,by simpa [rowsU] using hl,trivial⟩
theorem BOy9 {x:Dv} (h:HasTy (.sl AUc9) x):∃l:List GraT,x= .sl 5 (rowsG l)∧l.length≤maxLen∧True:=by
 cases h with
 | sl _ xs hl h=>
  have key:∀(xs:List (List Dv)),(∀row∈xs,AGt9 AUc9 row)→∃l:List GraT,xs=rowsG l:=by
   intro xs;induction xs with
   |nil=>exact fun _=>⟨[],rfl⟩
   | cons row xs ih=>
    intro h;obtain ⟨p,rfl⟩:=ih fun r hr=>h r (Zcj _ hr);obtain ⟨x,rfl⟩:=CCn9 (h row (Zcc ..));exact ⟨x::p,rfl⟩
  obtain ⟨p,rfl⟩:=key xs h;exact ⟨p,rfl,by simpa [rowsG] using hl,trivial⟩
theorem BQg9 {x:Dv} (h:HasTy (.sl AVc9) x):∃l:List AskT,x= .sl 3 (rowsA l)∧l.length≤maxLen∧True:=by
 cases h with
 | sl _ xs hl h=>
  have key:∀(xs:List (List Dv)),(∀row∈xs,AGt9 AVc9 row)→∃l:List AskT,xs=rowsA l:=by
   intro xs;induction xs with
   |nil=>exact fun _=>⟨[],rfl⟩
   | cons row xs ih=>
    intro h;obtain ⟨p,rfl⟩:=ih fun r hr=>h r (Zcj _ hr);obtain ⟨x,rfl⟩:=CEa9 (h row (Zcc ..));exact ⟨x::p,rfl⟩
  obtain ⟨p,rfl⟩:=key xs h;exact ⟨p,rfl,by simpa [rowsA] using hl,trivial⟩
def ARd9:List Ty:= [.int .i64, .int .i64, .int .i64, .int .i64, .int .i64, .int .i64, .int .i64, .int .i64, .int .i64, .int .i64, .int .i64, .int .i64, .sl APz9, .sl AUc9, .sl AVc9, .sl APz9, .bool, .sl [.int .i64, .int .i64, .int .i64, .int .i64, .int .i64, .int .i64, .int .i64, .int .i64], .sl [.int .i64, .int .i64, .int .i64, .int .i64, .int .i64, .int .i64, .int .i64, .int .i64], .sl [.int .i64], .int .i64, .int .i64, .int .u64, .int .i64, .int .i64, .int .i64, .int .i64, .int .i64, .sl [.int .u8], .sl [.int .u64], .bool]
theorem BUd9 {row:List Dv} (h:AGt9 ARd9 row):∃x:NearT,row=nearR x:=by
 unfold ARd9 at h;obtain _|⟨h0,h⟩:=h
 obtain _|⟨h1,h⟩:=h
 obtain _|⟨h2,h⟩:=h
 obtain _|⟨h3,h⟩:=h
 obtain _|⟨h4,h⟩:=h
 obtain _|⟨h5,h⟩:=h
 obtain _|⟨h6,h⟩:=h
 obtain _|⟨h7,h⟩:=h
 obtain _|⟨h8,h⟩:=h
 obtain _|⟨h9,h⟩:=h
 obtain _|⟨h10,h⟩:=h
 obtain _|⟨h11,h⟩:=h
 obtain _|⟨h12,h⟩:=h
 obtain _|⟨h13,h⟩:=h
 obtain _|⟨h14,h⟩:=h
 obtain _|⟨h15,h⟩:=h
 obtain _|⟨h16,h⟩:=h
 obtain _|⟨h17,h⟩:=h
 obtain _|⟨h18,h⟩:=h
 obtain _|⟨h19,h⟩:=h
 obtain _|⟨h20,h⟩:=h
 obtain _|⟨h21,h⟩:=h
 obtain _|⟨h22,h⟩:=h
 obtain _|⟨h23,h⟩:=h
 obtain _|⟨h24,h⟩:=h
 obtain _|⟨h25,h⟩:=h
 obtain _|⟨h26,h⟩:=h
 obtain _|⟨h27,h⟩:=h
 obtain _|⟨h28,h⟩:=h
 obtain _|⟨h29,h⟩:=h
 obtain _|⟨h30,h⟩:=h
 cases h;obtain ⟨us,rfl,_⟩:=BOe9 h12;obtain ⟨gs,rfl,_⟩:=BOy9 h13;obtain ⟨ak,rfl,_⟩:=BQg9 h14;cases h0;cases h1;cases h2;cases h3;cases h4;cases h5;cases h6;cases h7;cases h8;cases h9;cases h10;cases h11;cases h15;cases h16;cases h17;cases h18;cases h19;cases h20;cases h21;cases h22;cases h23;cases h24;cases h25;cases h26;cases h27;cases h28;cases h29;cases h30;exact ⟨⟨_,_,us,gs,ak,_,_,_,_,_,_,_,_,_,_,_,_,_,_,_,_,_,_,_,_,_,_,_,_,_,_⟩,rfl⟩
theorem BUc9 {x:Dv} (h:HasTy (.sl ARd9) x):∃l:List NearT,x= .sl 31 (rowsN l)∧l.length≤maxLen∧True:=by
 cases h with
 | sl _ xs hl h=>
  have key:∀(xs:List (List Dv)),(∀row∈xs,AGt9 ARd9 row)→∃l:List NearT,xs=rowsN l:=by
   intro xs;induction xs with
   |nil=>exact fun _=>⟨[],rfl⟩
   | cons row xs ih=>
    intro h;obtain ⟨p,rfl⟩:=ih fun r hr=>h r (Zcj _ hr);obtain ⟨x,rfl⟩:=BUd9 (h row (Zcc ..));exact ⟨x::p,rfl⟩
  obtain ⟨p,rfl⟩:=key xs h;exact ⟨p,rfl,by simpa [rowsN] using hl,trivial⟩
theorem CAf9 {row:List Dv} (h:AGt9 [.int .i64, .int .i64] row):∃ly:LayT,Zar (row.map .d)=layA ly∧True:=by
 obtain _|⟨h0,h⟩:=h
 obtain _|⟨h1,h⟩:=h
 cases h;cases h0;cases h1;exact ⟨⟨_,_⟩,rfl,trivial⟩
theorem CAe9 {row:List Dv} (h:AGt9 [.sl APz9, .sl AUc9, .sl AVc9] row):∃t:TabT,Zar (row.map .d)=tabA t∧TabMx t:=by
 obtain _|⟨h0,h⟩:=h
 obtain _|⟨h1,h⟩:=h
 obtain _|⟨h2,h⟩:=h
 cases h;obtain ⟨us,rfl,l0,_⟩:=BOe9 h0;obtain ⟨gs,rfl,l1,_⟩:=BOy9 h1;obtain ⟨ak,rfl,l2,_⟩:=BQg9 h2;exact ⟨⟨us,gs,ak⟩,rfl,l0,l1,l2⟩
theorem CGo9:flat prog 20 23=some [.int .i64, .int .i64]:=by kernel_rfl
theorem CGn9:flat prog 20 28=some [.sl APz9, .sl AUc9, .sl AVc9]:=by kernel_rfl
theorem CGm9:flat prog 20 29=some [.sl ARd9]:=by kernel_rfl
end Go.Proofs.YthcbbmnjikhihaaGreat.Am
namespace Go.Proofs.YthcbbmnjikhihaaGreat.Am
open Go Go.RowKit Go.Proofs Tryz
open AV renaming agg → Zar, bad → Zab, d → Zae, ptr → Zaf
open BIf renaming of → Zba, t → Zaz
open Bool renaming and_eq_true → Zak, false_and → Zck, or_eq_true → Zdy, true_and → Zde
open AAb9 renaming cons → Zai, nil → Zaj
open Go.Code renaming loop → Zav
open Dv renaming sl → Zan
open GraT renaming un → Zdt
open Int renaming toNat → Zam
open Go.IntKind renaming i64 → Zbc, wrap → Zad
open LeVs renaming refl → Zfi
open List renaming any_eq_true → Zej, length → Zaa, mem_cons → Zcb, mem_cons_of_mem → Zcj, mem_cons_self → Zcc, mem_filter → Zeh, mem_map → Zbj
open NearT renaming ak → Zbq, gs → Zbm, us → Zbk
open AAl9 renaming nil → Zah
open TabT renaming ak → Zby, gs → Zbi, us → Zbv
variable {β:Type} (wl:WLT β) (y:ACw9 β) (b:β) (R:AV→β→Prop) (K:Exit→List AV→List Blk→β→Prop) (Q:β→Prop)
open AV (bad)
set_option linter.unusedVariables false
set_option maxRecDepth 20000
set_option maxHeartbeats 1000000
noncomputable def lpLs0:Code:=sub [1,1,1,1,1,1,0,1,2,3] (code Tryz.f9)
noncomputable def lpLs1:Code:=sub [1,1,1,1,1,1,0,1,2,3,1,0,2,1,1,0,1,2,3] (code Tryz.f9)
noncomputable def lpLs2:Code:=sub [1,1,1,1,1,1,1,0,1,2,3] (code Tryz.f9)
noncomputable def lpLs3:Code:=sub [1,1,1,1,1,1,1,1,0,1,2,3] (code Tryz.f9)
noncomputable def lpLs4:Code:=sub [1,1,1,1,1,1,1,1,1,0,1,2,3] (code Tryz.f9)
def tmLs (me fr:Int) (l:List NearT) (u:Bool) (i g f k:AV):List AV:= [.bad, .bad, .d (i64 me), .d (.sl 31 (rowsN l)), .d (i64 fr), .ptr 0 0, .ptr 1 0, .bad, .bad, .bad, .bad, .d (bo u), .bad, .bad, .ptr 2 0,i,g,f,k]++List.replicate 196 .bad
def tmLr (j:Nat) (me fr:Int) (l:List NearT) (u:Bool) (i:Int):List AV:= [.bad, .bad, .d (i64 me), .d (.sl 31 (rowsN l)), .d (i64 fr), .ptr 0 0, .ptr 1 0, .bad, .bad, .bad, .bad, .d (bo u), .bad, .bad, .ptr 2 0]++List.replicate (6+j) .bad++ [.d (i64 i)]++List.replicate (193 - j) .bad
def TLs:List (Nat×(List AV→(AV→Prop)→Prop)):= [(31,BPi9)]
theorem CHl9:AAb9 prog TLs:=Zai BGg9 Zaj
def TLh:List (Nat×(List AV→(AV→Prop)→Prop)):= [(24,cHad)]
theorem CHm9:AAb9 prog TLh:=Zai CDq9 Zaj
def TLg:List (Nat×(List AV→(AV→Prop)→Prop)):= [(13,BGx9)]
theorem CHn9:AAb9 prog TLg:=Zai ASi9 Zaj
abbrev Qz9 (v0:LayT) (v1:TabT) (v2:TabT) (v3:GraT):= [Blk.mk (Qz3 v0) false false 0,Blk.mk (Qz1 v1) false false 0,Blk.mk (Qz1 v2) false false 0,Blk.mk (Qz5 v3) false false 0]
abbrev Qz45 (v0:LayT) (v1:GraT) (v2:Int) (v3:List NearT) (v4:Int):List AV:= [Zar (Qz3 v0),Zar (Qz5 v1),Zae (i64 v2),Zae (Zan 31 (rowsN v3)),Zae (i64 v4)]
theorem rLs1 (ly:LayT) (t c:TabT) (g:GraT) (me fr:Int) (l:List NearT) (u f:Bool) (i k:Int):wpc prog ⟨TLs, [],wl,y,false⟩ 100 lpLs1 (tmLs me fr l u (.d (i64 i)) (.ptr 3 0) (.d (bo f)) (.d (i64 k))) [layB ly,tabB t,tabB c,graB g] b (maskK 4 [2,3,4,5,6,11,14,15,16,17,18] K)=(BIf (decide (k<((Zaa (rowsG (Zbi c)):Nat):Int))) (BIf (true&&decide (0≤k)) (∃(x0:Int) (x1:Int) (x2:Int) (x3:Int) (x4:Int),(rowsG (Zbi c))[Zam k]? =some (Qz32 x0 x1 x2 x3 x4)∧BIf (x0==GraT.sl g&&(x1==GraT.of g&&true)) (BIf (true&&decide (0≤k)) (∃(x7:Int) (x8:Int) (x9:Int) (x10:Int) (x11:Int),(rowsG (Zbi c))[Zam k]? =some (Qz32 x7 x8 x9 x10 x11)∧BIf (x9==GraT.pe g) (BIf (true&&decide (0≤k)) (∃(x14:Int) (x15:Int) (x16:Int) (x17:Int) (x18:Int),(rowsG (Zbi c))[Zam k]? =some (Qz32 x14 x15 x16 x17 x18)∧BIf f (BIf (x17==GraT.st g) (BIf (true&&decide (0≤k)) (∃(x21:Int) (x22:Int) (x23:Int) (x24:Int) (x25:Int),(rowsG (Zbi c))[Zam k]? =some (Qz32 x21 x22 x23 x24 x25)∧BIf (decide (x25>Zdt g)) (∃(ly28:LayT) (g29:GraT) (l30:List NearT) (me31:Int) (fr32:Int) (q33:Bool),(Qz45 ly g me l fr)=(Qz45 ly28 g29 me31 l30 fr32)∧(Zaa l30≤9223372036854775807∧(∀(x:NearT),x∈l30→Zaa (Zbk x)≤9223372036854775807∧Zaa (Zbm x)≤9223372036854775807∧Zaa (Zbq x)≤9223372036854775807)∧q33=List.any l30 (tellP ly28 g29 me31 fr32))∧BIf u (K .normal (Zab::Zab::Zae (i64 me)::Zae (Zan 31 (rowsN l))::Zae (i64 fr)::Zaf 0 0::Zaf 1 0::bds 4 (Zae (bo q33)::Zab::Zab::Zaf 2 0::Zae (i64 i)::Zaf 3 0::Zae (bo true)::Zae (i64 (Zad .i64 (k+1)))::bds 196 [])) (Qz9 ly t c g) b) (K .normal (Zab::Zab::Zae (i64 me)::Zae (Zan 31 (rowsN l))::Zae (i64 fr)::Zaf 0 0::Zaf 1 0::bds 4 (Zae (bo false)::Zab::Zab::Zaf 2 0::Zae (i64 i)::Zaf 3 0::Zae (bo true)::Zae (i64 (Zad .i64 (k+1)))::bds 196 [])) (Qz9 ly t c g) b)) (K .normal (Zab::Zab::Zae (i64 me)::Zae (Zan 31 (rowsN l))::Zae (i64 fr)::Zaf 0 0::Zaf 1 0::bds 4 (Zae (bo u)::Zab::Zab::Zaf 2 0::Zae (i64 i)::Zaf 3 0::Zae (bo true)::Zae (i64 (Zad .i64 (k+1)))::bds 196 [])) (Qz9 ly t c g) b)) False) (K .normal (Zab::Zab::Zae (i64 me)::Zae (Zan 31 (rowsN l))::Zae (i64 fr)::Zaf 0 0::Zaf 1 0::bds 4 (Zae (bo u)::Zab::Zab::Zaf 2 0::Zae (i64 i)::Zaf 3 0::Zae (bo true)::Zae (i64 (Zad .i64 (k+1)))::bds 196 [])) (Qz9 ly t c g) b)) (BIf (x17==GraT.st g) (BIf (true&&decide (0≤k)) (∃(x34:Int) (x35:Int) (x36:Int) (x37:Int) (x38:Int),(rowsG (Zbi c))[Zam k]? =some (Qz32 x34 x35 x36 x37 x38)∧BIf (x17==GraT.st g) (BIf (true&&decide (0≤k)) (∃(x41:Int) (x42:Int) (x43:Int) (x44:Int) (x45:Int),(rowsG (Zbi c))[Zam k]? =some (Qz32 x41 x42 x43 x44 x45)∧BIf (decide (x45>Zdt g)) (∃(ly48:LayT) (g49:GraT) (l50:List NearT) (me51:Int) (fr52:Int) (q53:Bool),(Qz45 ly g me l fr)=(Qz45 ly48 g49 me51 l50 fr52)∧(Zaa l50≤9223372036854775807∧(∀(x:NearT),x∈l50→Zaa (Zbk x)≤9223372036854775807∧Zaa (Zbm x)≤9223372036854775807∧Zaa (Zbq x)≤9223372036854775807)∧q53=List.any l50 (tellP ly48 g49 me51 fr52))∧BIf u (K .normal (Zab::Zab::Zae (i64 me)::Zae (Zan 31 (rowsN l))::Zae (i64 fr)::Zaf 0 0::Zaf 1 0::bds 4 (Zae (bo q53)::Zab::Zab::Zaf 2 0::Zae (i64 i)::Zaf 3 0::Zae (bo (decide (x38≥Zdt g)))::Zae (i64 (Zad .i64 (k+1)))::bds 196 [])) (Qz9 ly t c g) b) (K .normal (Zab::Zab::Zae (i64 me)::Zae (Zan 31 (rowsN l))::Zae (i64 fr)::Zaf 0 0::Zaf 1 0::bds 4 (Zae (bo false)::Zab::Zab::Zaf 2 0::Zae (i64 i)::Zaf 3 0::Zae (bo (decide (x38≥Zdt g)))::Zae (i64 (Zad .i64 (k+1)))::bds 196 [])) (Qz9 ly t c g) b)) (K .normal (Zab::Zab::Zae (i64 me)::Zae (Zan 31 (rowsN l))::Zae (i64 fr)::Zaf 0 0::Zaf 1 0::bds 4 (Zae (bo u)::Zab::Zab::Zaf 2 0::Zae (i64 i)::Zaf 3 0::Zae (bo (decide (x38≥Zdt g)))::Zae (i64 (Zad .i64 (k+1)))::bds 196 [])) (Qz9 ly t c g) b)) False) (K .normal (Zab::Zab::Zae (i64 me)::Zae (Zan 31 (rowsN l))::Zae (i64 fr)::Zaf 0 0::Zaf 1 0::bds 4 (Zae (bo u)::Zab::Zab::Zaf 2 0::Zae (i64 i)::Zaf 3 0::Zae (bo (decide (x38≥Zdt g)))::Zae (i64 (Zad .i64 (k+1)))::bds 196 [])) (Qz9 ly t c g) b)) False) (BIf (x17==GraT.st g) (BIf (true&&decide (0≤k)) (∃(x54:Int) (x55:Int) (x56:Int) (x57:Int) (x58:Int),(rowsG (Zbi c))[Zam k]? =some (Qz32 x54 x55 x56 x57 x58)∧BIf (decide (x58>Zdt g)) (∃(ly61:LayT) (g62:GraT) (l63:List NearT) (me64:Int) (fr65:Int) (q66:Bool),(Qz45 ly g me l fr)=(Qz45 ly61 g62 me64 l63 fr65)∧(Zaa l63≤9223372036854775807∧(∀(x:NearT),x∈l63→Zaa (Zbk x)≤9223372036854775807∧Zaa (Zbm x)≤9223372036854775807∧Zaa (Zbq x)≤9223372036854775807)∧q66=List.any l63 (tellP ly61 g62 me64 fr65))∧BIf u (K .normal (Zab::Zab::Zae (i64 me)::Zae (Zan 31 (rowsN l))::Zae (i64 fr)::Zaf 0 0::Zaf 1 0::bds 4 (Zae (bo q66)::Zab::Zab::Zaf 2 0::Zae (i64 i)::Zaf 3 0::Zae (bo false)::Zae (i64 (Zad .i64 (k+1)))::bds 196 [])) (Qz9 ly t c g) b) (K .normal (Zab::Zab::Zae (i64 me)::Zae (Zan 31 (rowsN l))::Zae (i64 fr)::Zaf 0 0::Zaf 1 0::bds 4 (Zae (bo false)::Zab::Zab::Zaf 2 0::Zae (i64 i)::Zaf 3 0::Zae (bo false)::Zae (i64 (Zad .i64 (k+1)))::bds 196 [])) (Qz9 ly t c g) b)) (K .normal (Zab::Zab::Zae (i64 me)::Zae (Zan 31 (rowsN l))::Zae (i64 fr)::Zaf 0 0::Zaf 1 0::bds 4 (Zae (bo u)::Zab::Zab::Zaf 2 0::Zae (i64 i)::Zaf 3 0::Zae (bo false)::Zae (i64 (Zad .i64 (k+1)))::bds 196 [])) (Qz9 ly t c g) b)) False) (K .normal (Zab::Zab::Zae (i64 me)::Zae (Zan 31 (rowsN l))::Zae (i64 fr)::Zaf 0 0::Zaf 1 0::bds 4 (Zae (bo u)::Zab::Zab::Zaf 2 0::Zae (i64 i)::Zaf 3 0::Zae (bo false)::Zae (i64 (Zad .i64 (k+1)))::bds 196 [])) (Qz9 ly t c g) b)))) False) (BIf f (K .normal (Zab::Zab::Zae (i64 me)::Zae (Zan 31 (rowsN l))::Zae (i64 fr)::Zaf 0 0::Zaf 1 0::bds 4 (Zae (bo u)::Zab::Zab::Zaf 2 0::Zae (i64 i)::Zaf 3 0::Zae (bo true)::Zae (i64 (Zad .i64 (k+1)))::bds 196 [])) (Qz9 ly t c g) b) (K .normal (Zab::Zab::Zae (i64 me)::Zae (Zan 31 (rowsN l))::Zae (i64 fr)::Zaf 0 0::Zaf 1 0::bds 4 (Zae (bo u)::Zab::Zab::Zaf 2 0::Zae (i64 i)::Zaf 3 0::Zae (bo false)::Zae (i64 (Zad .i64 (k+1)))::bds 196 [])) (Qz9 ly t c g) b))) False) (BIf f (K .normal (Zab::Zab::Zae (i64 me)::Zae (Zan 31 (rowsN l))::Zae (i64 fr)::Zaf 0 0::Zaf 1 0::bds 4 (Zae (bo u)::Zab::Zab::Zaf 2 0::Zae (i64 i)::Zaf 3 0::Zae (bo true)::Zae (i64 (Zad .i64 (k+1)))::bds 196 [])) (Qz9 ly t c g) b) (K .normal (Zab::Zab::Zae (i64 me)::Zae (Zan 31 (rowsN l))::Zae (i64 fr)::Zaf 0 0::Zaf 1 0::bds 4 (Zae (bo u)::Zab::Zab::Zaf 2 0::Zae (i64 i)::Zaf 3 0::Zae (bo false)::Zae (i64 (Zad .i64 (k+1)))::bds 196 [])) (Qz9 ly t c g) b))) False) (K (Exit.exit 2) (Zab::Zab::Zae (i64 me)::Zae (Zan 31 (rowsN l))::Zae (i64 fr)::Zaf 0 0::Zaf 1 0::bds 4 (Zae (bo u)::Zab::Zab::Zaf 2 0::Zae (i64 i)::Zaf 3 0::Zae (bo f)::Zae (i64 k)::bds 196 [])) (Qz9 ly t c g) b)):=by kernel_rfl
abbrev Qz12 (v0:LayT) (v1:TabT) (v2:TabT):= [Blk.mk (Qz3 v0) false false 0,Blk.mk (Qz1 v1) false false 0,Blk.mk (Qz1 v2) false false 0]
theorem rLs2 (ly:LayT) (t c:TabT) (me fr:Int) (l:List NearT) (u:Bool) (i:Int):wpc prog ⟨[], [],wl,y,false⟩ 100 lpLs2 (tmLr 0 me fr l u i) [layB ly,tabB t,tabB c] b (maskK 3 [2,3,4,5,6,11,14,21] K)=(BIf (decide (i<((Zaa (rowsG (Zbi c)):Nat):Int))) (BIf u (BIf (true&&decide (0≤i)) (∃(x0:Int) (x1:Int) (x2:Int) (x3:Int) (x4:Int),(rowsG (Zbi c))[Zam i]? =some (Qz32 x0 x1 x2 x3 x4)∧K .normal (Zab::Zab::Zae (i64 me)::Zae (Zan 31 (rowsN l))::Zae (i64 fr)::Zaf 0 0::Zaf 1 0::bds 4 (Zae (bo (decide (x4≥fr)))::Zab::Zab::Zaf 2 0::bds 6 (Zae (i64 (Zad .i64 (i+1)))::bds 193 []))) (Qz12 ly t c) b) False) (K .normal (Zab::Zab::Zae (i64 me)::Zae (Zan 31 (rowsN l))::Zae (i64 fr)::Zaf 0 0::Zaf 1 0::bds 4 (Zae (bo false)::Zab::Zab::Zaf 2 0::bds 6 (Zae (i64 (Zad .i64 (i+1)))::bds 193 []))) (Qz12 ly t c) b)) (K (Exit.exit 4) (Zab::Zab::Zae (i64 me)::Zae (Zan 31 (rowsN l))::Zae (i64 fr)::Zaf 0 0::Zaf 1 0::bds 4 (Zae (bo u)::Zab::Zab::Zaf 2 0::bds 6 (Zae (i64 i)::bds 193 []))) (Qz12 ly t c) b)):=by kernel_rfl
theorem rLs3 (ly:LayT) (t c:TabT) (me fr:Int) (l:List NearT) (u:Bool) (i:Int):wpc prog ⟨TLg, [],wl,y,false⟩ 100 lpLs3 (tmLr 1 me fr l u i) [layB ly,tabB t,tabB c] b (maskK 3 [2,3,4,5,6,11,14,22] K)=(BIf (decide (i≤(9:Int))) (∃(ly0:LayT) (t1:TabT) (q2:TabT) (me3:Int) (l4:List NearT) (fr5:Int),LeVs [Zar (Qz3 ly),Zar (Qz1 c),Zae (i64 me),Zae (Dv.s (.slice none 0 0)),Zae (i64 (Zad .i64 (fr+i)))] (Qz16 ly0 t1 me3 l4 fr5)∧((Zaa (Zbv t1)<10000∧Zaa (Zbi t1)<10000∧Zaa (Zby t1)<10000)∧Zaa l4<1000000∧(∀(x:NearT),x∈l4→Zaa (Zbk x)<1000000∧Zaa (Zbm x)<1000000∧Zaa (Zbq x)<1000000)∧q2=ACd9 ly0 t1 me3 l4 fr5)∧K .normal (Zab::Zab::Zae (i64 me)::Zae (Zan 31 (rowsN l))::Zae (i64 fr)::Zaf 0 0::Zaf 1 0::bds 4 (Zae (bo u)::Zab::Zab::Zaf 2 0::bds 7 (Zae (i64 (Zad .i64 (i+1)))::bds 192 []))) (Qz12 ly t q2) b) (K (Exit.exit 6) (Zab::Zab::Zae (i64 me)::Zae (Zan 31 (rowsN l))::Zae (i64 fr)::Zaf 0 0::Zaf 1 0::bds 4 (Zae (bo u)::Zab::Zab::Zaf 2 0::bds 7 (Zae (i64 i)::bds 192 []))) (Qz12 ly t c) b)):=by kernel_rfl
theorem rLs4 (ly:LayT) (t c:TabT) (me fr:Int) (l:List NearT) (u:Bool) (i:Int):wpc prog ⟨TLh, [],wl,y,false⟩ 100 lpLs4 (tmLr 2 me fr l u i) [layB ly,tabB t,tabB c] b (maskK 3 [2,3,4,5,6,11,14,23] K)=(BIf (decide (i<((Zaa (rowsG (Zbi c)):Nat):Int))) (BIf (true&&decide (0≤i)) (∃(x0:Int) (x1:Int) (x2:Int) (x3:Int) (x4:Int),(rowsG (Zbi c))[Zam i]? =some (Qz32 x0 x1 x2 x3 x4)∧BIf (true&&decide (0≤i)) (∃(x7:Int) (x8:Int) (x9:Int) (x10:Int) (x11:Int),(rowsG (Zbi c))[Zam i]? =some (Qz32 x7 x8 x9 x10 x11)∧∃(t14:TabT) (sl15:Int) (of16:Int) (pe17:Int) (q18:Bool), [Zar (Qz1 t),Zar [Zae (i64 x0),Zae (i64 x1)],Zae (i64 x9)]= [Zar (Qz1 t14),Zar [Zae (i64 sl15),Zae (i64 of16)],Zae (i64 pe17)]∧(Zaa (Zbi t14)≤9223372036854775807∧q18=HadS t14 sl15 of16 pe17)∧BIf u (BIf q18 (BIf (true&&decide (0≤i)) (∃(x19:Int) (x20:Int) (x21:Int) (x22:Int) (x23:Int),(rowsG (Zbi c))[Zam i]? =some (Qz32 x19 x20 x21 x22 x23)∧K .normal (Zab::Zab::Zae (i64 me)::Zae (Zan 31 (rowsN l))::Zae (i64 fr)::Zaf 0 0::Zaf 1 0::bds 4 (Zae (bo (decide (x23>Zad .i64 (fr+8))))::Zab::Zab::Zaf 2 0::bds 8 (Zae (i64 (Zad .i64 (i+1)))::bds 191 []))) (Qz12 ly t c) b) False) (K .normal (Zab::Zab::Zae (i64 me)::Zae (Zan 31 (rowsN l))::Zae (i64 fr)::Zaf 0 0::Zaf 1 0::bds 4 (Zae (bo false)::Zab::Zab::Zaf 2 0::bds 8 (Zae (i64 (Zad .i64 (i+1)))::bds 191 []))) (Qz12 ly t c) b)) (K .normal (Zab::Zab::Zae (i64 me)::Zae (Zan 31 (rowsN l))::Zae (i64 fr)::Zaf 0 0::Zaf 1 0::bds 4 (Zae (bo false)::Zab::Zab::Zaf 2 0::bds 8 (Zae (i64 (Zad .i64 (i+1)))::bds 191 []))) (Qz12 ly t c) b)) False) False) (K (Exit.exit 8) (Zab::Zab::Zae (i64 me)::Zae (Zan 31 (rowsN l))::Zae (i64 fr)::Zaf 0 0::Zaf 1 0::bds 4 (Zae (bo u)::Zab::Zab::Zaf 2 0::bds 8 (Zae (i64 i)::bds 191 []))) (Qz12 ly t c) b)):=by kernel_rfl
theorem ALu9 {α β:Type} {P:β→Prop} {f:β→α→β}:∀(l:List α) {b:β},(∀b a,a∈l→P b→P (f b a))→P b→P (l.foldl f b)
 | [],b,_,h=>h
 |x::r,b,hf,h=>ALu9 r (fun b a ha=>hf b a (Zcj _ ha)) (hf b x Zcc h)
def Asked (s:SideT) (me fr:Int) (b:GraT):Prop:=∃n∈s.ns,AMs9 s n=true∧∃a∈n.ak,a.pe=me∧usedS s.ns a.sl a.of n.fm=false∧b=newG fr n a
def GrInv (s:SideT) (me fr:Int) (g0:List GraT) (q:TabT):Prop:=(∀g∈g0,g∈q.gs)∧∀b∈q.gs,b∈g0∨(Asked s me fr b∧∀g∈g0,g.sl≠b.sl)
theorem AUa9 {s:SideT} {ly:LayT} {me fr:Int} {n:NearT} {a:AskT} {g0:List GraT} {q:TabT} (hn:n∈s.ns) (hh:AMs9 s n=true) (ha:a∈n.ak) (h:GrInv s me fr g0 q):GrInv s me fr g0 (AAr9 s ly me fr n q a):=by
 unfold AAr9;split
 ·exact h
 ·rename_i h0;split
  ·rename_i h1;rw [addSG,if_pos h1];obtain ⟨b1,b2⟩:=BQe9 (AJu9 h1).2.2.1;have hp:=AJx9 (fun x:GraT=>decide (x.sl>(newG fr n a).sl)) (newG fr n a) q.gs;simp only [Bool.not_eq_true,Bool.or_eq_false_iff,bne_eq_false_iff_eq] at h0;refine ⟨fun g hg=>hp.mem_iff.2 (Zcj _ (h.1 g hg)),fun b hb=> ?_⟩;rcases Zcb.1 (hp.mem_iff.1 hb) with rfl|hb
   ·exact .inr ⟨⟨n,hn,hh,a,ha,h0.1,h0.2,rfl⟩,fun g hg=>b2 g (h.1 g hg)⟩
   ·exact h.2 b hb
  ·exact h
theorem AUb9 (s:SideT) (ly:LayT) (me fr:Int) (t:TabT):GrInv s me fr t.gs (AIw9 s ly me fr t):=by
 refine ALu9 (P:=GrInv s me fr t.gs) _ (fun q n hn h=> ?_) ⟨fun g hg=>hg,fun b hb=> .inl hb⟩;unfold AFx9;split
 ·rename_i hh;exact ALu9 (P:=GrInv s me fr t.gs) _ (fun q a ha h=>AUa9 hn hh ha h) h
 ·exact h
theorem ARx9 {ly:LayT} {t:TabT} {me:Int} {l:List NearT} {fr:Int} (h:newS ly t me l fr=true):GrInv (sideS ly me l fr) me fr ((ACz9 t fr).gs.map (ACl9 (sideS ly me l fr) fr)) (ACd9 ly t me l fr):=by
 rw [ACd9,if_pos h];exact AUb9 _ _ _ _ ⟨t.us,_,t.ak⟩
theorem CCc9 {ly:LayT} {t:TabT} {me:Int} {l:List NearT} {fr:Int} (h:newS ly t me l fr=true):∀n∈l,0≤n.fm∧n.fm<ly.no∧n.fm≠me∧0≤n.fr∧n.fr≤fr:=by
 have hv:=ACb9 (AFk9 h);rw [newS,Zak,Zak,Zak,Bool.not_eq_true'] at h;exact AWi9 hv.1.2 h.2.2.2
theorem ATy9 {ly:LayT} {t:TabT} {me:Int} {l:List NearT} {fr:Int} (h:newS ly t me l fr=true) {x:NearT} (hx:x∈l) (hh:AMs9 (sideS ly me l fr) (filN ly x)=true):ARu9 x fr=true:=by
 have h1:=CCc9 h x hx;have h2:=(ALk9 h).2;have h3:(filN ly x).fr≥Zad Zbc (fr - 1):=of_decide_eq_true hh;have h4:(filN ly x).fr=x.fr:=rfl;rw [AAt9 (by omega) (by omega),h4] at h3;refine decide_eq_true ?_;rw [AAt9 (by omega) (by omega)];omega
theorem AQt9 {ly:LayT} {t:TabT} {me:Int} {l:List NearT} {fr:Int} {g:GraT} (h:newS ly t me l fr=true) (hg:AEf9 (sideS ly me l fr) g=true):l.any (tellP ly g me fr)=true:=by
 have hl:LayIn ly:=ACb9 (AFk9 h);rw [AEf9,Zak,Zak] at hg;obtain ⟨h1,h2,h3⟩:=hg;cases hs:sFind (sideS ly me l fr) g.pe with
 |none=>rw [hs] at h1;cases h1
 | some n=>
  rw [hs] at h2 h3;obtain ⟨x,hx,rfl,hpe,_⟩:=CCd9 h hs;refine Zej.2 ⟨x,hx, ?_⟩;rw [tellP,AYm9,ATy9 h hx h2,Zde,hpe,beq_self_eq_true,Zde];have h5:AMm9 (sideS ly me l fr) (filN ly x) g.sl g.of=true:=h3;rw [AMm9,CGp9 hl,CGq9 hl,Zdy,Zej,Zej] at h5;rw [Zdy];rcases h5 with ⟨u,hu,h6⟩|⟨a,ha,h6⟩
  ·left;obtain ⟨hu,hok⟩:=Zeh.1 hu;rw [Zak] at h6;have hme:(u.pe==me)=true:=h6.2;exact Zej.2 ⟨u,hu,by rw [hok,h6.1,hme];simp⟩
  ·right;obtain ⟨ha,hok⟩:=Zeh.1 ha;simp only [eqAsk,Zak,beq_iff_eq] at h6;obtain ⟨e1,e2,e3⟩:=h6;have e3:me=a.pe:=e3;exact Zej.2 ⟨a,ha,by rw [hok,e1,e2,e3];simp⟩
theorem AOk9 (s:SideT) {fr:Int} (h:0≤fr∧fr≤999999992) (g:GraT):(ACl9 s fr g).un≥g.un∧(AEf9 s g=false→ACl9 s fr g=g)∧((ACl9 s fr g).un=g.un∨(ACl9 s fr g).un=fr+8):=by
 unfold ACl9;split
 ·rename_i h1;rw [BEd9 h];refine ⟨?_,fun h2=>(by rw [h1] at h2;cases h2), ?_⟩
  ·dsimp only;split<;>omega
  ·dsimp only;split
   ·exact .inr rfl
   ·exact .inl rfl
 ·exact ⟨Int.le_refl _,fun _=>rfl, .inl rfl⟩
theorem BOo9 {fr:Int} (h:0≤fr∧fr≤999999992) (n:NearT) (a:AskT):newG fr n a=⟨a.sl,a.of,n.fm,fr,fr+8⟩:=by
 rw [newG,AAt9 (by omega) (by omega)]
def sameG (b g:GraT):Bool:=(b.sl==g.sl&&(b.of==g.of&&true))&&(b.pe==g.pe&&b.st==g.st)
theorem AVs9 {b g:GraT}:sameG b g=true↔b.sl=g.sl∧b.of=g.of∧b.pe=g.pe∧b.st=g.st:=by
 simp only [sameG,Zak,beq_iff_eq,and_true];constructor
 ·rintro ⟨⟨h1,h2⟩,h3,h4⟩;exact ⟨h1,h2,h3,h4⟩
 ·rintro ⟨h1,h2,h3,h4⟩;exact ⟨⟨h1,h2⟩,h3,h4⟩
theorem BZu9 {l:List GraT} (h:l.Pairwise (fun a b=>a.sl<b.sl)) {a b:GraT} (ha:a∈l) (hb:b∈l) (e:a.sl=b.sl):a=b:=by
 induction l with
 |nil=>cases ha
 | cons x r ih=>
  rw [List.pairwise_cons] at h;rcases Zcb.1 ha with ha1|ha1<;>rcases Zcb.1 hb with hb1|hb1
  ·rw [ha1,hb1]
  ·have:=h.1 b hb1;rw [ha1] at e;omega
  ·have:=h.1 a ha1;rw [hb1] at e;omega
  ·exact ih h.2 ha1 hb1
def lsK (g x:GraT):Bool:=sameG x g&&decide (x.un≥g.un)
def lsU (ly:LayT) (me fr:Int) (l:List NearT) (g x:GraT):Bool:= !(sameG x g&&decide (x.un>g.un))||l.any (tellP ly g me fr)
theorem BLa9 {ly:LayT} {t:TabT} {me:Int} {l:List NearT} {fr:Int} (h:newS ly t me l fr=true) {g:GraT} (hg:g∈t.gs):(ACd9 ly t me l fr).gs.all (lsU ly me fr l g)=true∧((ACd9 ly t me l fr).gs.any (lsK g)||decide (g.un<fr))=true:=by
 have hv:=AEq9.1 (AFk9 h);obtain ⟨-, -, -,⟨v1,v2⟩, -⟩:=hv;have hf:=(ALk9 h).2;obtain ⟨i1,i2⟩:=ARx9 h;have hgo:=v1 g hg;simp only [graOk,Zak,decide_eq_true_eq] at hgo;constructor
 ·refine List.all_eq_true.2 fun b hb=> ?_;rw [lsU,Zdy,Bool.not_eq_true',Bool.and_eq_false_iff];by_cases hs:sameG b g=true
  ·by_cases hu:b.un>g.un
   ·right;obtain ⟨e1,e2,e3,e4⟩:=AVs9.1 hs;rcases i2 b hb with hm|⟨⟨n,hn,hh,a,ha,_,_,rfl⟩,hno⟩
    ·obtain ⟨g',hg',rfl⟩:=Zbj.1 hm;have hg'':g'∈t.gs:=(Zeh.1 hg').1;have e5:=(AHe9 (sideS ly me l fr) fr g').1;have e6:g'=g:=BZu9 v2 hg'' hg (by rw [←e5,e1]);subst e6;by_cases ho:AEf9 (sideS ly me l fr) g'=true
     ·exact AQt9 h ho
     ·rw [(AOk9 _ hf g').2.1 (by simpa using ho)] at hu;omega
    ·rw [BOo9 hf] at e1 e4 hno;dsimp only at e1 e4 hno;exfalso;by_cases hx:g.un<fr
     ·omega
     ·refine hno (ACl9 (sideS ly me l fr) fr g) (Zbj.2 ⟨g,Zeh.2 ⟨hg,by simpa using hx⟩,rfl⟩) ?_;rw [(AHe9 _ fr g).1,e1]
   ·exact .inl (.inr (decide_eq_false hu))
  ·exact .inl (.inl (by simpa using hs))
 ·rw [Zdy];by_cases hx:g.un<fr
  ·exact .inr (decide_eq_true hx)
  ·left;have hm:ACl9 (sideS ly me l fr) fr g∈(ACd9 ly t me l fr).gs:=i1 _ (Zbj.2 ⟨g,Zeh.2 ⟨hg,by simpa using hx⟩,rfl⟩);refine Zej.2 ⟨_,hm, ?_⟩;rw [lsK,AVs9.2 (AHe9 _ fr g),decide_eq_true (AOk9 _ hf g).1];rfl
theorem BEc9 {ly:LayT} {t:TabT} {me:Int} {l:List NearT} {fr:Int} (h:newS ly t me l fr=true) {b:GraT} (hb:b∈(ACd9 ly t me l fr).gs):b.un≥fr∧(b.un>fr+8→HadS t b.sl b.of b.pe=true):=by
 have hf:=(ALk9 h).2;rcases (ARx9 h).2 b hb with hm|⟨⟨n,hn,hh,a,ha,_,_,rfl⟩,hno⟩
 ·obtain ⟨g,hg,rfl⟩:=Zbj.1 hm;obtain ⟨hg1,hg2⟩:=Zeh.1 hg;have hx:¬g.un<fr:=by simpa using hg2
  have h1:=AOk9 (sideS ly me l fr) hf g;obtain ⟨e1,e2,e3,_⟩:=AHe9 (sideS ly me l fr) fr g;refine ⟨by omega,fun _=>Zej.2 ⟨g,hg1, ?_⟩⟩;rw [e1,e2,e3];simp
 ·rw [BOo9 hf];exact ⟨by dsimp only;omega,fun h2=>by dsimp only at h2;omega⟩
theorem ATz9 {ly:LayT} {t:TabT} {me:Int} {fr:Int} (hv:AEo9 t ly) (hm:0≤me∧me<ly.no) (hf:0≤fr∧fr≤999999992):newS ly t me [] fr=true∧ACd9 ly t me [] fr=ACz9 t fr:=by
 have h:newS ly t me [] fr=true:=by
  have hl:=ACb9 (AEq9.2 hv);rw [newS,AEq9.2 hv,AAt9 (by omega) (by omega),inN,inN,decide_eq_true hm.1,decide_eq_true (by omega:me≤ly.no - 1),decide_eq_true hf.1,decide_eq_true hf.2];rfl
 refine ⟨h, ?_⟩;rw [ACd9,if_pos h];show (⟨t.us,(ACz9 t fr).gs.map (ACl9 (sideS ly me [] fr) fr),t.ak⟩:TabT)=ACz9 t fr;have e:∀g:GraT,ACl9 (sideS ly me [] fr) fr g=g:=fun g=>rfl;rw [show (ACl9 (sideS ly me [] fr) fr)=id from funext e,List.map_id];rfl
def lsC (ly:LayT) (c:TabT) (me fr:Int):Nat→TabT
 |0=>c
 |k+1=>ACd9 ly (lsC ly c me fr k) me [] (fr+(k+1:Nat))
theorem BUi9 {ly:LayT} {c:TabT} {me fr:Int} (hv:AEo9 c ly) (hm:0≤me∧me<ly.no) (hf:0≤fr∧fr≤999999900):∀k:Nat,k≤9→AEo9 (lsC ly c me fr k) ly∧(∀b∈(lsC ly c me fr k).gs,b∈c.gs∧(0<k→b.un≥fr+k))
 |0,_=>⟨hv,fun b hb=>⟨hb,fun h=>absurd h (by decide)⟩⟩
 | k+1,hk=>by
  obtain ⟨h1,h2⟩:=BUi9 hv hm hf k (by omega);obtain ⟨h3,h4⟩:=ATz9 (fr:=fr+(k+1:Nat)) h1 hm (by omega);refine ⟨AHj9 h3,fun b hb=> ?_⟩;rw [lsC,h4] at hb;obtain ⟨hb1,hb2⟩:=Zeh.1 hb;have hb3:¬b.un<fr+(k+1:Nat):=by simpa using hb2
  exact ⟨(h2 b hb1).1,fun _=>by omega⟩
def lsE (t:TabT) (fr:Int) (b:GraT):Bool:=HadS t b.sl b.of b.pe&&decide (b.un>fr+8)
theorem BLb9 {ly:LayT} {t:TabT} {me:Int} {l:List NearT} {fr:Int} (h:newS ly t me l fr=true) (hf:fr≤999999900):(lsC ly (ACd9 ly t me l fr) me fr 9).gs.all (lsE t fr)=true:=by
 have hi:=ALk9 h;obtain ⟨_,h2⟩:=BUi9 (AHj9 h) hi.1 ⟨hi.2.1,hf⟩ 9 (by decide);refine List.all_eq_true.2 fun b hb=> ?_;obtain ⟨h3,h4⟩:=h2 b hb;have h5:b.un>fr+8:=by have:=h4 (by decide);omega
 rw [lsE,(BEc9 h h3).2 h5,decide_eq_true h5];rfl
theorem wrLs1 {Ev:Env prog} {b:Ev.β} {Q:Exit→St Ev.β→Prop} (ly:LayT) (t c:TabT) (g:GraT) (me fr:Int) (l:List NearT) (u0:Bool) (i:Nat) (hl:l.length≤9223372036854775807) (hN:∀x∈l,ADm9 x) (hc:c.gs.length≤9223372036854775807)
 (hQ:∀k:Int,Q (.exit 2) ⟨tmLs me fr l (u0&&c.gs.all (lsU ly me fr l g)) (.d (i64 i)) (.ptr 3 0) (.d (bo (c.gs.any (lsK g)))) (.d (i64 k)), [layB ly,tabB t,tabB c,graB g],b⟩):
 WR Ev lpLs1 (c.gs.length+1) ⟨tmLs me fr l (u0&&(c.gs.take 0).all (lsU ly me fr l g)) (.d (i64 i)) (.ptr 3 0) (.d (bo ((c.gs.take 0).any (lsK g)))) (.d (i64 (0:Nat))), [layB ly,tabB t,tabB c,graB g],b⟩ Q:=by
 refine WR.scanL (X:=⟨TLs, [],wlW Ev,Ev.Y,false⟩) (k:=100) [2,3,4,5,6,11,14,15,16,17,18] mixed (CX.Ok.of CHl9 Zah) c.gs (fun _=>false) (fun k=>tmLs me fr l (u0&&(c.gs.take k).all (lsU ly me fr l g)) (.d (i64 i)) (.ptr 3 0) (.d (bo ((c.gs.take k).any (lsK g)))) (.d (i64 (k:Nat)))) (fun k=>tmLs me fr l (u0&&(c.gs.take k).all (lsU ly me fr l g)) (.d (i64 i)) (.ptr 3 0) (.d (bo ((c.gs.take k).any (lsK g)))) (.d (i64 (k:Nat)))) [layB ly,tabB t,tabB c,graB g] 2 (fun k x hk hx K k1 k2=> ?_) (fun K k1=> ?_) (fun h=> ?_) fun h i=>by simp at h
 ·refine Eq.mpr (rLs1 _ _ _ K ly t c g me fr l _ _ i k) ?_;have k2:=k2 rfl;simp only [BWy9 _ _ _ _ hx,APp9 _ _ _ _ hx,←Bool.and_assoc] at k2;generalize (u0&&(c.gs.take k).all (lsU ly me fr l g))=u at k2 ⊢;generalize (c.gs.take k).any (lsK g)=f at k2 ⊢;rw [wrapN (by omega)];have key:∀u' f':Bool,u'=(u&&lsU ly me fr l g x)→f'=(f||lsK g x)→K .normal (tmLs me fr l u' (.d (i64 i)) (.ptr 3 0) (.d (bo f')) (.d (i64 ((k+1:Nat):Int)))) [layB ly,tabB t,tabB c,graB g] b:=by
   rintro _ _ rfl rfl;exact k2
  refine Zaz (by rw [AAe9];simp;omega) (Zaz (natI k) ⟨_,_,_,_,_,ABb9 hx,Zba (fun c1=>Zaz (natI k) ⟨_,_,_,_,_,ABb9 hx,Zba (fun c2=>Zaz (natI k) ⟨_,_,_,_,_,ABb9 hx,Zba (fun hf=>Zba (fun c3=>Zaz (natI k) ⟨_,_,_,_,_,ABb9 hx,Zba (fun c4=>⟨ly,g,l,me,fr,_,rfl,⟨hl,hN,rfl⟩,Zba (fun hu=> ?_) fun hu=> ?_⟩) fun c4=> ?_⟩) fun c3=> ?_) fun hf=>Zba (fun c3=>Zaz (natI k) ⟨_,_,_,_,_,ABb9 hx,Zba (fun _=>Zaz (natI k) ⟨_,_,_,_,_,ABb9 hx,Zba (fun c4=>⟨ly,g,l,me,fr,_,rfl,⟨hl,hN,rfl⟩,Zba (fun hu=> ?_) fun hu=> ?_⟩) fun c4=> ?_⟩) fun c5=>absurd c3 (by rw [c5];decide)⟩) fun c3=>Zba (fun c5=>absurd c5 (by rw [c3];decide)) fun _=> ?_⟩) fun c2=>Zba (fun hf=> ?_) fun hf=> ?_⟩) fun c1=>Zba (fun hf=> ?_) fun hf=> ?_⟩);all_goals (refine key _ _ ?_ ?_<;>first|rw [lsU,sameG]|rw [lsK,sameG])
  all_goals (try rw [c1])
  all_goals (try rw [c2])
  all_goals (try rw [c3])
  all_goals (try rw [c4])
  all_goals (try rw [hu])
  all_goals (try rw [hf])
  all_goals (try simp)
 ·refine Eq.mpr (rLs1 _ _ _ K ly t c g me fr l _ _ i _) ?_;exact BIf.f (by rw [AAe9];simp) k1
 ·simp only [List.take_length];exact hQ _
def wlLs1 {β:Type}:WLT β:=fun cd tm hp b K=>∃(ly:LayT) (t c:TabT) (g:GraT) (me fr:Int) (l:List NearT) (u q f:Bool) (i:Nat),cd= .loop lpLs1∧AAx9 [2,3,4,5,6,11,14,15,16,17,18] 0 tm=tmLs me fr l u (.d (i64 i)) (.ptr 3 0) (.d (bo false)) (.d (i64 0))∧hp= [layB ly,tabB t,tabB c,graB g]∧(l.length≤9223372036854775807∧(∀x∈l,ADm9 x)∧c.gs.length≤9223372036854775807∧q=(u&&c.gs.all (lsU ly me fr l g))∧f=c.gs.any (lsK g))∧
 ∀k:Int,K (.exit 2) (tmLs me fr l q (.d (i64 i)) (.ptr 3 0) (.d (bo f)) (.d (i64 k))) [layB ly,tabB t,tabB c,graB g] b
theorem BRn9 {Ev:Env prog} (c:Code) (tm:List AV) (hp:List Blk) (b:Ev.β) (K:Exit→List AV→List Blk→Ev.β→Prop) (h:wlLs1 c tm hp b K):W Ev c ⟨tm,hp,b⟩ (fun e s=>K e s.tm s.hp s.b):=by
 obtain ⟨ly,t,c,g,me,fr,l,u,q,f,i,rfl,htm,rfl,⟨hl,hN,hc,rfl,rfl⟩,hK⟩:=h;refine W.cast (htm▸AAc9 _ tm 0) (LeH.refl _) ?_;have h1:=wrLs1 (Q:=fun e s=>K e s.tm s.hp s.b) (b:=b) ly t c g me fr l u i hl hN hc hK;rw [List.take_zero,List.any_nil,List.all_nil,Bool.and_true] at h1;exact W.rounds h1
theorem wrLs2 {Ev:Env prog} {b:Ev.β} {Q:Exit→St Ev.β→Prop} (ly:LayT) (t c:TabT) (me fr:Int) (l:List NearT) (u0:Bool) (hc:c.gs.length≤9223372036854775807)
 (hQ:∀k:Int,Q (.exit 4) ⟨tmLr 0 me fr l (u0&&c.gs.all fun x=>decide (x.un≥fr)) k, [layB ly,tabB t,tabB c],b⟩):
 WR Ev lpLs2 (c.gs.length+1) ⟨tmLr 0 me fr l (u0&&(c.gs.take 0).all fun x=>decide (x.un≥fr)) (0:Nat), [layB ly,tabB t,tabB c],b⟩ Q:=by
 refine WR.scanL (X:=⟨[], [],wlW Ev,Ev.Y,false⟩) (k:=100) [2,3,4,5,6,11,14,21] mixed (CX.Ok.of Zaj Zah) c.gs (fun _=>false) (fun k=>tmLr 0 me fr l (u0&&(c.gs.take k).all fun x=>decide (x.un≥fr)) (k:Nat)) (fun k=>tmLr 0 me fr l (u0&&(c.gs.take k).all fun x=>decide (x.un≥fr)) (k:Nat)) [layB ly,tabB t,tabB c] 4 (fun k x hk hx K k1 k2=> ?_) (fun K k1=> ?_) (fun h=> ?_) fun h i=>by simp at h
 ·refine Eq.mpr (rLs2 _ _ _ K ly t c me fr l _ k) ?_;have k2:=k2 rfl;simp only [APp9 _ _ _ _ hx,←Bool.and_assoc] at k2;generalize (u0&&(c.gs.take k).all fun x=>decide (x.un≥fr))=u at k2 ⊢;rw [wrapN (by omega)];refine Zaz (by rw [AAe9];simp;omega) (Zba (fun hu=>Zaz (natI k) ⟨_,_,_,_,_,ABb9 hx, ?_⟩) fun hu=> ?_)
  ·rw [hu,Zde] at k2;exact k2
  ·rw [hu,Zck] at k2;exact k2
 ·refine Eq.mpr (rLs2 _ _ _ K ly t c me fr l _ _) ?_;exact BIf.f (by rw [AAe9];simp) k1
 ·simp only [List.take_length];exact hQ _
def wlLs2 {β:Type}:WLT β:=fun cd tm hp b K=>∃(ly:LayT) (t c:TabT) (me fr:Int) (l:List NearT) (u q:Bool),cd= .loop lpLs2∧AAx9 [2,3,4,5,6,11,14,21] 0 tm=tmLr 0 me fr l u 0∧hp= [layB ly,tabB t,tabB c]∧(c.gs.length≤9223372036854775807∧q=(u&&c.gs.all fun x=>decide (x.un≥fr)))∧
 ∀k:Int,K (.exit 4) (tmLr 0 me fr l q k) [layB ly,tabB t,tabB c] b
theorem BRm9 {Ev:Env prog} (c:Code) (tm:List AV) (hp:List Blk) (b:Ev.β) (K:Exit→List AV→List Blk→Ev.β→Prop) (h:wlLs2 c tm hp b K):W Ev c ⟨tm,hp,b⟩ (fun e s=>K e s.tm s.hp s.b):=by
 obtain ⟨ly,t,c,me,fr,l,u,q,rfl,htm,rfl,⟨hc,rfl⟩,hK⟩:=h;refine W.cast (htm▸AAc9 _ tm 0) (LeH.refl _) ?_;have h1:=wrLs2 (Q:=fun e s=>K e s.tm s.hp s.b) (b:=b) ly t c me fr l u hc hK;rw [List.take_zero,List.all_nil,Bool.and_true] at h1;exact W.rounds h1
def ls3B (ly:LayT) (t c:TabT) (me fr:Int) (k:Nat):List Blk:= [layB ly,tabB t,tabB (lsC ly c me fr k)]
theorem wrLs3 {Ev:Env prog} {b:Ev.β} {Q:Exit→St Ev.β→Prop} (ly:LayT) (t c:TabT) (me fr:Int) (l:List NearT) (u:Bool) (hf:0≤fr∧fr≤999999900) (hc:∀k,k<9→TabOk (lsC ly c me fr k))
 (hQ:∀k:Int,Q (.exit 6) ⟨tmLr 1 me fr l u k,ls3B ly t c me fr 9,b⟩):
 WR Ev lpLs3 (9+1) ⟨tmLr 1 me fr l u ((0:Nat)+1),ls3B ly t c me fr 0,b⟩ Q:=by
 refine WR.scanG (X:=⟨TLg, [],wlW Ev,Ev.Y,false⟩) (k:=100) (L:=3) [2,3,4,5,6,11,14,22] mixed (CX.Ok.of CHn9 Zah) (List.range 9) (fun _=>false) (fun k=>tmLr 1 me fr l u ((k:Nat)+1)) (ls3B ly t c me fr) (fun _=>rfl) 6 0 (fun k x _ hk hx K _ k2=> ?_) (fun K k1=> ?_) (fun _=>by rw [List.length_range];exact hQ _) (fun h=>by simp at h) 9 0 (by simp) (Nat.le_refl _) rfl
 ·have k2:=k2 rfl;rw [List.length_range] at hk;refine Eq.mpr (rLs3 _ _ _ K ly t _ me fr l u _) ?_;have e1:Zad Zbc (fr+((k:Int)+1))=fr+((k+1:Nat):Int):=by rw [AAt9 (by omega) (by omega)];omega
  have e2:Zad Zbc ((k:Int)+1+1)=((k+1:Nat):Int)+1:=by rw [AAt9 (by omega) (by omega)];omega
  rw [e1,e2];exact Zaz (by simp;omega) ⟨ly,lsC ly c me fr k,_,me, [],_, .cons .rfl (.cons .rfl (.cons .rfl (.cons (.nil rfl) (.cons .rfl .nil)))),⟨hc k hk,by decide,fun x hx=>(by cases hx),rfl⟩,k2⟩
 ·refine Eq.mpr (rLs3 _ _ _ K ly t _ me fr l u _) ?_;exact BIf.f (by simp) k1
def wlLs3 {β:Type}:WLT β:=fun cd tm hp b K=>∃(ly:LayT) (t c q:TabT) (me fr:Int) (l:List NearT) (u:Bool),cd= .loop lpLs3∧AAx9 [2,3,4,5,6,11,14,22] 0 tm=tmLr 1 me fr l u 1∧hp= [layB ly,tabB t,tabB c]∧((0≤fr∧fr≤999999900)∧(∀k,k<9→TabOk (lsC ly c me fr k))∧q=lsC ly c me fr 9)∧
 ∀k:Int,K (.exit 6) (tmLr 1 me fr l u k) [layB ly,tabB t,tabB q] b
theorem BRl9 {Ev:Env prog} (c:Code) (tm:List AV) (hp:List Blk) (b:Ev.β) (K:Exit→List AV→List Blk→Ev.β→Prop) (h:wlLs3 c tm hp b K):W Ev c ⟨tm,hp,b⟩ (fun e s=>K e s.tm s.hp s.b):=by
 obtain ⟨ly,t,c,q,me,fr,l,u,rfl,htm,rfl,⟨hf,hc,rfl⟩,hK⟩:=h;refine W.cast (htm▸AAc9 _ tm 0) (LeH.refl _) ?_;exact W.rounds (wrLs3 (Q:=fun e s=>K e s.tm s.hp s.b) (b:=b) ly t c me fr l u hf hc hK)
theorem wrLs4 {Ev:Env prog} {b:Ev.β} {Q:Exit→St Ev.β→Prop} (ly:LayT) (t c:TabT) (me fr:Int) (l:List NearT) (u0:Bool) (hf:0≤fr∧fr≤999999900) (hc:c.gs.length≤9223372036854775807) (ht:t.gs.length≤9223372036854775807)
 (hQ:∀k:Int,Q (.exit 8) ⟨tmLr 2 me fr l (u0&&c.gs.all (lsE t fr)) k, [layB ly,tabB t,tabB c],b⟩):
 WR Ev lpLs4 (c.gs.length+1) ⟨tmLr 2 me fr l (u0&&(c.gs.take 0).all (lsE t fr)) (0:Nat), [layB ly,tabB t,tabB c],b⟩ Q:=by
 refine WR.scanL (X:=⟨TLh, [],wlW Ev,Ev.Y,false⟩) (k:=100) [2,3,4,5,6,11,14,23] mixed (CX.Ok.of CHm9 Zah) c.gs (fun _=>false) (fun k=>tmLr 2 me fr l (u0&&(c.gs.take k).all (lsE t fr)) (k:Nat)) (fun k=>tmLr 2 me fr l (u0&&(c.gs.take k).all (lsE t fr)) (k:Nat)) [layB ly,tabB t,tabB c] 8 (fun k x hk hx K k1 k2=> ?_) (fun K k1=> ?_) (fun h=> ?_) fun h i=>by simp at h
 ·refine Eq.mpr (rLs4 _ _ _ K ly t c me fr l _ k) ?_;have k2:=k2 rfl;simp only [APp9 _ _ _ _ hx,←Bool.and_assoc] at k2;generalize (u0&&(c.gs.take k).all (lsE t fr))=u at k2 ⊢;rw [wrapN (by omega),AAt9 (by omega) (by omega)];refine Zaz (by rw [AAe9];simp;omega) (Zaz (natI k) ⟨_,_,_,_,_,ABb9 hx,Zaz (natI k) ⟨_,_,_,_,_,ABb9 hx,t,x.sl,x.of,x.pe,_,rfl,⟨ht,rfl⟩,Zba (fun hu=>Zba (fun c1=>Zaz (natI k) ⟨_,_,_,_,_,ABb9 hx, ?_⟩) fun c1=> ?_) fun hu=> ?_⟩⟩)
  ·rw [hu,lsE,c1,Zde,Zde] at k2;exact k2
  ·rw [hu,lsE,c1,Zde,Zck] at k2;exact k2
  ·rw [hu,Zck] at k2;exact k2
 ·refine Eq.mpr (rLs4 _ _ _ K ly t c me fr l _ _) ?_;exact BIf.f (by rw [AAe9];simp) k1
 ·simp only [List.take_length];exact hQ _
def wlLs4 {β:Type}:WLT β:=fun cd tm hp b K=>∃(ly:LayT) (t c:TabT) (me fr:Int) (l:List NearT) (u q:Bool),cd= .loop lpLs4∧AAx9 [2,3,4,5,6,11,14,23] 0 tm=tmLr 2 me fr l u 0∧hp= [layB ly,tabB t,tabB c]∧((0≤fr∧fr≤999999900)∧c.gs.length≤9223372036854775807∧t.gs.length≤9223372036854775807∧q=(u&&c.gs.all (lsE t fr)))∧
 ∀k:Int,K (.exit 8) (tmLr 2 me fr l q k) [layB ly,tabB t,tabB c] b
theorem BRk9 {Ev:Env prog} (c:Code) (tm:List AV) (hp:List Blk) (b:Ev.β) (K:Exit→List AV→List Blk→Ev.β→Prop) (h:wlLs4 c tm hp b K):W Ev c ⟨tm,hp,b⟩ (fun e s=>K e s.tm s.hp s.b):=by
 obtain ⟨ly,t,c,me,fr,l,u,q,rfl,htm,rfl,⟨hf,hc,ht,rfl⟩,hK⟩:=h;refine W.cast (htm▸AAc9 _ tm 0) (LeH.refl _) ?_;have h1:=wrLs4 (Q:=fun e s=>K e s.tm s.hp s.b) (b:=b) ly t c me fr l u hf hc ht hK;rw [List.take_zero,List.all_nil,Bool.and_true] at h1;exact W.rounds h1
theorem rLs0 (ly:LayT) (t c:TabT) (me fr:Int) (l:List NearT) (u:Bool) (i:Int):wpc prog ⟨[], [],wlLs1,y,false⟩ 100 lpLs0 (tmLs me fr l u (.d (i64 i)) .bad .bad .bad) [layB ly,tabB t,tabB c] b (maskK 3 [2,3,4,5,6,11,14,15] K)=(BIf (decide (i<((Zaa (rowsG (Zbi t)):Nat):Int))) (BIf (true&&decide (0≤i)) (∃(x0:Int) (x1:Int) (x2:Int) (x3:Int) (x4:Int),(rowsG (Zbi t))[Zam i]? =some (Qz32 x0 x1 x2 x3 x4)∧∃(ly7:LayT) (t8:TabT) (c9:TabT) (g10:GraT) (me11:Int) (fr12:Int) (l13:List NearT) (u14:Bool) (q15:Bool) (f16:Bool) (i17:Nat),Zav lpLs1=Zav lpLs1∧(Zab::Zab::Zae (i64 me)::Zae (Zan 31 (rowsN l))::Zae (i64 fr)::Zaf 0 0::Zaf 1 0::bds 4 (Zae (bo u)::Zab::Zab::Zaf 2 0::Zae (i64 i)::Zaf 3 0::Zae (bo false)::Zae (i64 0)::bds 196 []))=(Zab::Zab::Zae (i64 me11)::Zae (Zan 31 (rowsN l13))::Zae (i64 fr12)::Zaf 0 0::Zaf 1 0::bds 4 (Zae (bo u14)::Zab::Zab::Zaf 2 0::Zae (i64 (i17:Int))::Zaf 3 0::Zae (bo false)::Zae (i64 0)::bds 196 []))∧ [Blk.mk (Qz3 ly) false false 0,Blk.mk (Qz1 t) false false 0,Blk.mk (Qz1 c) false false 0,Blk.mk (Qz24 x0 x1 x2 x3 x4) false false 0]=(Qz9 ly7 t8 c9 g10)∧(Zaa l13≤9223372036854775807∧(∀(x:NearT),x∈l13→Zaa (Zbk x)≤9223372036854775807∧Zaa (Zbm x)≤9223372036854775807∧Zaa (Zbq x)≤9223372036854775807)∧Zaa (Zbi c9)≤9223372036854775807∧q15=(u14&&List.all (Zbi c9) (lsU ly7 me11 fr12 l13 g10))∧f16=List.any (Zbi c9) (lsK g10))∧∀(k:Int),BIf q15 (BIf f16 (K .normal (Zab::Zab::Zae (i64 me11)::Zae (Zan 31 (rowsN l13))::Zae (i64 fr12)::Zaf 0 0::Zaf 1 0::bds 4 (Zae (bo true)::Zab::Zab::Zaf 2 0::Zae (i64 (Zad .i64 ((i17:Int)+(1:Int))))::bds 199 [])) (Qz12 ly7 t8 c9) b) (K .normal (Zab::Zab::Zae (i64 me11)::Zae (Zan 31 (rowsN l13))::Zae (i64 fr12)::Zaf 0 0::Zaf 1 0::bds 4 (Zae (bo (decide (Zdt g10<fr12)))::Zab::Zab::Zaf 2 0::Zae (i64 (Zad .i64 ((i17:Int)+(1:Int))))::bds 199 [])) (Qz12 ly7 t8 c9) b)) (K .normal (Zab::Zab::Zae (i64 me11)::Zae (Zan 31 (rowsN l13))::Zae (i64 fr12)::Zaf 0 0::Zaf 1 0::bds 4 (Zae (bo false)::Zab::Zab::Zaf 2 0::Zae (i64 (Zad .i64 ((i17:Int)+(1:Int))))::bds 199 [])) (Qz12 ly7 t8 c9) b)) False) (K (Exit.exit 0) (Zab::Zab::Zae (i64 me)::Zae (Zan 31 (rowsN l))::Zae (i64 fr)::Zaf 0 0::Zaf 1 0::bds 4 (Zae (bo u)::Zab::Zab::Zaf 2 0::Zae (i64 i)::bds 199 [])) (Qz12 ly t c) b)):=by kernel_rfl
def lsO (ly:LayT) (me fr:Int) (l:List NearT) (c:TabT) (g:GraT):Bool:=c.gs.all (lsU ly me fr l g)&&(c.gs.any (lsK g)||decide (g.un<fr))
theorem wrLs0 {Ev:Env prog} {b:Ev.β} {Q:Exit→St Ev.β→Prop} (ly:LayT) (t c:TabT) (me fr:Int) (l:List NearT) (u0:Bool) (hl:l.length≤9223372036854775807) (hN:∀x∈l,ADm9 x) (hc:c.gs.length≤9223372036854775807) (ht:t.gs.length≤9223372036854775807)
 (hQ:∀i:Int,Q (.exit 0) ⟨tmLs me fr l (u0&&t.gs.all (lsO ly me fr l c)) (.d (i64 i)) .bad .bad .bad, [layB ly,tabB t,tabB c],b⟩):
 WR Ev lpLs0 (t.gs.length+1) ⟨tmLs me fr l (u0&&(t.gs.take 0).all (lsO ly me fr l c)) (.d (i64 (0:Nat))) .bad .bad .bad, [layB ly,tabB t,tabB c],b⟩ Q:=by
 refine WR.scanL (X:=⟨[], [],wlLs1,Ev.Y,false⟩) (k:=100) [2,3,4,5,6,11,14,15] mixed (CX.Ok.ofWl Zaj Zah BRn9) t.gs (fun _=>false) (fun i=>tmLs me fr l (u0&&(t.gs.take i).all (lsO ly me fr l c)) (.d (i64 (i:Nat))) .bad .bad .bad) (fun i=>tmLs me fr l (u0&&(t.gs.take i).all (lsO ly me fr l c)) (.d (i64 (i:Nat))) .bad .bad .bad) [layB ly,tabB t,tabB c] 0 (fun i x hi hx K k1 k2=> ?_) (fun K k1=> ?_) (fun h=> ?_) fun h i=>by simp at h
 ·refine Eq.mpr (rLs0 _ _ K ly t c me fr l _ i) ?_;have k2:=k2 rfl;simp only [APp9 _ _ _ _ hx,←Bool.and_assoc] at k2;generalize (u0&&(t.gs.take i).all (lsO ly me fr l c))=u at k2 ⊢;have key:∀u':Bool,u'=(u&&lsO ly me fr l c x)→K .normal (tmLs me fr l u' (.d (i64 ((i+1:Nat):Int))) .bad .bad .bad) [layB ly,tabB t,tabB c] b:=by
   rintro _ rfl;exact k2
  refine (Zaz (by rw [AAe9];simp;omega) (Zaz (natI i) ⟨_,_,_,_,_,ABb9 hx,⟨_,_,_,_,_,_,_,_,_,_,_,rfl,rfl,rfl,⟨hl,⟨hN,⟨hc,⟨rfl,rfl⟩⟩⟩⟩,(fun k=>(Zba (fun c1=>(Zba (fun c2=> ?_) fun c2=> ?_)) fun c1=> ?_))⟩⟩));all_goals (rw [wrapN (by omega)];refine key _ ?_;rw [lsO])
  all_goals (generalize c.gs.all (lsU ly me fr l x)=A1 at*;generalize c.gs.any (lsK x)=B1 at*;clear k2 key;cases u<;>cases A1<;>cases B1<;>simp_all)
 ·refine Eq.mpr (rLs0 _ _ K ly t c me fr l _ _) ?_;exact BIf.f (by rw [AAe9];simp) k1
 ·simp only [List.take_length];exact hQ _
def wlLs0 {β:Type}:WLT β:=fun cd tm hp b K=>∃(ly:LayT) (t c:TabT) (me fr:Int) (l:List NearT) (u q:Bool),cd= .loop lpLs0∧AAx9 [2,3,4,5,6,11,14,15] 0 tm=tmLs me fr l u (.d (i64 0)) .bad .bad .bad∧hp= [layB ly,tabB t,tabB c]∧(l.length≤9223372036854775807∧(∀x∈l,ADm9 x)∧c.gs.length≤9223372036854775807∧t.gs.length≤9223372036854775807∧q=(u&&t.gs.all (lsO ly me fr l c)))∧
 ∀i:Int,K (.exit 0) (tmLs me fr l q (.d (i64 i)) .bad .bad .bad) [layB ly,tabB t,tabB c] b
theorem BRo9 {Ev:Env prog} (c:Code) (tm:List AV) (hp:List Blk) (b:Ev.β) (K:Exit→List AV→List Blk→Ev.β→Prop) (h:wlLs0 c tm hp b K):W Ev c ⟨tm,hp,b⟩ (fun e s=>K e s.tm s.hp s.b):=by
 obtain ⟨ly,t,c,me,fr,l,u,q,rfl,htm,rfl,⟨hl,hN,hc,ht,rfl⟩,hK⟩:=h;refine W.cast (htm▸AAc9 _ tm 0) (LeH.refl _) ?_;have h1:=wrLs0 (Q:=fun e s=>K e s.tm s.hp s.b) (b:=b) ly t c me fr l u hl hN hc ht hK;rw [List.take_zero,List.all_nil,Bool.and_true] at h1;exact W.rounds h1
def wlLs {β:Type}:WLT β:=fun cd tm hp b K=>match cidO cd with
 |9=>wlLs0 cd tm hp b K
 |23=>wlLs2 cd tm hp b K
 |27=>wlLs3 cd tm hp b K
 |31=>wlLs4 cd tm hp b K
 |_=>False
theorem BYz9 {Ev:Env prog} (c:Code) (tm:List AV) (hp:List Blk) (b:Ev.β) (K:Exit→List AV→List Blk→Ev.β→Prop) (h:wlLs c tm hp b K):W Ev c ⟨tm,hp,b⟩ (fun e s=>K e s.tm s.hp s.b):=by
 unfold wlLs at h;split at h
 ·exact BRo9 c tm hp b K h
 ·exact BRm9 c tm hp b K h
 ·exact BRl9 c tm hp b K h
 ·exact BRk9 c tm hp b K h
 ·exact h.elim
def TL9:List (Nat×(List AV→(AV→Prop)→Prop)):= [(10,cHead),(11,CDk9),(19,BPg9),(13,CDr9)]
theorem CHo9:AAb9 prog TL9:=Zai BWq9 (Zai BMv9 (Zai BGd9 (Zai AXg9 Zaj)))
abbrev Qz61 (v0:Int) (v1:List NearT) (v2:Int) (v3:Bool):=Zab::Zab::Zae (i64 v0)::Zae (Zan 31 (rowsN v1))::Zae (i64 v2)::Zaf 0 0::Zaf 1 0::bds 4 (Zae (bo v3)::Zab::Zab::Zaf 2 0::bds 6 (Zae (i64 0)::bds 193 []))
abbrev Qz62 (v0:Int) (v1:List NearT) (v2:Int) (v3:Bool):=Zab::Zab::Zae (i64 v0)::Zae (Zan 31 (rowsN v1))::Zae (i64 v2)::Zaf 0 0::Zaf 1 0::bds 4 (Zae (bo v3)::Zab::Zab::Zaf 2 0::bds 7 (Zae (i64 1)::bds 192 []))
abbrev Qz63 (v0:Int) (v1:List NearT) (v2:Int) (v3:Bool):=Zab::Zab::Zae (i64 v0)::Zae (Zan 31 (rowsN v1))::Zae (i64 v2)::Zaf 0 0::Zaf 1 0::bds 4 (Zae (bo v3)::Zab::Zab::Zaf 2 0::bds 8 (Zae (i64 0)::bds 191 []))
theorem CCh9 (ly:LayT) (t:TabT) (me:Int) (l:List NearT) (fr:Int):wpFn prog ⟨TL9, [],wlLs,y,false⟩ 100 Tryz.f9 [layA ly,tabA t, .d (i64 me), .d (.sl 31 (rowsN l)), .d (i64 fr)] b R=(([]:List AV)= []∧∃(t0:TabT) (l1:List NearT) (q2:Bool), [Zar (Qz1 t),Zae (Zan 31 (rowsN l))]= [Zar (Qz1 t0),Zae (Zan 31 (rowsN l1))]∧q2=AQk9 t0 l1∧∃(ly3:LayT) (t4:TabT) (me5:Int) (l6:List NearT) (fr7:Int) (q8:Bool),(Qz16 ly t me l fr)=(Qz16 ly3 t4 me5 l6 fr7)∧((Zaa (Zbv t4)≤9223372036854775807∧Zaa (Zbi t4)≤9223372036854775807∧Zaa (Zby t4)≤9223372036854775807)∧Zaa l6≤9223372036854775807∧q8=newS ly3 t4 me5 l6 fr7)∧BIf (!q2) (R (.d (bo true)) b) (BIf (!q8) (R (.d (bo true)) b) (BIf (decide (fr>(999999900:Int))) (R (.d (bo true)) b) (∃(ly9:LayT) (t10:TabT) (q11:TabT) (me12:Int) (l13:List NearT) (fr14:Int),(Qz16 ly t me l fr)=(Qz16 ly9 t10 me12 l13 fr14)∧((Zaa (Zbv t10)<10000∧Zaa (Zbi t10)<10000∧Zaa (Zby t10)<10000)∧Zaa l13<1000000∧(∀(x:NearT),x∈l13→Zaa (Zbk x)<1000000∧Zaa (Zbm x)<1000000∧Zaa (Zbq x)<1000000)∧q11=ACd9 ly9 t10 me12 l13 fr14)∧∃(ly15:LayT) (t16:TabT) (c17:TabT) (me18:Int) (fr19:Int) (l20:List NearT) (u21:Bool) (q22:Bool),Zav lpLs0=Zav lpLs0∧(Zab::Zab::Zae (i64 me)::Zae (Zan 31 (rowsN l))::Zae (i64 fr)::Zaf 0 0::Zaf 1 0::bds 4 (Zae (bo true)::Zab::Zab::Zaf 2 0::Zae (i64 0)::bds 199 []))=(Zab::Zab::Zae (i64 me18)::Zae (Zan 31 (rowsN l20))::Zae (i64 fr19)::Zaf 0 0::Zaf 1 0::bds 4 (Zae (bo u21)::Zab::Zab::Zaf 2 0::Zae (i64 0)::bds 199 []))∧(Qz12 ly t q11)=(Qz12 ly15 t16 c17)∧(Zaa l20≤9223372036854775807∧(∀(x:NearT),x∈l20→Zaa (Zbk x)≤9223372036854775807∧Zaa (Zbm x)≤9223372036854775807∧Zaa (Zbq x)≤9223372036854775807)∧Zaa (Zbi c17)≤9223372036854775807∧Zaa (Zbi t16)≤9223372036854775807∧q22=(u21&&List.all (Zbi t16) (lsO ly15 me18 fr19 l20 c17)))∧∀(i:Int),∃(ly23:LayT) (t24:TabT) (c25:TabT) (me26:Int) (fr27:Int) (l28:List NearT) (u29:Bool) (q30:Bool),Zav lpLs2=Zav lpLs2∧(Qz61 me18 l20 fr19 q22)=(Qz61 me26 l28 fr27 u29)∧(Qz12 ly15 t16 c17)=(Qz12 ly23 t24 c25)∧(Zaa (Zbi c25)≤9223372036854775807∧q30=(u29&&List.all (Zbi c25) fun (x31:GraT)=>decide (Zdt x31≥fr27)))∧∀(k:Int),∃(ly32:LayT) (t33:TabT) (c34:TabT) (q35:TabT) (me36:Int) (fr37:Int) (l38:List NearT) (u39:Bool),Zav lpLs3=Zav lpLs3∧(Qz62 me26 l28 fr27 q30)=(Qz62 me36 l38 fr37 u39)∧(Qz12 ly23 t24 c25)=(Qz12 ly32 t33 c34)∧(((0:Int)≤fr37∧fr37≤(999999900:Int))∧(∀(k:Nat),k<9→Zaa (Zbv (lsC ly32 c34 me36 fr37 k))<10000∧Zaa (Zbi (lsC ly32 c34 me36 fr37 k))<10000∧Zaa (Zby (lsC ly32 c34 me36 fr37 k))<10000)∧q35=lsC ly32 c34 me36 fr37 9)∧∀(k:Int),∃(ly40:LayT) (t41:TabT) (c42:TabT) (me43:Int) (fr44:Int) (l45:List NearT) (u46:Bool) (q47:Bool),Zav lpLs4=Zav lpLs4∧(Qz63 me36 l38 fr37 u39)=(Qz63 me43 l45 fr44 u46)∧(Qz12 ly32 t33 q35)=(Qz12 ly40 t41 c42)∧(((0:Int)≤fr44∧fr44≤(999999900:Int))∧Zaa (Zbi c42)≤9223372036854775807∧Zaa (Zbi t41)≤9223372036854775807∧q47=(u46&&List.all (Zbi c42) (lsE t41 fr44)))∧∀(k:Int),R (.d (bo q47)) b)))):=by kernel_rfl
theorem CGa9 (ly:LayT) (t:TabT) (me:Int) (l:List NearT) (fr:Int) (ht:TabMx t) (hl:l.length≤9223372036854775807):
 PCall prog 9 [layA ly,tabA t, .d (i64 me), .d (.sl 31 (rowsN l)), .d (i64 fr)] (.d (bo true)):=by
 refine PCall.ofFnW (n:=100) (u:=false) (fun _=>wlLs) mixed CHo9 Zah (fun Ev=>BYz9) func9 (by rfl) (by rfl) fun Ev bb=> ?_;rw [CCh9];refine ⟨rfl,t,l,_,rfl,rfl,ly,t,me,l,fr,_,rfl,⟨ht,hl,rfl⟩,Zba (fun _=>rfl) fun c1=>Zba (fun _=>rfl) fun c2=>Zba (fun _=>rfl) fun c3=> ?_⟩;have d1:AQk9 t l=true:=by simpa using c1
 have d2:newS ly t me l fr=true:=by simpa using c2
 have d3:fr≤999999900:=by rw [decide_eq_false_iff_not] at c3;omega
 have hin:=ALk9 d2;obtain ⟨s1,s2,s3,s4⟩:=BSh9 d1;have hN:∀x∈l,ADm9 x:=fun x hx=>by obtain ⟨g1,g2,g3⟩:=s4 x hx;exact ⟨by omega,by omega,by omega⟩
 have v2:=AHj9 d2;have hcl:(ACd9 ly t me l fr).gs.length≤9223372036854775807:=by have:=v2.2.1.1;omega
 have hk:∀k,k≤9→AEo9 (lsC ly (ACd9 ly t me l fr) me fr k) ly:=fun k hk=>(BUi9 v2 hin.1 ⟨hin.2.1,d3⟩ k hk).1;have hko:∀k,k<9→TabOk (lsC ly (ACd9 ly t me l fr) me fr k):=fun k h=>by
  have:=(hk k (by omega)).2.1;exact ⟨by omega,by omega,by omega⟩
 have h9:(lsC ly (ACd9 ly t me l fr) me fr 9).gs.length≤9223372036854775807:=by have:=(hk 9 (by omega)).2.1.1;omega
 have e1:(true&&t.gs.all (lsO ly me fr l (ACd9 ly t me l fr)))=true:=by
  rw [Zde];refine List.all_eq_true.2 fun g hg=> ?_;obtain ⟨a1,a2⟩:=BLa9 d2 hg;rw [lsO,a1,a2];rfl
 have e2:(true&&(ACd9 ly t me l fr).gs.all fun x=>decide (x.un≥fr))=true:=by
  rw [Zde];exact List.all_eq_true.2 fun b hb=>decide_eq_true (BEc9 d2 hb).1
 refine ⟨ly,t,ACd9 ly t me l fr,me,l,fr,rfl,⟨s1,s2,s4,rfl⟩,ly,t,ACd9 ly t me l fr,me,fr,l,true,true,rfl,rfl,rfl,⟨hl,hN,hcl,ht.2.1,e1.symm⟩,fun i=> ?_⟩;refine ⟨ly,t,ACd9 ly t me l fr,me,fr,l,true,true,rfl,rfl,rfl,⟨hcl,e2.symm⟩,fun i=> ?_⟩;refine ⟨ly,t,ACd9 ly t me l fr,lsC ly (ACd9 ly t me l fr) me fr 9,me,fr,l,true,rfl,rfl,rfl,⟨⟨hin.2.1,d3⟩,hko,rfl⟩,fun i=> ?_⟩;exact ⟨ly,t,lsC ly (ACd9 ly t me l fr) me fr 9,me,fr,l,true,true,rfl,rfl,rfl,⟨⟨hin.2.1,d3⟩,h9,ht.2.1,by rw [BLb9 d2 d3];rfl⟩,fun i=>rfl⟩
end Go.Proofs.YthcbbmnjikhihaaGreat.Am