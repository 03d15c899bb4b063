import Derived.Test.YthcbbmnjikhihaaGreatPgJ5
import Derived.Test.YthcbbmnjikhihaaGreatPgJ2
import Derived.Test.YthcbbmnjikhihaaGreatRows
import Derived.ProofKit
set_option linter.unusedSimpArgs false
set_option linter.unusedVariables false
namespace Go.Proofs.YthcbbmnjikhihaaGreat.Am
open Go Go.RowKit Go.Proofs Tryz
open AV renaming agg → Zar, bad → Zab, d → Zac, ptr → Zai
open BIf renaming of → Zbd, t → Zba
open Bool renaming and_eq_true → Zal, and_false → Zcx, false_and → Zcn
open AAb9 renaming cons → Zaj, nil → Zak
open Go.Code renaming loop → Zax
open Dv renaming sl → Zaf
open Int renaming toNat → Zao
open Go.IntKind renaming wrap → Zae
open LeVs renaming refl → Zew
open List renaming length → Zaa, mem_cons → Zcd, mem_cons_of_mem → Zce, mem_cons_self → Zbt, mem_filter → Zed, mem_map → Zbj, pairwise_cons → Zdu, take_length → Zdc
open NearT renaming ak → Zco, gs → Zbr, us → Zbz
open AAm9 renaming nil → Zah
open TabT renaming ak → Zbw, gs → Zbu, us → Zbo
variable {β:Type} (wl:WLT β) (y:ACw9 β) (b:β) (R:AV→β→Prop) (K:Exit→List AV→List Blk→β→Prop) (Q:β→Prop)
open AV (bad)
set_option linter.unusedVariables false
set_option maxRecDepth 20000
set_option maxHeartbeats 1000000
def TRv:List (Nat×(List AV→(AV→Prop)→Prop)):= [(20,BNv9),(69,cNb)]
theorem CEx9:AAb9 prog TRv:=Zaj BEy9 (Zaj CEk9 Zak)
theorem BIr9 (ly:LayT) (t:TabT) (me:Int) (l:List NearT) (fr:Int):wpFn prog ⟨TRv, [],wl,y,false⟩ 100 f19 [layA ly,tabA t, .d (i64 me), .d (.sl 31 (rowsN l)), .d (i64 fr)] b R=(∃(t0:TabT) (ly1:LayT) (q2:Bool), [Zar (Qz2 t),Zar (Qz5 ly)]= [Zar (Qz2 t0),Zar (Qz5 ly1)]∧((Zaa (Zbo t0)≤9223372036854775807∧Zaa (Zbu t0)≤9223372036854775807∧Zaa (Zbw t0)≤9223372036854775807)∧q2=AKc9 t0 ly1)∧BIf (!q2) (R (.d (bo false)) b) (BIf (decide (me<(0:Int))) (R (.d (bo false)) b) (BIf (decide (me≥LayT.no ly)) (R (.d (bo false)) b) (BIf (decide (fr<(0:Int))) (R (.d (bo false)) b) (BIf (decide (fr>(999999992:Int))) (R (.d (bo false)) b) (∃(ly3:LayT) (l4:List NearT) (me5:Int) (fr6:Int) (q7:Bool), [Zar (Qz5 ly),Zac (i64 me),Zac (Zaf 31 (rowsN l)),Zac (i64 fr)]= [Zar (Qz5 ly3),Zac (i64 me5),Zac (Zaf 31 (rowsN l4)),Zac (i64 fr6)]∧(Zaa l4≤9223372036854775807∧q7=nbS ly3 l4 me5 fr6)∧R (.d (bo q7)) b)))))):=by kernel_rfl
theorem BRh9 (ly:LayT) (t:TabT) (me:Int) (l:List NearT) (fr:Int) (ht:TabMx t) (hl:l.length≤9223372036854775807):PCall prog 19 [layA ly,tabA t, .d (i64 me), .d (.sl 31 (rowsN l)), .d (i64 fr)] (.d (bo (newS ly t me l fr))):=by
 refine PCall.ofFn (n:=100) (u:=false) mixed CEx9 Zah func19 (by rfl) (by rfl) fun Ev bb=> ?_
 rw [BIr9]
 refine ⟨t,ly,_,rfl,⟨ht,rfl⟩,Zbd (fun c1=> ?_) fun c1=> ?_⟩
 · have h1:ACn9 t ly=false:=by rw [←AUr9];simpa using c1
   rw [newS,h1];rfl
 have h1:ACn9 t ly=true:=by rw [←AUr9];simpa using c1
 have hv:=ACr9 h1
 have ew:Zae IntKind.i64 (ly.no - 1)=ly.no - 1:=ABb9 (by omega) (by omega)
 have e:newS ly t me l fr=(inN me (ly.no - 1)&&(inN fr 999999992&&nbS ly l me fr)):=by rw [newS,h1,ew];rfl
 rw [e]
 refine Zbd (fun c2=> ?_) fun c2=>Zbd (fun c3=> ?_) fun c3=>Zbd (fun c4=> ?_) fun c4=>Zbd (fun c5=> ?_) fun c5=>⟨ly,l,me,fr,_,rfl,⟨hl,rfl⟩, ?_⟩
 · have:=of_decide_eq_true c2
   rw [show inN me (ly.no - 1)=false by rw [inN,decide_eq_false (by omega)];rfl];rfl
 · have:=of_decide_eq_true c3
   rw [show inN me (ly.no - 1)=false by rw [inN,decide_eq_false (p:=me≤ly.no - 1) (by omega),Zcx]];rfl
 · have:=of_decide_eq_true c4
   rw [show inN fr 999999992=false by rw [inN,decide_eq_false (by omega)];rfl,Zcn,Zcx]
 · have:=of_decide_eq_true c5
   rw [show inN fr 999999992=false by rw [inN,decide_eq_false (p:=fr≤999999992) (by omega),Zcx],Zcn,Zcx]
 · have a2:=of_decide_eq_false c2
   have a3:=of_decide_eq_false c3
   have a4:=of_decide_eq_false c4
   have a5:=of_decide_eq_false c5
   rw [show inN me (ly.no - 1)=true by rw [inN,decide_eq_true (by omega),decide_eq_true (by omega)];rfl,show inN fr 999999992=true by rw [inN,decide_eq_true (by omega),decide_eq_true (by omega)];rfl]
   rfl
def BNz9 (args:List AV) (K:AV→Prop):Prop:=∃(ly:LayT) (t:TabT) (me:Int) (l:List NearT) (fr:Int) (q:Bool),args= [layA ly,tabA t, .d (i64 me), .d (.sl 31 (rowsN l)), .d (i64 fr)]∧(TabMx t∧l.length≤9223372036854775807∧q=newS ly t me l fr)∧K (.d (bo q))
theorem BFe9:∀args K,BNz9 args K→∃x,PCall prog 19 args x∧K x:=by
 rintro _ K ⟨ly,t,me,l,fr,_,rfl,⟨ht,hl,rfl⟩,hk⟩;exact ⟨_,BRh9 ly t me l fr ht hl,hk⟩
def h0:TabT:=⟨[], [], []⟩
def hb:TabT:=⟨[], [], [⟨1,4,0⟩,⟨2,4,0⟩]⟩
def ha:TabT:=⟨[], [⟨1,4,1,1,9⟩,⟨2,4,1,1,9⟩], []⟩
def hc:TabT:=⟨[⟨1,4,0,1⟩,⟨2,4,0,1⟩], [], []⟩
def hd:TabT:=⟨[], [⟨1,4,1,1,11⟩,⟨2,4,1,1,11⟩], []⟩
def hl:LayT:=⟨2,4⟩
theorem heB:askS hl h0 1 [toldN 0 h0 0] 0 2 0=hb:=by kernel_rfl
theorem heA:AOl9 hl h0 0 [toldN 1 hb 1] 1=ha:=by kernel_rfl
theorem heC:takeS hl hb 1 [toldN 0 ha 2] 2=hc:=by kernel_rfl
theorem heD:AOl9 hl ha 0 [toldN 1 hc 3] 3=hd:=by kernel_rfl
def CBh9 (args:List AV) (K:AV→Prop):Prop:=∃(t:TabT) (me fr:Int) (q:List NearT),LeVs args [.d (i64 me),tabA t, .d (i64 fr)]∧q= [toldN me t fr]∧K (.d (.sl 31 (rowsN q)))
theorem BLk9:∀args K,CBh9 args K→∃x,PCall prog 32 args x∧K x:=by
 rintro args K ⟨t,me,fr,_,hl,rfl,hk⟩
 obtain ⟨x,hx,hk⟩:=BUl9 _ _ ⟨t,me,fr,_,rfl,rfl,hk⟩
 exact ⟨x,hx.leArgsV hl,hk⟩
def cAskV (args:List AV) (K:AV→Prop):Prop:=∃(ly:LayT) (t q:TabT) (me:Int) (l:List NearT) (pe many fr:Int),LeVs args [layA ly,tabA t, .d (i64 me), .d (.sl 31 (rowsN l)), .d (i64 pe), .d (i64 many), .d (i64 fr)]∧(TabOk t∧l.length<1000000∧(∀x∈l,ASa9 x)∧q=askS ly t me l pe many fr)∧K (tabA q)
theorem BUz9:∀args K,cAskV args K→∃x,PCall prog 12 args x∧K x:=by
 rintro args K ⟨ly,t,q,me,l,pe,many,fr,hl,h,hk⟩
 obtain ⟨x,hx,hk⟩:=CBu9 _ _ ⟨ly,t,q,me,l,pe,many,fr,rfl,h,hk⟩
 exact ⟨x,hx.leArgsV hl,hk⟩
def BOf9 (args:List AV) (K:AV→Prop):Prop:=∃(ly:LayT) (t q:TabT) (me:Int) (l:List NearT) (fr:Int),LeVs args [layA ly,tabA t, .d (i64 me), .d (.sl 31 (rowsN l)), .d (i64 fr)]∧(TabOk t∧l.length<1000000∧(∀x∈l,AEv9 x)∧q=AOl9 ly t me l fr)∧K (tabA q)
theorem BFw9:∀args K,BOf9 args K→∃x,PCall prog 13 args x∧K x:=by
 rintro args K ⟨ly,t,q,me,l,fr,hl,h,hk⟩
 obtain ⟨x,hx,hk⟩:=BLt9 _ _ ⟨ly,t,q,me,l,fr,rfl,h,hk⟩
 exact ⟨x,hx.leArgsV hl,hk⟩
def CBj9 (args:List AV) (K:AV→Prop):Prop:=∃(ly:LayT) (t q:TabT) (me:Int) (l:List NearT) (fr:Int),LeVs args [layA ly,tabA t, .d (i64 me), .d (.sl 31 (rowsN l)), .d (i64 fr)]∧(TabOk t∧l.length<1000000∧(∀x∈l,AEv9 x)∧q=takeS ly t me l fr)∧K (tabA q)
theorem BLn9:∀args K,CBj9 args K→∃x,PCall prog 14 args x∧K x:=by
 rintro args K ⟨ly,t,q,me,l,fr,hl,h,hk⟩
 obtain ⟨x,hx,hk⟩:=BFa9 _ _ ⟨ly,t,q,me,l,fr,rfl,h,hk⟩
 exact ⟨x,hx.leArgsV hl,hk⟩
def CBl9 (args:List AV) (K:AV→Prop):Prop:=∃(t s:TabT) (q:Bool),LeVs args [tabA t,tabA s]∧(TabLq t∧q=sameS t s)∧K (.d (bo q))
theorem BLp9:∀args K,CBl9 args K→∃x,PCall prog 15 args x∧K x:=by
 rintro args K ⟨t,s,q,hl,h,hk⟩
 obtain ⟨x,hx,hk⟩:=BUo9 _ _ ⟨t,s,q,rfl,h,hk⟩
 exact ⟨x,hx.leArgsV hl,hk⟩
def THd:List (Nat×(List AV→(AV→Prop)→Prop)):= [(12,cAskV),(13,BOf9),(14,CBj9),(15,CBl9),(32,CBh9)]
theorem CFg9:AAb9 prog THd:=Zaj BUz9 (Zaj BFw9 (Zaj BLn9 (Zaj BLp9 (Zaj BLk9 Zak))))
abbrev Qz31 (v0:TabT) (v1:List NearT):List AV:= [Zar [Zac (i64 2),Zac (i64 4)],Zar (Qz2 v0),Zac (i64 1),Zac (Zaf 31 (rowsN v1)),Zac (i64 10)]
abbrev Qz42 (v0:Int) (v1:TabT) (v2:Int):List AV:= [Zac (i64 v0),Zar (Qz2 v1),Zac (i64 v2)]
abbrev Qz50 (v0:TabT):List AV:= [Zac (i64 0),Zar (Qz2 v0),Zac (i64 9)]
theorem CAj9:wpFn prog ⟨THd, [],wl,y,false⟩ 100 f10 [] b R=(∃(t0:TabT) (me1:Int) (fr2:Int) (q3:List NearT),LeVs [Zac (i64 0),Zar Qz6,Zac (i64 0)] (Qz42 me1 t0 fr2)∧q3= [toldN me1 t0 fr2]∧∃(ly4:LayT) (t5:TabT) (q6:TabT) (me7:Int) (l8:List NearT) (pe9:Int) (many10:Int) (fr11:Int),LeVs [Zar [Zac (i64 2),Zac (i64 4)],Zar Qz6,Zac (i64 1),Zac (Zaf 31 (rowsN q3)),Zac (i64 0),Zac (i64 2),Zac (i64 0)] [Zar (Qz5 ly4),Zar (Qz2 t5),Zac (i64 me7),Zac (Zaf 31 (rowsN l8)),Zac (i64 pe9),Zac (i64 many10),Zac (i64 fr11)]∧((Zaa (Zbo t5)<10000∧Zaa (Zbu t5)<10000∧Zaa (Zbw t5)<10000)∧Zaa l8<1000000∧(∀(x:NearT),x∈l8→Zaa (Zbz x)<10000∧Zaa (Zbr x)<10000∧Zaa (Zco x)<10000)∧q6=askS ly4 t5 me7 l8 pe9 many10 fr11)∧∃(t12:TabT) (me13:Int) (fr14:Int) (q15:List NearT),LeVs [Zac (i64 1),Zar (Qz2 q6),Zac (i64 1)] (Qz42 me13 t12 fr14)∧q15= [toldN me13 t12 fr14]∧∃(ly16:LayT) (t17:TabT) (q18:TabT) (me19:Int) (l20:List NearT) (fr21:Int),LeVs [Zar [Zac (i64 2),Zac (i64 4)],Zar Qz6,Zac (i64 0),Zac (Zaf 31 (rowsN q15)),Zac (i64 1)] (Qz18 ly16 t17 me19 l20 fr21)∧((Zaa (Zbo t17)<10000∧Zaa (Zbu t17)<10000∧Zaa (Zbw t17)<10000)∧Zaa l20<1000000∧(∀(x:NearT),x∈l20→Zaa (Zbz x)<1000000∧Zaa (Zbr x)<1000000∧Zaa (Zco x)<1000000)∧q18=AOl9 ly16 t17 me19 l20 fr21)∧∃(t22:TabT) (me23:Int) (fr24:Int) (q25:List NearT),LeVs [Zac (i64 0),Zar (Qz2 q18),Zac (i64 2)] (Qz42 me23 t22 fr24)∧q25= [toldN me23 t22 fr24]∧∃(ly26:LayT) (t27:TabT) (q28:TabT) (me29:Int) (l30:List NearT) (fr31:Int),LeVs [Zar [Zac (i64 2),Zac (i64 4)],Zar (Qz2 q6),Zac (i64 1),Zac (Zaf 31 (rowsN q25)),Zac (i64 2)] (Qz18 ly26 t27 me29 l30 fr31)∧((Zaa (Zbo t27)<10000∧Zaa (Zbu t27)<10000∧Zaa (Zbw t27)<10000)∧Zaa l30<1000000∧(∀(x:NearT),x∈l30→Zaa (Zbz x)<1000000∧Zaa (Zbr x)<1000000∧Zaa (Zco x)<1000000)∧q28=takeS ly26 t27 me29 l30 fr31)∧∃(t32:TabT) (me33:Int) (fr34:Int) (q35:List NearT),LeVs [Zac (i64 1),Zar (Qz2 q28),Zac (i64 3)] (Qz42 me33 t32 fr34)∧q35= [toldN me33 t32 fr34]∧∃(ly36:LayT) (t37:TabT) (q38:TabT) (me39:Int) (l40:List NearT) (fr41:Int),LeVs [Zar [Zac (i64 2),Zac (i64 4)],Zar (Qz2 q18),Zac (i64 0),Zac (Zaf 31 (rowsN q35)),Zac (i64 3)] (Qz18 ly36 t37 me39 l40 fr41)∧((Zaa (Zbo t37)<10000∧Zaa (Zbu t37)<10000∧Zaa (Zbw t37)<10000)∧Zaa l40<1000000∧(∀(x:NearT),x∈l40→Zaa (Zbz x)<1000000∧Zaa (Zbr x)<1000000∧Zaa (Zco x)<1000000)∧q38=AOl9 ly36 t37 me39 l40 fr41)∧∃(t42:TabT) (s43:TabT) (q44:Bool),LeVs [Zar (Qz2 q6),Zar [Zac (Dv.s (.slice none 0 0)),Zac (Dv.s (.slice none 0 0)),AV.full 3 [[i64 1,i64 4,i64 0], [i64 2,i64 4,i64 0]]]] [Zar (Qz2 t42),Zar (Qz2 s43)]∧((Zaa (Zbo t42)<1000000∧Zaa (Zbu t42)<1000000∧Zaa (Zbw t42)<1000000)∧q44=sameS t42 s43)∧BIf q44 (∃(t45:TabT) (s46:TabT) (q47:Bool),LeVs [Zar (Qz2 q18),Zar [Zac (Dv.s (.slice none 0 0)),AV.full 5 [[i64 1,i64 4,i64 1,i64 1,i64 9], [i64 2,i64 4,i64 1,i64 1,i64 9]],Zac (Dv.s (.slice none 0 0))]] [Zar (Qz2 t45),Zar (Qz2 s46)]∧((Zaa (Zbo t45)<1000000∧Zaa (Zbu t45)<1000000∧Zaa (Zbw t45)<1000000)∧q47=sameS t45 s46)∧BIf q47 (∃(t48:TabT) (s49:TabT) (q50:Bool),LeVs [Zar (Qz2 q28),Zar [AV.full 4 [[i64 1,i64 4,i64 0,i64 1], [i64 2,i64 4,i64 0,i64 1]],Zac (Dv.s (.slice none 0 0)),Zac (Dv.s (.slice none 0 0))]] [Zar (Qz2 t48),Zar (Qz2 s49)]∧((Zaa (Zbo t48)<1000000∧Zaa (Zbu t48)<1000000∧Zaa (Zbw t48)<1000000)∧q50=sameS t48 s49)∧BIf q50 (BIf (((Zaa (rowsG (Zbu q38)):Nat):Int)==(2:Int)) (∃(x51:Int) (x52:Int) (x53:Int) (x54:Int) (x55:Int),(rowsG (Zbu q38))[0]? =some (Qz40 x51 x52 x53 x54 x55)∧BIf (x55==(11:Int)) (∃(x58:Int) (x59:Int) (x60:Int) (x61:Int) (x62:Int),(rowsG (Zbu q38))[0]? =some (Qz40 x58 x59 x60 x61 x62)∧∃(t65:TabT) (me66:Int) (fr67:Int) (q68:List NearT),LeVs (Qz50 q18) (Qz42 me66 t65 fr67)∧q68= [toldN me66 t65 fr67]∧∃(ly69:LayT) (t70:TabT) (q71:TabT) (me72:Int) (l73:List NearT) (fr74:Int),LeVs (Qz31 q28 q68) (Qz18 ly69 t70 me72 l73 fr74)∧((Zaa (Zbo t70)<10000∧Zaa (Zbu t70)<10000∧Zaa (Zbw t70)<10000)∧Zaa l73<1000000∧(∀(x:NearT),x∈l73→Zaa (Zbz x)<1000000∧Zaa (Zbr x)<1000000∧Zaa (Zco x)<1000000)∧q71=takeS ly69 t70 me72 l73 fr74)∧BIf (x61==(1:Int)) (BIf (((Zaa (rowsU (Zbo q71)):Nat):Int)==(0:Int)) (∃(ly75:LayT) (t76:TabT) (q77:TabT) (me78:Int) (l79:List NearT) (pe80:Int) (many81:Int) (fr82:Int),LeVs [Zar [Zac (i64 2),Zac (i64 4)],Zar (Qz2 q6),Zac (i64 1),Zac (Dv.s (.slice none 0 0)),Zac (i64 0),Zac (i64 2),Zac (i64 0)] [Zar (Qz5 ly75),Zar (Qz2 t76),Zac (i64 me78),Zac (Zaf 31 (rowsN l79)),Zac (i64 pe80),Zac (i64 many81),Zac (i64 fr82)]∧((Zaa (Zbo t76)<10000∧Zaa (Zbu t76)<10000∧Zaa (Zbw t76)<10000)∧Zaa l79<1000000∧(∀(x:NearT),x∈l79→Zaa (Zbz x)<10000∧Zaa (Zbr x)<10000∧Zaa (Zco x)<10000)∧q77=askS ly75 t76 me78 l79 pe80 many81 fr82)∧R (.d (bo (((Zaa (rowsA (Zbw q77)):Nat):Int)==(0:Int)))) b) (R (.d (bo false)) b)) (R (.d (bo false)) b)) (∃(t83:TabT) (me84:Int) (fr85:Int) (q86:List NearT),LeVs (Qz50 q18) (Qz42 me84 t83 fr85)∧q86= [toldN me84 t83 fr85]∧∃(ly87:LayT) (t88:TabT) (q89:TabT) (me90:Int) (l91:List NearT) (fr92:Int),LeVs (Qz31 q28 q86) (Qz18 ly87 t88 me90 l91 fr92)∧((Zaa (Zbo t88)<10000∧Zaa (Zbu t88)<10000∧Zaa (Zbw t88)<10000)∧Zaa l91<1000000∧(∀(x:NearT),x∈l91→Zaa (Zbz x)<1000000∧Zaa (Zbr x)<1000000∧Zaa (Zco x)<1000000)∧q89=takeS ly87 t88 me90 l91 fr92)∧R (.d (bo false)) b)) (∃(t93:TabT) (me94:Int) (fr95:Int) (q96:List NearT),LeVs (Qz50 q18) (Qz42 me94 t93 fr95)∧q96= [toldN me94 t93 fr95]∧∃(ly97:LayT) (t98:TabT) (q99:TabT) (me100:Int) (l101:List NearT) (fr102:Int),LeVs (Qz31 q28 q96) (Qz18 ly97 t98 me100 l101 fr102)∧((Zaa (Zbo t98)<10000∧Zaa (Zbu t98)<10000∧Zaa (Zbw t98)<10000)∧Zaa l101<1000000∧(∀(x:NearT),x∈l101→Zaa (Zbz x)<1000000∧Zaa (Zbr x)<1000000∧Zaa (Zco x)<1000000)∧q99=takeS ly97 t98 me100 l101 fr102)∧R (.d (bo false)) b)) (∃(t103:TabT) (me104:Int) (fr105:Int) (q106:List NearT),LeVs (Qz50 q18) (Qz42 me104 t103 fr105)∧q106= [toldN me104 t103 fr105]∧∃(ly107:LayT) (t108:TabT) (q109:TabT) (me110:Int) (l111:List NearT) (fr112:Int),LeVs (Qz31 q28 q106) (Qz18 ly107 t108 me110 l111 fr112)∧((Zaa (Zbo t108)<10000∧Zaa (Zbu t108)<10000∧Zaa (Zbw t108)<10000)∧Zaa l111<1000000∧(∀(x:NearT),x∈l111→Zaa (Zbz x)<1000000∧Zaa (Zbr x)<1000000∧Zaa (Zco x)<1000000)∧q109=takeS ly107 t108 me110 l111 fr112)∧R (.d (bo false)) b)) (∃(t113:TabT) (me114:Int) (fr115:Int) (q116:List NearT),LeVs (Qz50 q18) (Qz42 me114 t113 fr115)∧q116= [toldN me114 t113 fr115]∧∃(ly117:LayT) (t118:TabT) (q119:TabT) (me120:Int) (l121:List NearT) (fr122:Int),LeVs (Qz31 q28 q116) (Qz18 ly117 t118 me120 l121 fr122)∧((Zaa (Zbo t118)<10000∧Zaa (Zbu t118)<10000∧Zaa (Zbw t118)<10000)∧Zaa l121<1000000∧(∀(x:NearT),x∈l121→Zaa (Zbz x)<1000000∧Zaa (Zbr x)<1000000∧Zaa (Zco x)<1000000)∧q119=takeS ly117 t118 me120 l121 fr122)∧R (.d (bo false)) b)) (∃(t123:TabT) (me124:Int) (fr125:Int) (q126:List NearT),LeVs (Qz50 q18) (Qz42 me124 t123 fr125)∧q126= [toldN me124 t123 fr125]∧∃(ly127:LayT) (t128:TabT) (q129:TabT) (me130:Int) (l131:List NearT) (fr132:Int),LeVs (Qz31 q28 q126) (Qz18 ly127 t128 me130 l131 fr132)∧((Zaa (Zbo t128)<10000∧Zaa (Zbu t128)<10000∧Zaa (Zbw t128)<10000)∧Zaa l131<1000000∧(∀(x:NearT),x∈l131→Zaa (Zbz x)<1000000∧Zaa (Zbr x)<1000000∧Zaa (Zco x)<1000000)∧q129=takeS ly127 t128 me130 l131 fr132)∧R (.d (bo false)) b)):=by kernel_rfl
theorem lv0:LeV (.agg [.d (.s (.slice none 0 0)), .d (.s (.slice none 0 0)), .d (.s (.slice none 0 0))]) (tabA h0):=LeV.aggs (.cons (.nil rfl) (.cons (.nil rfl) (.cons (.nil rfl) .nil)))
theorem okH {t:TabT} (h1:t.us.length<10) (h2:t.gs.length<10) (h3:t.ak.length<10):TabOk t:=⟨by omega,by omega,by omega⟩
theorem lqH {t:TabT} (h1:t.us.length<10) (h2:t.gs.length<10) (h3:t.ak.length<10):TabLq t:=⟨by omega,by omega,by omega⟩
theorem nearH {t:TabT} (h1:t.us.length<10) (h2:t.gs.length<10) (h3:t.ak.length<10) (me fr:Int):∀x∈ [toldN me t fr],AEv9 x:=fun x hx=>by
 rw [List.mem_singleton] at hx;subst hx
 exact ⟨by simp only [toldN];omega,by simp only [toldN];omega,by simp only [toldN];omega⟩
theorem CEb9 {t:TabT} (h1:t.us.length<10) (h2:t.gs.length<10) (h3:t.ak.length<10) (me fr:Int):∀x∈ [toldN me t fr],ASa9 x:=fun x hx=>by
 rw [List.mem_singleton] at hx;subst hx
 exact ⟨by simp only [toldN];omega,by simp only [toldN];omega,by simp only [toldN];omega⟩
theorem heE2:takeS hl hc 1 [toldN 0 ha 9] 10=h0:=by kernel_rfl
theorem heF2:askS hl hb 1 [] 0 2 0=h0:=by kernel_rfl
theorem CDw9:PCall prog 10 [] (.d (bo true)):=by
 refine PCall.ofFn (n:=100) (u:=false) mixed CFg9 Zah func10 (by rfl) (by rfl) fun Ev bb=> ?_
 rw [CAj9]
 refine ⟨h0,0,0, [toldN 0 h0 0], .cons .rfl (.cons lv0 (.cons .rfl .nil)),rfl, ?_⟩
 refine ⟨hl,h0,hb,1, [toldN 0 h0 0],0,2,0, .cons .rfl (.cons lv0 (Zew _)),⟨okH (by decide) (by decide) (by decide),by decide,CEb9 (by decide) (by decide) (by decide) _ _,heB.symm⟩, ?_⟩
 refine ⟨hb,1,1, [toldN 1 hb 1],Zew _,rfl, ?_⟩
 refine ⟨hl,h0,ha,0, [toldN 1 hb 1],1, .cons .rfl (.cons lv0 (Zew _)),⟨okH (by decide) (by decide) (by decide),by decide,nearH (by decide) (by decide) (by decide) _ _,heA.symm⟩, ?_⟩
 refine ⟨ha,0,2, [toldN 0 ha 2],Zew _,rfl, ?_⟩
 refine ⟨hl,hb,hc,1, [toldN 0 ha 2],2,Zew _,⟨okH (by decide) (by decide) (by decide),by decide,nearH (by decide) (by decide) (by decide) _ _,heC.symm⟩, ?_⟩
 refine ⟨hc,1,3, [toldN 1 hc 3],Zew _,rfl, ?_⟩
 refine ⟨hl,ha,hd,0, [toldN 1 hc 3],3,Zew _,⟨okH (by decide) (by decide) (by decide),by decide,nearH (by decide) (by decide) (by decide) _ _,heD.symm⟩, ?_⟩
 refine ⟨hb,hb,true, .cons .rfl (.cons (LeV.aggs (.cons (.nil rfl) (.cons (.nil rfl) (.cons .full .nil)))) .nil),⟨lqH (by decide) (by decide) (by decide),(AKt9 hb).symm⟩,Zba rfl ?_⟩
 refine ⟨ha,ha,true, .cons .rfl (.cons (LeV.aggs (.cons (.nil rfl) (.cons .full (.cons (.nil rfl) .nil)))) .nil),⟨lqH (by decide) (by decide) (by decide),(AKt9 ha).symm⟩,Zba rfl ?_⟩
 refine ⟨hc,hc,true, .cons .rfl (.cons (LeV.aggs (.cons .full (.cons (.nil rfl) (.cons (.nil rfl) .nil)))) .nil),⟨lqH (by decide) (by decide) (by decide),(AKt9 hc).symm⟩,Zba rfl ?_⟩
 refine Zba (by decide) ⟨1,4,1,1,11,rfl,Zba (by decide) ⟨1,4,1,1,11,rfl, ?_⟩⟩
 refine ⟨ha,0,9, [toldN 0 ha 9],Zew _,rfl, ?_⟩
 refine ⟨hl,hc,h0,1, [toldN 0 ha 9],10,Zew _,⟨okH (by decide) (by decide) (by decide),by decide,nearH (by decide) (by decide) (by decide) _ _,heE2.symm⟩,Zba (by decide) (Zba rfl ?_)⟩
 exact ⟨hl,hb,h0,1, [],0,2,0, .cons .rfl (.cons .rfl (.cons .rfl (.cons (.nil rfl) (Zew _)))),⟨okH (by decide) (by decide) (by decide),by decide,by simp,heF2.symm⟩,rfl⟩
def cHead (args:List AV) (K:AV→Prop):Prop:=args= []∧K (.d (bo true))
theorem BUw9:∀args K,cHead args K→∃x,PCall prog 10 args x∧K x:=by
 rintro _ K ⟨rfl,hk⟩;exact ⟨_,CDw9,hk⟩
theorem AJp9 {α:Type} (p:α→Bool) (g:α):∀l:List α,(insP p g l).Perm (g::l)
 | []=> .refl _
 | x::r=>by
   rw [insP]
   split
   · exact .refl _
   · exact ((AJp9 p g r).cons x).trans (List.Perm.swap g x r)
theorem ANb9 {α:Type} {sl:α→Int} {g:α}:∀ {l:List α},l.Pairwise (fun a b=>sl a<sl b)→(∀x∈l,sl x≠sl g)→(insP (fun x=>decide (sl x>sl g)) g l).Pairwise (fun a b=>sl a<sl b)
 | [],_,_=>List.pairwise_singleton _ _
 | x::r,h,hn=>by
   obtain ⟨h1,h2⟩:=Zdu.1 h
   have hx:=hn x (Zbt)
   rw [insP]
   split
   · rename_i c
     have c':=of_decide_eq_true c
     refine Zdu.2 ⟨fun y hy=> ?_,h⟩
     rcases Zcd.1 hy with rfl|hy
     · exact c'
     · have:=h1 y hy;omega
   · rename_i c
     have c':¬sl x>sl g:=fun e=>c (decide_eq_true e)
     refine Zdu.2 ⟨fun y hy=> ?_,ANb9 h2 fun y hy=>hn y (Zce _ hy)⟩
     rcases Zcd.1 ((AJp9 _ g r).mem_iff.1 hy) with rfl|hy
     · omega
     · exact h1 y hy
theorem CBv9 {t:TabT} {s:Int} (h:busyT t s=false):(∀x∈t.us,x.sl≠s)∧∀x∈t.gs,x.sl≠s:=by
 rw [busyT,Bool.or_eq_false_iff,List.any_eq_false,List.any_eq_false] at h
 exact ⟨fun x hx e=>h.1 x hx (by simpa using e),fun x hx e=>h.2 x hx (by simpa using e)⟩
theorem AXi9 (t:TabT) (s:Int):((AJd9 t s).map (·.sl))=(t.ak.map (·.sl)).filter (fun x=> !(x==s)):=by
 rw [AJd9,List.filter_map];rfl
theorem BIm9 {u g a:List Int} {s:Int} (h:(u++g++a).Nodup) (hu:s∉u) (hg:s∉g):(s::(u++g++a.filter fun x=> !(x==s))).Nodup:=by
 refine List.nodup_cons.2 ⟨fun hm=> ?_, ?_⟩
 · rw [List.mem_append,List.mem_append] at hm
   rcases hm with (hm|hm)|hm
   · exact hu hm
   · exact hg hm
   · have:=(Zed.1 hm).2
     simp at this
 · exact h.sublist (List.Sublist.append (List.Sublist.refl _) List.filter_sublist)
theorem AHe9.addU {t:TabT} {ly:LayT} {g:UseT} (h:AHe9 t ly) (hg:useOk g ly=true) (hb:busyT t g.sl=false) (hn:t.us.length+t.gs.length<24):AHe9 ⟨insSU g t.us,t.gs,AJd9 t g.sl⟩ ly:=by
 obtain ⟨h1,⟨h2,h3⟩,⟨u1,u2⟩,h4,⟨a1,a2⟩,h5⟩:=h
 obtain ⟨b1,b2⟩:=CBv9 hb
 have hp:=AJp9 (fun x:UseT=>decide (x.sl>g.sl)) g t.us
 refine ⟨h1,⟨?_, ?_⟩,⟨fun x hx=> ?_,ANb9 (sl:=fun x:UseT=>x.sl) u2 b1⟩,h4,⟨fun x hx=>a1 x (Zed.1 hx).1,a2.sublist List.filter_sublist⟩, ?_⟩
 · have:=hp.length_eq
   simp only [List.length_cons] at this
   show (insP _ g t.us).length+t.gs.length≤24
   omega
 · exact Nat.le_trans (List.length_filter_le _ _) h3
 · rcases Zcd.1 (hp.mem_iff.1 hx) with rfl|hx
   · exact hg
   · exact u1 x hx
 · have h6:=BIm9 (s:=g.sl) h5 (fun hm=>by obtain ⟨x,hx,he⟩:=Zbj.1 hm;exact b1 x hx he) (fun hm=>by obtain ⟨x,hx,he⟩:=Zbj.1 hm;exact b2 x hx he)
   refine List.Perm.nodup (List.Perm.symm ?_) h6
   show ((insP _ g t.us).map (·.sl)++t.gs.map (·.sl)++(AJd9 t g.sl).map (·.sl)).Perm _
   rw [AXi9]
   have h7:((insP (fun x:UseT=>decide (x.sl>g.sl)) g t.us).map (·.sl)).Perm (g.sl::t.us.map (·.sl)):=hp.map _
   exact (h7.append_right _).append_right _
theorem AZq9 {t:TabT} {ly:LayT} {g:UseT} (h:refEU t ly g=0):AHe9 (addSU t ly g) ly:=by
 obtain ⟨h1,h2,h3,h4⟩:=ANx9 h
 rw [addSU,if_pos h]
 exact (AKa9.1 h1).addU h2 h3 h4
theorem AOp9 {α β:Type} {P:β→Prop} {f:β→α→β} (hf:∀b a,P b→P (f b a)):∀(l:List α) {b:β},P b→P (l.foldl f b)
 | [],b,h=>h
 |x::r,b,h=>AOp9 hf r (hf b x h)
theorem APu9 {s:SideT} {ly:LayT} {ts:Prs} {t:TabT} (h:AHe9 t ly):AHe9 (s.ns.foldl (takeN s ly ts) t) ly:=
 AOp9 (P:=fun t=>AHe9 t ly) (fun t n h=>by
   unfold takeN
   split
   · refine AOp9 (P:=fun t=>AHe9 t ly) (fun t a h=> ?_) _ h
     unfold ADv9
     split
     · rename_i h1;exact AZq9 h1
     · exact h
   · exact h) _ h
def LayIn (ly:LayT):Prop:=(1≤ly.no∧ly.no≤60)∧(1≤ly.da∧ly.da≤60)
theorem BLe9 {ly:LayT} (h:LayIn ly) (sl of pe:Int):ABs9 sl of pe ly=ABr9 sl of pe ly:=by
 obtain ⟨h1,h2⟩:=h
 rw [ABs9,ABb9 (by omega) (by omega),ABb9 (by omega) (by omega),Bool.eq_iff_iff]
 simp only [inN,ABr9,Zal,decide_eq_true_eq]
 omega
theorem BTf9 {ly:LayT} (h:LayIn ly) (x:GraT):graIs x ly=graOk x ly:=by
 rw [graIs,graOk,BLe9 h,Bool.eq_iff_iff]
 simp only [inN,Zal,decide_eq_true_eq]
 constructor
 · rintro ⟨h1,h2,⟨h3,h4⟩,h5⟩;exact ⟨h1,h2,h4,h5⟩
 · rintro ⟨h1,h2,h4,h5⟩;exact ⟨h1,h2,⟨h2,h4⟩,h5⟩
theorem CAq9 {ly:LayT} (h:LayIn ly) (n:NearT):(filN ly n).gs=n.gs.filter fun x=>graOk x ly:=by
 show n.gs.filter _=_
 simp only [BTf9 h]
theorem BXw9 {ly:LayT} {me:Int} {l:List NearT} {fr:Int} (h:LayIn ly):∀n∈(sideS ly me l fr).ns,∀g∈n.gs,graOk g ly=true:=by
 intro n hn g hg
 simp only [sideS,Zbj] at hn
 obtain ⟨x,_,rfl⟩:=hn
 rw [CAq9 h] at hg
 exact (Zed.1 hg).2
theorem BBm9 {ly:LayT} {me:Int} {l:List NearT} {fr:Int} (h:LayIn ly) (u v:UseT) (hu:useOk u ly=true) (hv:v∈ACs9 (sideS ly me l fr) u):useOk v ly=true∧v.sl=u.sl:=by
 unfold ACs9 at hv
 split at hv
 · rename_i g hg
   rw [List.mem_singleton] at hv
   subst hv
   have hm:=(Zed.1 (List.mem_of_find?_eq_some hg)).1
   have hg2:graOk g ly=true:=by
     cases hf:sFind (sideS ly me l fr) u.pe with
     |none=>rw [hf] at hm;simp [nearO,zeroN] at hm
     | some n=>
       rw [hf] at hm
       exact BXw9 h n (List.mem_of_find?_eq_some hf) g hm
   simp only [useOk,graOk,Zal,decide_eq_true_eq] at hu hg2 ⊢
   exact ⟨⟨hu.1,by omega,by omega⟩,trivial⟩
 · cases hv
theorem APs9 {s:SideT} (us:List UseT):((us.flatMap (ACs9 s)).map (·.sl)).Sublist (us.map (·.sl)):=by
 induction us with
 |nil=>exact List.Sublist.refl _
 | cons u r ih=>
   rw [List.flatMap_cons,List.map_append,List.map_cons]
   unfold ACs9
   split
   · exact ih.cons_cons _
   · exact ih.cons _
theorem AHe9.taken {t:TabT} {ly:LayT} {me:Int} {l:List NearT} {fr:Int} (h:AHe9 t ly) (hl:LayIn ly):AHe9 ⟨t.us.flatMap (ACs9 (sideS ly me l fr)),t.gs,t.ak⟩ ly:=by
 obtain ⟨h1,⟨h2,h3⟩,⟨u1,u2⟩,h4,h5,h6⟩:=h
 have hs:=APs9 (s:=sideS ly me l fr) t.us
 have hln:=hs.length_le
 simp only [List.length_map] at hln
 refine ⟨h1,⟨by show (t.us.flatMap _).length+t.gs.length≤24;omega,h3⟩,⟨fun x hx=> ?_, ?_⟩,h4,h5, ?_⟩
 · obtain ⟨u,hu,hx⟩:=List.mem_flatMap.1 hx
   exact (BBm9 hl u x (u1 u hu) hx).1
 · have h7:(t.us.map (·.sl)).Pairwise (fun a b=>a<b):=List.pairwise_map.2 u2
   exact List.pairwise_map.1 (h7.sublist hs)
 · exact h6.sublist (List.Sublist.append (List.Sublist.append hs (List.Sublist.refl _)) (List.Sublist.refl _))
theorem AXj9 {ly:LayT} {t:TabT} {me:Int} {l:List NearT} {fr:Int} (h:newS ly t me l fr=true):AHe9 (takeS ly t me l fr) ly:=by
 rw [takeS,if_pos h]
 exact APu9 ((AKa9.1 (AHa9 h)).taken (ACr9 (AHa9 h)))
theorem BQt9 {t:TabT} {l:List NearT} (h:AQa9 t l=true):TabOk t∧l.length<1000000∧(∀x∈l,ASa9 x)∧∀x∈l,AEv9 x:=by
 rw [AQa9,Zal,BEb9] at h
 obtain ⟨h1,h2,h3,h4⟩:=h
 rw [ATl9,Zal,Bool.not_eq_true',decide_eq_true_eq] at h1
 have hl:l.length≤70:=by omega
 have h5:∀x∈l,x.us.length≤40∧x.gs.length≤40∧x.ak.length≤40:=fun x hx=>by
   have h6:=h1.1
   rw [List.take_of_length_le hl,List.any_eq_false] at h6
   have h7:=h6 x hx
   simp only [manyN,Bool.or_eq_true,decide_eq_true_eq,not_or] at h7
   omega
 refine ⟨⟨by omega,by omega,by omega⟩,by omega,fun x hx=> ?_,fun x hx=> ?_⟩
 · have:=h5 x hx;exact ⟨by omega,by omega,by omega⟩
 · have:=h5 x hx;exact ⟨by omega,by omega,by omega⟩
noncomputable def lpGt0:Code:=sub [1,1,1,1,1,1,0,1,2,3] (code Tryz.f5)
noncomputable def lpGt1:Code:=sub [1,1,1,1,1,1,0,1,2,3,1,0,2,1,0,1,2,3] (code Tryz.f5)
noncomputable def lpGt2:Code:=sub [1,1,1,1,1,1,0,1,2,3,1,0,2,1,0,1,2,3,1,0,2,1,2,3] (code Tryz.f5)
def tmGt (me fr:Int) (l:List NearT) (u:Bool) (i f k j:AV):List AV:= [.bad, .bad, .d (i64 me), .d (.sl 31 (rowsN l)), .d (i64 fr), .bad, .bad, .bad, .bad, .bad, .bad, .d (bo u), .bad, .bad, .ptr 2 0,i,f,k,j]++List.replicate 112 .bad
abbrev Qz16 (v0:LayT) (v1:TabT) (v2:TabT):= [Blk.mk (Qz5 v0) false false 0,Blk.mk (Qz2 v1) false false 0,Blk.mk (Qz2 v2) false false 0]
theorem rGt2 (ly:LayT) (t c:TabT) (me fr:Int) (l:List NearT) (u f:Bool) (i k j:Int):wpc prog ⟨[], [],wl,y,false⟩ 100 lpGt2 (tmGt me fr l u (.d (i64 i)) (.d (bo f)) (.d (i64 k)) (.d (i64 j))) [layB ly,tabB t,tabB c] b (maskK 3 [2,3,4,11,14,15,16,17,18] K)=(BIf (true&&decide (0≤k)) (∃(x0:Int) (x1:Int) (x2:Int) (x3:Int) (x4:Int) (x5:Int) (x6:Int) (x7:Int) (x8:Int) (x9:Int) (x10:Int) (x11:Int) (xs12:List (List Dv)) (xs13:List (List Dv)) (xs14:List (List Dv)) (xs15:List (List Dv)) (b16:Bool) (xs17:List (List Dv)) (xs18:List (List Dv)) (xs19:List (List Dv)) (x20:Int) (x21:Int) (x22:Int) (x23:Int) (x24:Int) (x25:Int) (x26:Int) (x27:Int) (xs28:List (List Dv)) (xs29:List (List Dv)) (b30:Bool),(rowsN l)[Zao k]? =some [i64 x0,i64 x1,i64 x2,i64 x3,i64 x4,i64 x5,i64 x6,i64 x7,i64 x8,i64 x9,i64 x10,i64 x11,Zaf 4 xs12,Zaf 5 xs13,Zaf 3 xs14,Zaf 4 xs15,bo b16,Zaf 8 xs17,Zaf 8 xs18,Zaf 1 xs19,i64 x20,i64 x21,u64 x22,i64 x23,i64 x24,i64 x25,i64 x26,i64 x27,Zaf 1 xs28,Zaf 1 xs29,bo b30]∧BIf (decide (j<((Zaa xs13:Nat):Int))) (BIf (true&&decide (0≤k)) (∃(x33:Int) (x34:Int) (x35:Int) (x36:Int) (x37:Int) (x38:Int) (x39:Int) (x40:Int) (x41:Int) (x42:Int) (x43:Int) (x44:Int) (xs45:List (List Dv)) (xs46:List (List Dv)) (xs47:List (List Dv)) (xs48:List (List Dv)) (b49:Bool) (xs50:List (List Dv)) (xs51:List (List Dv)) (xs52:List (List Dv)) (x53:Int) (x54:Int) (x55:Int) (x56:Int) (x57:Int) (x58:Int) (x59:Int) (x60:Int) (xs61:List (List Dv)) (xs62:List (List Dv)) (b63:Bool),(rowsN l)[Zao k]? =some [i64 x33,i64 x34,i64 x35,i64 x36,i64 x37,i64 x38,i64 x39,i64 x40,i64 x41,i64 x42,i64 x43,i64 x44,Zaf 4 xs45,Zaf 5 xs46,Zaf 3 xs47,Zaf 4 xs48,bo b49,Zaf 8 xs50,Zaf 8 xs51,Zaf 1 xs52,i64 x53,i64 x54,u64 x55,i64 x56,i64 x57,i64 x58,i64 x59,i64 x60,Zaf 1 xs61,Zaf 1 xs62,bo b63]∧BIf (true&&decide (0≤j)) (∃(x66:Int) (x67:Int) (x68:Int) (x69:Int) (x70:Int),xs46[Zao j]? =some (Qz40 x66 x67 x68 x69 x70)∧BIf f (K .normal (Zab::Zab::Zac (i64 me)::Zac (Zaf 31 (rowsN l))::Zac (i64 fr)::bds 6 (Zac (bo u)::Zab::Zab::Zai 2 0::Zac (i64 i)::Zac (bo true)::Zac (i64 k)::Zac (i64 (Zae .i64 (j+1)))::bds 112 [])) (Qz16 ly t c) b) (BIf (true&&decide (0≤k)) (∃(x73:Int) (x74:Int) (x75:Int) (x76:Int) (x77:Int) (x78:Int) (x79:Int) (x80:Int) (x81:Int) (x82:Int) (x83:Int) (x84:Int) (xs85:List (List Dv)) (xs86:List (List Dv)) (xs87:List (List Dv)) (xs88:List (List Dv)) (b89:Bool) (xs90:List (List Dv)) (xs91:List (List Dv)) (xs92:List (List Dv)) (x93:Int) (x94:Int) (x95:Int) (x96:Int) (x97:Int) (x98:Int) (x99:Int) (x100:Int) (xs101:List (List Dv)) (xs102:List (List Dv)) (b103:Bool),(rowsN l)[Zao k]? =some [i64 x73,i64 x74,i64 x75,i64 x76,i64 x77,i64 x78,i64 x79,i64 x80,i64 x81,i64 x82,i64 x83,i64 x84,Zaf 4 xs85,Zaf 5 xs86,Zaf 3 xs87,Zaf 4 xs88,bo b89,Zaf 8 xs90,Zaf 8 xs91,Zaf 1 xs92,i64 x93,i64 x94,u64 x95,i64 x96,i64 x97,i64 x98,i64 x99,i64 x100,Zaf 1 xs101,Zaf 1 xs102,bo b103]∧BIf (true&&decide (0≤i)) (∃(x106:Int) (x107:Int) (x108:Int) (x109:Int),(rowsU (Zbo c))[Zao i]? =some [i64 x106,i64 x107,i64 x108,i64 x109]∧BIf (x74==x108) (BIf (true&&decide (0≤i)) (∃(x112:Int) (x113:Int) (x114:Int) (x115:Int),(rowsU (Zbo c))[Zao i]? =some [i64 x112,i64 x113,i64 x114,i64 x115]∧BIf (x66==x112&&(x67==x113&&true)) (BIf (x68==me) (BIf (decide (x70≥fr)) (BIf (true&&decide (0≤i)) (∃(x118:Int) (x119:Int) (x120:Int) (x121:Int),(rowsU (Zbo c))[Zao i]? =some [i64 x118,i64 x119,i64 x120,i64 x121]∧K .normal (Zab::Zab::Zac (i64 me)::Zac (Zaf 31 (rowsN l))::Zac (i64 fr)::bds 6 (Zac (bo u)::Zab::Zab::Zai 2 0::Zac (i64 i)::Zac (bo (x69==x121))::Zac (i64 k)::Zac (i64 (Zae .i64 (j+1)))::bds 112 [])) (Qz16 ly t c) b) False) (K .normal (Zab::Zab::Zac (i64 me)::Zac (Zaf 31 (rowsN l))::Zac (i64 fr)::bds 6 (Zac (bo u)::Zab::Zab::Zai 2 0::Zac (i64 i)::Zac (bo false)::Zac (i64 k)::Zac (i64 (Zae .i64 (j+1)))::bds 112 [])) (Qz16 ly t c) b)) (K .normal (Zab::Zab::Zac (i64 me)::Zac (Zaf 31 (rowsN l))::Zac (i64 fr)::bds 6 (Zac (bo u)::Zab::Zab::Zai 2 0::Zac (i64 i)::Zac (bo false)::Zac (i64 k)::Zac (i64 (Zae .i64 (j+1)))::bds 112 [])) (Qz16 ly t c) b)) (K .normal (Zab::Zab::Zac (i64 me)::Zac (Zaf 31 (rowsN l))::Zac (i64 fr)::bds 6 (Zac (bo u)::Zab::Zab::Zai 2 0::Zac (i64 i)::Zac (bo false)::Zac (i64 k)::Zac (i64 (Zae .i64 (j+1)))::bds 112 [])) (Qz16 ly t c) b)) False) (K .normal (Zab::Zab::Zac (i64 me)::Zac (Zaf 31 (rowsN l))::Zac (i64 fr)::bds 6 (Zac (bo u)::Zab::Zab::Zai 2 0::Zac (i64 i)::Zac (bo false)::Zac (i64 k)::Zac (i64 (Zae .i64 (j+1)))::bds 112 [])) (Qz16 ly t c) b)) False) False)) False) False) (K (Exit.exit 4) (Zab::Zab::Zac (i64 me)::Zac (Zaf 31 (rowsN l))::Zac (i64 fr)::bds 6 (Zac (bo u)::Zab::Zab::Zai 2 0::Zac (i64 i)::Zac (bo f)::Zac (i64 k)::Zac (i64 j)::bds 112 [])) (Qz16 ly t c) b)) False):=by kernel_rfl
def gtP (v:UseT) (me fr:Int) (n:NearT) (g:GraT):Bool:=n.fm==v.pe&&((g.sl==v.sl&&(g.of==v.of&&true))&&(g.pe==me&&(decide (g.un≥fr)&&g.st==v.st)))
theorem wrGt2 {Ev:Env prog} {b:Ev.β} {Q:Exit→St Ev.β→Prop} (ly:LayT) (t c:TabT) (me fr:Int) (l:List NearT) (u:Bool) (i k:Nat) (v:UseT) (n:NearT) (f0:Bool) (hv:c.us[i]? =some v) (hn:l[k]? =some n) (hl:n.gs.length≤9223372036854775807)
   (hQ:∀j:Int,Q (.exit 4) ⟨tmGt me fr l u (.d (i64 i)) (.d (bo (f0||n.gs.any (gtP v me fr n)))) (.d (i64 k)) (.d (i64 j)), [layB ly,tabB t,tabB c],b⟩):
   WR Ev lpGt2 (n.gs.length+1) ⟨tmGt me fr l u (.d (i64 i)) (.d (bo (f0||(n.gs.take 0).any (gtP v me fr n)))) (.d (i64 k)) (.d (i64 (0:Nat))), [layB ly,tabB t,tabB c],b⟩ Q:=by
 refine WR.scanL (X:=⟨[], [],wlW Ev,Ev.Y,false⟩) (k:=100) [2,3,4,11,14,15,16,17,18] mixed (CX.Ok.of Zak Zah) n.gs (fun _=>false) (fun j=>tmGt me fr l u (.d (i64 i)) (.d (bo (f0||(n.gs.take j).any (gtP v me fr n)))) (.d (i64 k)) (.d (i64 (j:Nat)))) (fun j=>tmGt me fr l u (.d (i64 i)) (.d (bo (f0||(n.gs.take j).any (gtP v me fr n)))) (.d (i64 k)) (.d (i64 (j:Nat)))) [layB ly,tabB t,tabB c] 4 (fun j x hj hx K k1 k2=> ?_) (fun K k1=> ?_) (fun h=> ?_) fun h i=>by simp at h
 · refine Eq.mpr (rGt2 _ _ _ K ly t c me fr l u _ i k j) ?_
   have k2:=k2 rfl
   simp only [BHe9 _ _ _ _ hx,←Bool.or_assoc] at k2
   rw [wrapN (by omega)]
   refine Zba (natI k) ⟨_,_,_,_,_,_,_,_,_,_,_,_,_,_,_,_,_,_,_,_,_,_,_,_,_,_,_,_,_,_,_,ABt9 hn,Zba (by rw [AAg9];simp;omega) (Zba (natI k) ⟨_,_,_,_,_,_,_,_,_,_,_,_,_,_,_,_,_,_,_,_,_,_,_,_,_,_,_,_,_,_,_,ABt9 hn,Zba (natI j) ⟨_,_,_,_,_,ABu9 hx,Zbd (fun hz=> ?_) fun hz=>Zba (natI k) ⟨_,_,_,_,_,_,_,_,_,_,_,_,_,_,_,_,_,_,_,_,_,_,_,_,_,_,_,_,_,_,_,ABt9 hn,Zba (natI i) ⟨_,_,_,_,ABy9 hv,Zbd (fun c1=>Zba (natI i) ⟨_,_,_,_,ABy9 hv,Zbd (fun c2=>Zbd (fun c3=>Zbd (fun c4=>Zba (natI i) ⟨_,_,_,_,ABy9 hv, ?_⟩) fun c4=> ?_) fun c3=> ?_) fun c2=> ?_⟩) fun c1=> ?_⟩⟩⟩⟩)⟩
   · rw [hz,Bool.true_or] at k2;exact k2
   · have e:gtP v me fr n x=(x.st==v.st):=by
       rw [gtP,show (n.fm==v.pe)=true from c1,show (x.sl==v.sl&&(x.of==v.of&&true))=true from c2,show (x.pe==me)=true from c3,show decide (x.un≥fr)=true from c4];rfl
     rw [hz,Bool.false_or,e] at k2;exact k2
   · have e:gtP v me fr n x=false:=by
       rw [gtP,show decide (x.un≥fr)=false from c4];simp
     rw [hz,Bool.false_or,e] at k2;exact k2
   · have e:gtP v me fr n x=false:=by
       rw [gtP,show (x.pe==me)=false from c3];simp
     rw [hz,Bool.false_or,e] at k2;exact k2
   · have e:gtP v me fr n x=false:=by
       rw [gtP,show (x.sl==v.sl&&(x.of==v.of&&true))=false from c2];simp
     rw [hz,Bool.false_or,e] at k2;exact k2
   · have e:gtP v me fr n x=false:=by
       rw [gtP,show (n.fm==v.pe)=false from c1];rfl
     rw [hz,Bool.false_or,e] at k2;exact k2
 · refine Eq.mpr (rGt2 _ _ _ K ly t c me fr l u _ i k _) ?_
   exact Zba (natI k) ⟨_,_,_,_,_,_,_,_,_,_,_,_,_,_,_,_,_,_,_,_,_,_,_,_,_,_,_,_,_,_,_,ABt9 hn,BIf.f (by rw [AAg9];simp) k1⟩
 · simp only [Zdc]
   exact hQ _
def wlGt2 {β:Type}:WLT β:=fun cd tm hp b K=>∃(ly:LayT) (t c:TabT) (me fr:Int) (l:List NearT) (u:Bool) (i k:Nat) (v:UseT) (n:NearT) (f0 q:Bool),cd= .loop lpGt2∧AAz9 [2,3,4,11,14,15,16,17,18] 0 tm=tmGt me fr l u (.d (i64 i)) (.d (bo f0)) (.d (i64 k)) (.d (i64 0))∧hp= [layB ly,tabB t,tabB c]∧(c.us[i]? =some v∧l[k]? =some n∧n.gs.length≤9223372036854775807∧q=(f0||n.gs.any (gtP v me fr n)))∧
 ∀j:Int,K (.exit 4) (tmGt me fr l u (.d (i64 i)) (.d (bo q)) (.d (i64 k)) (.d (i64 j))) [layB ly,tabB t,tabB c] b
theorem BQc9 {Ev:Env prog} (c:Code) (tm:List AV) (hp:List Blk) (b:Ev.β) (K:Exit→List AV→List Blk→Ev.β→Prop) (h:wlGt2 c tm hp b K):W Ev c ⟨tm,hp,b⟩ (fun e s=>K e s.tm s.hp s.b):=by
 obtain ⟨ly,t,c,me,fr,l,u,i,k,v,n,f0,q,rfl,htm,rfl,⟨hv,hn,hl,rfl⟩,hK⟩:=h
 refine W.cast (htm▸AAc9 _ tm 0) (LeH.refl _) ?_
 have h1:=wrGt2 (Q:=fun e s=>K e s.tm s.hp s.b) (b:=b) ly t c me fr l u i k v n f0 hv hn hl hK
 rw [List.take_zero,List.any_nil,Bool.or_false] at h1
 exact W.rounds h1
theorem rGt1 (ly:LayT) (t c:TabT) (me fr:Int) (l:List NearT) (u f:Bool) (i k:Int):wpc prog ⟨[], [],wlGt2,y,false⟩ 100 lpGt1 (tmGt me fr l u (.d (i64 i)) (.d (bo f)) (.d (i64 k)) .bad) [layB ly,tabB t,tabB c] b (maskK 3 [2,3,4,11,14,15,16,17] K)=(BIf (decide (k<((Zaa (rowsN l):Nat):Int))) (∃(ly0:LayT) (t1:TabT) (c2:TabT) (me3:Int) (fr4:Int) (l5:List NearT) (u6:Bool) (i7:Nat) (k8:Nat) (v9:UseT) (n10:NearT) (f11:Bool) (q12:Bool),Zax lpGt2=Zax lpGt2∧(Zab::Zab::Zac (i64 me)::Zac (Zaf 31 (rowsN l))::Zac (i64 fr)::bds 6 (Zac (bo u)::Zab::Zab::Zai 2 0::Zac (i64 i)::Zac (bo f)::Zac (i64 k)::Zac (i64 0)::bds 112 []))=(Zab::Zab::Zac (i64 me3)::Zac (Zaf 31 (rowsN l5))::Zac (i64 fr4)::bds 6 (Zac (bo u6)::Zab::Zab::Zai 2 0::Zac (i64 (i7:Int))::Zac (bo f11)::Zac (i64 (k8:Int))::Zac (i64 0)::bds 112 []))∧(Qz16 ly t c)=(Qz16 ly0 t1 c2)∧((Zbo c2)[i7]? =some v9∧l5[k8]? =some n10∧Zaa (Zbr n10)≤9223372036854775807∧q12=(f11||List.any (Zbr n10) (gtP v9 me3 fr4 n10)))∧∀(j:Int),K .normal (Zab::Zab::Zac (i64 me3)::Zac (Zaf 31 (rowsN l5))::Zac (i64 fr4)::bds 6 (Zac (bo u6)::Zab::Zab::Zai 2 0::Zac (i64 (i7:Int))::Zac (bo q12)::Zac (i64 (Zae .i64 ((k8:Int)+(1:Int))))::bds 113 [])) (Qz16 ly0 t1 c2) b) (K (Exit.exit 2) (Zab::Zab::Zac (i64 me)::Zac (Zaf 31 (rowsN l))::Zac (i64 fr)::bds 6 (Zac (bo u)::Zab::Zab::Zai 2 0::Zac (i64 i)::Zac (bo f)::Zac (i64 k)::bds 113 [])) (Qz16 ly t c) b)):=by kernel_rfl
def gtN (v:UseT) (me fr:Int) (n:NearT):Bool:=n.gs.any (gtP v me fr n)
def GsOk (l:List NearT):Prop:=l.length≤9223372036854775807∧∀n∈l,n.gs.length≤9223372036854775807
theorem wrGt1 {Ev:Env prog} {b:Ev.β} {Q:Exit→St Ev.β→Prop} (ly:LayT) (t c:TabT) (me fr:Int) (l:List NearT) (u:Bool) (i:Nat) (v:UseT) (hv:c.us[i]? =some v) (hl:GsOk l)
   (hQ:∀k:Int,Q (.exit 2) ⟨tmGt me fr l u (.d (i64 i)) (.d (bo (l.any (gtN v me fr)))) (.d (i64 k)) .bad, [layB ly,tabB t,tabB c],b⟩):
   WR Ev lpGt1 (l.length+1) ⟨tmGt me fr l u (.d (i64 i)) (.d (bo ((l.take 0).any (gtN v me fr)))) (.d (i64 (0:Nat))) .bad, [layB ly,tabB t,tabB c],b⟩ Q:=by
 refine WR.scanL (X:=⟨[], [],wlGt2,Ev.Y,false⟩) (k:=100) [2,3,4,11,14,15,16,17] mixed (CX.Ok.ofWl Zak Zah BQc9) l (fun _=>false) (fun k=>tmGt me fr l u (.d (i64 i)) (.d (bo ((l.take k).any (gtN v me fr)))) (.d (i64 (k:Nat))) .bad) (fun k=>tmGt me fr l u (.d (i64 i)) (.d (bo ((l.take k).any (gtN v me fr)))) (.d (i64 (k:Nat))) .bad) [layB ly,tabB t,tabB c] 2 (fun k x hk hx K k1 k2=> ?_) (fun K k1=> ?_) (fun h=> ?_) fun h i=>by simp at h
 · refine Eq.mpr (rGt1 _ _ K ly t c me fr l u _ i k) ?_
   have k2:=k2 rfl
   have hlen:=hl.1
   simp only [BHe9 _ _ _ _ hx] at k2
   rw [ABz9]
   refine Zba (by simp;omega) ⟨ly,t,c,me,fr,l,u,i,k,v,x,_,_,rfl,rfl,rfl,⟨hv,hx,hl.2 x (List.mem_of_getElem? hx),rfl⟩,fun j=> ?_⟩
   rw [wrapN (by omega)]
   exact k2
 · refine Eq.mpr (rGt1 _ _ K ly t c me fr l u _ i _) ?_
   rw [ABz9]
   exact BIf.f (by simp) k1
 · simp only [Zdc]
   exact hQ _
def wlGt1 {β:Type}:WLT β:=fun cd tm hp b K=>∃(ly:LayT) (t c:TabT) (me fr:Int) (l:List NearT) (u:Bool) (i:Nat) (v:UseT) (q:Bool),cd= .loop lpGt1∧AAz9 [2,3,4,11,14,15,16,17] 0 tm=tmGt me fr l u (.d (i64 i)) (.d (bo false)) (.d (i64 0)) .bad∧hp= [layB ly,tabB t,tabB c]∧(c.us[i]? =some v∧GsOk l∧q=l.any (gtN v me fr))∧
 ∀k:Int,K (.exit 2) (tmGt me fr l u (.d (i64 i)) (.d (bo q)) (.d (i64 k)) .bad) [layB ly,tabB t,tabB c] b
theorem BQd9 {Ev:Env prog} (c:Code) (tm:List AV) (hp:List Blk) (b:Ev.β) (K:Exit→List AV→List Blk→Ev.β→Prop) (h:wlGt1 c tm hp b K):W Ev c ⟨tm,hp,b⟩ (fun e s=>K e s.tm s.hp s.b):=by
 obtain ⟨ly,t,c,me,fr,l,u,i,v,q,rfl,htm,rfl,⟨hv,hl,rfl⟩,hK⟩:=h
 refine W.cast (htm▸AAc9 _ tm 0) (LeH.refl _) ?_
 exact W.rounds (wrGt1 (Q:=fun e s=>K e s.tm s.hp s.b) (b:=b) ly t c me fr l u i v hv hl hK)
theorem rGt0 (ly:LayT) (t c:TabT) (me fr:Int) (l:List NearT) (u:Bool) (i:Int):wpc prog ⟨[], [],wlGt1,y,false⟩ 100 lpGt0 (tmGt me fr l u (.d (i64 i)) .bad .bad .bad) [layB ly,tabB t,tabB c] b (maskK 3 [2,3,4,11,14,15] K)=(BIf (decide (i<((Zaa (rowsU (Zbo c)):Nat):Int))) (∃(ly0:LayT) (t1:TabT) (c2:TabT) (me3:Int) (fr4:Int) (l5:List NearT) (u6:Bool) (i7:Nat) (v8:UseT) (q9:Bool),Zax lpGt1=Zax lpGt1∧(Zab::Zab::Zac (i64 me)::Zac (Zaf 31 (rowsN l))::Zac (i64 fr)::bds 6 (Zac (bo u)::Zab::Zab::Zai 2 0::Zac (i64 i)::Zac (bo false)::Zac (i64 0)::bds 113 []))=(Zab::Zab::Zac (i64 me3)::Zac (Zaf 31 (rowsN l5))::Zac (i64 fr4)::bds 6 (Zac (bo u6)::Zab::Zab::Zai 2 0::Zac (i64 (i7:Int))::Zac (bo false)::Zac (i64 0)::bds 113 []))∧(Qz16 ly t c)=(Qz16 ly0 t1 c2)∧((Zbo c2)[i7]? =some v8∧(Zaa l5≤9223372036854775807∧∀(n:NearT),n∈l5→Zaa (Zbr n)≤9223372036854775807)∧q9=List.any l5 (gtN v8 me3 fr4))∧∀(k:Int),BIf u6 (K .normal (Zab::Zab::Zac (i64 me3)::Zac (Zaf 31 (rowsN l5))::Zac (i64 fr4)::bds 6 (Zac (bo q9)::Zab::Zab::Zai 2 0::Zac (i64 (Zae .i64 ((i7:Int)+(1:Int))))::bds 115 [])) (Qz16 ly0 t1 c2) b) (K .normal (Zab::Zab::Zac (i64 me3)::Zac (Zaf 31 (rowsN l5))::Zac (i64 fr4)::bds 6 (Zac (bo false)::Zab::Zab::Zai 2 0::Zac (i64 (Zae .i64 ((i7:Int)+(1:Int))))::bds 115 [])) (Qz16 ly0 t1 c2) b)) (K (Exit.exit 0) (Zab::Zab::Zac (i64 me)::Zac (Zaf 31 (rowsN l))::Zac (i64 fr)::bds 6 (Zac (bo u)::Zab::Zab::Zai 2 0::Zac (i64 i)::bds 115 [])) (Qz16 ly t c) b)):=by kernel_rfl
theorem BVd9 {α:Type} (p:α→Bool) (l:List α) (k:Nat) (x:α) (h:l[k]? =some x):(l.take (k+1)).all p=((l.take k).all p&&p x):=by
 rw [List.take_add_one,h,List.all_append];simp
def gtV (me fr:Int) (l:List NearT) (v:UseT):Bool:=l.any (gtN v me fr)
theorem wrGt0 {Ev:Env prog} {b:Ev.β} {Q:Exit→St Ev.β→Prop} (ly:LayT) (t c:TabT) (me fr:Int) (l:List NearT) (hl:GsOk l) (hc:c.us.length≤9223372036854775807)
   (hQ:∀i:Int,Q (.exit 0) ⟨tmGt me fr l (c.us.all (gtV me fr l)) (.d (i64 i)) .bad .bad .bad, [layB ly,tabB t,tabB c],b⟩):
   WR Ev lpGt0 (c.us.length+1) ⟨tmGt me fr l ((c.us.take 0).all (gtV me fr l)) (.d (i64 (0:Nat))) .bad .bad .bad, [layB ly,tabB t,tabB c],b⟩ Q:=by
 refine WR.scanL (X:=⟨[], [],wlGt1,Ev.Y,false⟩) (k:=100) [2,3,4,11,14,15] mixed (CX.Ok.ofWl Zak Zah BQd9) c.us (fun _=>false) (fun i=>tmGt me fr l ((c.us.take i).all (gtV me fr l)) (.d (i64 (i:Nat))) .bad .bad .bad) (fun i=>tmGt me fr l ((c.us.take i).all (gtV me fr l)) (.d (i64 (i:Nat))) .bad .bad .bad) [layB ly,tabB t,tabB c] 0 (fun i x hi hx K k1 k2=> ?_) (fun K k1=> ?_) (fun h=> ?_) fun h i=>by simp at h
 · refine Eq.mpr (rGt0 _ _ K ly t c me fr l _ i) ?_
   have k2:=k2 rfl
   simp only [BVd9 _ _ _ _ hx] at k2
   rw [AAj9]
   refine Zba (by simp;omega) ⟨ly,t,c,me,fr,l,_,i,x,_,rfl,rfl,rfl,⟨hx,hl,rfl⟩,fun j=>Zbd (fun g=> ?_) fun g=> ?_⟩
   · rw [wrapN (by omega)];rw [g,Bool.true_and] at k2;exact k2
   · rw [wrapN (by omega)];rw [g,Zcn] at k2;exact k2
 · refine Eq.mpr (rGt0 _ _ K ly t c me fr l _ _) ?_
   rw [AAj9]
   exact BIf.f (by simp) k1
 · simp only [Zdc]
   exact hQ _
def wlGt {β:Type}:WLT β:=fun cd tm hp b K=>∃(ly:LayT) (t c:TabT) (me fr:Int) (l:List NearT) (q:Bool),cd= .loop lpGt0∧AAz9 [2,3,4,11,14,15] 0 tm=tmGt me fr l true (.d (i64 0)) .bad .bad .bad∧hp= [layB ly,tabB t,tabB c]∧(GsOk l∧c.us.length≤9223372036854775807∧q=c.us.all (gtV me fr l))∧
 ∀i:Int,K (.exit 0) (tmGt me fr l q (.d (i64 i)) .bad .bad .bad) [layB ly,tabB t,tabB c] b
theorem BXc9 {Ev:Env prog} (c:Code) (tm:List AV) (hp:List Blk) (b:Ev.β) (K:Exit→List AV→List Blk→Ev.β→Prop) (h:wlGt c tm hp b K):W Ev c ⟨tm,hp,b⟩ (fun e s=>K e s.tm s.hp s.b):=by
 obtain ⟨ly,t,c,me,fr,l,q,rfl,htm,rfl,⟨hl,hc,rfl⟩,hK⟩:=h
 refine W.cast (htm▸AAc9 _ tm 0) (LeH.refl _) ?_
 exact W.rounds (wrGt0 (Q:=fun e s=>K e s.tm s.hp s.b) (b:=b) ly t c me fr l hl hc hK)
def TL5:List (Nat×(List AV→(AV→Prop)→Prop)):= [(10,cHead),(11,CBk9),(19,BNz9),(14,cTake)]
theorem CFb9:AAb9 prog TL5:=Zaj BUw9 (Zaj BLo9 (Zaj BFe9 (Zaj BFa9 Zak)))
abbrev Qz58 (v0:Int) (v1:List NearT) (v2:Int):=Zab::Zab::Zac (i64 v0)::Zac (Zaf 31 (rowsN v1))::Zac (i64 v2)::bds 6 (Zac (bo true)::Zab::Zab::Zai 2 0::Zac (i64 0)::bds 115 [])
theorem CAf9 (ly:LayT) (t:TabT) (me:Int) (l:List NearT) (fr:Int):wpFn prog ⟨TL5, [],wlGt,y,false⟩ 100 Tryz.f5 [layA ly,tabA t, .d (i64 me), .d (.sl 31 (rowsN l)), .d (i64 fr)] b R=(([]:List AV)= []∧∃(t0:TabT) (l1:List NearT) (q2:Bool), [Zar (Qz2 t),Zac (Zaf 31 (rowsN l))]= [Zar (Qz2 t0),Zac (Zaf 31 (rowsN l1))]∧q2=AQa9 t0 l1∧∃(ly3:LayT) (t4:TabT) (me5:Int) (l6:List NearT) (fr7:Int) (q8:Bool),(Qz18 ly t me l fr)=(Qz18 ly3 t4 me5 l6 fr7)∧((Zaa (Zbo t4)≤9223372036854775807∧Zaa (Zbu t4)≤9223372036854775807∧Zaa (Zbw t4)≤9223372036854775807)∧Zaa l6≤9223372036854775807∧q8=newS ly3 t4 me5 l6 fr7)∧BIf (!q2) (R (.d (bo true)) b) (BIf (!q8) (R (.d (bo true)) b) (∃(ly9:LayT) (t10:TabT) (q11:TabT) (me12:Int) (l13:List NearT) (fr14:Int),(Qz18 ly t me l fr)=(Qz18 ly9 t10 me12 l13 fr14)∧((Zaa (Zbo t10)<10000∧Zaa (Zbu t10)<10000∧Zaa (Zbw t10)<10000)∧Zaa l13<1000000∧(∀(x:NearT),x∈l13→Zaa (Zbz x)<1000000∧Zaa (Zbr x)<1000000∧Zaa (Zco x)<1000000)∧q11=takeS ly9 t10 me12 l13 fr14)∧∃(ly15:LayT) (t16:TabT) (c17:TabT) (me18:Int) (fr19:Int) (l20:List NearT) (q21:Bool),Zax lpGt0=Zax lpGt0∧(Qz58 me l fr)=(Qz58 me18 l20 fr19)∧(Qz16 ly t q11)=(Qz16 ly15 t16 c17)∧((Zaa l20≤9223372036854775807∧∀(n:NearT),n∈l20→Zaa (Zbr n)≤9223372036854775807)∧Zaa (Zbo c17)≤9223372036854775807∧q21=List.all (Zbo c17) (gtV me18 fr19 l20))∧∀(i:Int),R (.d (bo q21)) b))):=by kernel_rfl
theorem AYm9 {ly:LayT} (h:LayIn ly) {n:NearT} {g:GraT} (hg:g∈(filN ly n).gs):g∈n.gs:=by
 rw [CAq9 h] at hg
 exact (Zed.1 hg).1
def AIe9 (me fr:Int) (l:List NearT) (v:UseT):Prop:=∃n∈l,∃g∈n.gs,n.fm=v.pe∧g.sl=v.sl∧g.of=v.of∧g.pe=me∧g.un≥fr∧g.st=v.st
theorem CAk9 {me fr:Int} {l:List NearT} {v:UseT}:gtV me fr l v=true↔AIe9 me fr l v:=by
 simp only [gtV,gtN,gtP,List.any_eq_true,Zal,beq_iff_eq,decide_eq_true_eq,and_true,AIe9]
 constructor
 · rintro ⟨n,hn,g,hg,h1,⟨h2,h3⟩,h4,h5,h6⟩;exact ⟨n,hn,g,hg,h1,h2,h3,h4,h5,h6⟩
 · rintro ⟨n,hn,g,hg,h1,h2,h3,h4,h5,h6⟩;exact ⟨n,hn,g,hg,h1,⟨h2,h3⟩,h4,h5,h6⟩
theorem APt9 {ly:LayT} {t:TabT} {me:Int} {l:List NearT} {fr:Int} (h:newS ly t me l fr=true):∀v∈(takeS ly t me l fr).us,AIe9 me fr l v:=by
 have hl:=ACr9 (AHa9 h)
 rw [takeS,if_pos h]
 have hns:∀n∈(sideS ly me l fr).ns,∃x∈l,n=filN ly x:=fun n hn=>by
   simp only [sideS,Zbj] at hn
   obtain ⟨x,hx,rfl⟩:=hn
   exact ⟨x,hx,rfl⟩
 have hg:∀n∈(sideS ly me l fr).ns,∀g∈ADl9 (sideS ly me l fr) n,AIe9 me fr l ⟨g.sl,g.of,n.fm,g.st⟩:=fun n hn g hg=>by
   obtain ⟨x,hx,rfl⟩:=hns n hn
   have h1:=Zed.1 hg
   have h2:=h1.2
   rw [Zal] at h2
   have h3:g.pe=(sideS ly me l fr).me:=by simpa using h2.1
   have h4:g.un≥(sideS ly me l fr).fr:=of_decide_eq_true h2.2
   exact ⟨x,hx,g,AYm9 hl h1.1,rfl,rfl,rfl,h3,h4,rfl⟩
 have fold:∀(ns:List NearT),(∀n∈ns,n∈(sideS ly me l fr).ns)→∀(q:TabT),(∀v∈q.us,AIe9 me fr l v)→∀v∈(ns.foldl (takeN (sideS ly me l fr) ly (BYy9 t)) q).us,AIe9 me fr l v:=by
   intro ns
   induction ns with
   |nil=>intro _ q hq;exact hq
   | cons n ns ih=>
     intro hin q hq
     refine ih (fun m hm=>hin m (Zce _ hm)) _ ?_
     have hgn:=hg n (hin n (Zbt))
     unfold takeN
     split
     · have inner:∀(gl:List GraT),(∀g∈gl,AIe9 me fr l ⟨g.sl,g.of,n.fm,g.st⟩)→∀(q:TabT),(∀v∈q.us,AIe9 me fr l v)→∀v∈(gl.foldl (ADv9 ly n) q).us,AIe9 me fr l v:=by
         intro gl
         induction gl with
         |nil=>intro _ q hq;exact hq
         | cons g gl ih2=>
           intro hgl q hq
           refine ih2 (fun m hm=>hgl m (Zce _ hm)) _ ?_
           unfold ADv9
           split
           · rename_i h1
             rw [addSU,if_pos h1]
             intro v hv
             rcases Zcd.1 ((AJp9 _ _ q.us).mem_iff.1 hv) with rfl|hv
             · exact hgl g (Zbt)
             · exact hq v hv
           · exact hq
       exact inner _ hgn q hq
     · exact hq
 refine fold _ (fun n hn=>hn) _ fun v hv=> ?_
 obtain ⟨u,hu,hv⟩:=List.mem_flatMap.1 hv
 unfold ACs9 at hv
 split at hv
 · rename_i g hf
   rw [List.mem_singleton] at hv
   subst hv
   have hm:=List.mem_of_find?_eq_some hf
   have hp:=List.find?_some (p:=fun x:GraT=>x.sl==u.sl&&x.of==u.of) hf
   simp only [Zal,beq_iff_eq] at hp
   cases hs:sFind (sideS ly me l fr) u.pe with
   | none=>
     rw [hs] at hm
     have:=(Zed.1 hm).1
     simp [nearO,zeroN] at this
   | some n=>
     rw [hs] at hm
     have h3:=hg n (List.mem_of_find?_eq_some hs) g hm
     have h4:=List.find?_some (p:=fun x:NearT=>x.fm==u.pe) hs
     have h5:n.fm=u.pe:=by simpa using h4
     rw [hp.1,hp.2,h5] at h3
     exact h3
 · cases hv
theorem CDt9 (ly:LayT) (t:TabT) (me:Int) (l:List NearT) (fr:Int) (ht:TabMx t) (hl:l.length≤9223372036854775807):
   PCall prog 5 [layA ly,tabA t, .d (i64 me), .d (.sl 31 (rowsN l)), .d (i64 fr)] (.d (bo true)):=by
 refine PCall.ofFnW (n:=100) (u:=false) (fun _=>wlGt) mixed CFb9 Zah (fun Ev=>BXc9) func5 (by rfl) (by rfl) fun Ev bb=> ?_
 rw [CAf9]
 refine ⟨rfl,t,l,_,rfl,rfl,ly,t,me,l,fr,_,rfl,⟨ht,hl,rfl⟩,Zbd (fun _=>rfl) fun c1=>Zbd (fun _=>rfl) fun c2=> ?_⟩
 have d1:AQa9 t l=true:=by simpa using c1
 have d2:newS ly t me l fr=true:=by simpa using c2
 obtain ⟨s1,s2,s3,s4⟩:=BQt9 d1
 have v3:=AXj9 d2
 refine ⟨ly,t,takeS ly t me l fr,me,l,fr,rfl,⟨s1,s2,s4,rfl⟩,ly,t,takeS ly t me l fr,me,fr,l,true,rfl,rfl,rfl,⟨⟨hl,fun n hn=>by have:=(s4 n hn).2.1;omega⟩,by have:=v3.2.1.1;omega, ?_⟩,fun i=>rfl⟩
 exact (List.all_eq_true.2 fun v hv=>CAk9.2 (APt9 d2 v hv)).symm
end Go.Proofs.YthcbbmnjikhihaaGreat.Am
namespace Go.Proofs.YthcbbmnjikhihaaGreat.Am
open Go Go.RowKit Go.Proofs Go.ChangeShapes Go.WideShapes Go.ChangeAt Tryz
open AV renaming agg → Zar, bad → Zab, d → Zac, ptr → Zai
open BIf renaming of → Zbd, t → Zba
open Bool renaming and_eq_true → Zal, and_false → Zcx, false_and → Zcn
open AAb9 renaming cons → Zaj, nil → Zak
open Go.Code renaming loop → Zax
open Dv renaming sl → Zaf
open Int renaming toNat → Zao
open Go.IntKind renaming wrap → Zae
open LeVs renaming refl → Zew
open List renaming length → Zaa, mem_cons → Zcd, mem_cons_of_mem → Zce, mem_cons_self → Zbt, mem_filter → Zed, mem_map → Zbj, pairwise_cons → Zdu, take_length → Zdc
open NearT renaming ak → Zco, gs → Zbr, us → Zbz
open AAm9 renaming nil → Zah
open TabT renaming ak → Zbw, gs → Zbu, us → Zbo
open AV (bad)
set_option linter.unusedVariables false
set_option maxRecDepth 20000
theorem glob0 (S:Pr) (w:World):Glob S w:=fun g j v h=>by simp [AGi9] at h
theorem CCk9:ownKnob Tryz.prog.godebug=none:=by kernel_rfl
theorem AZr9:laidOutB prog=true:=by kernel_rfl
def APl9:List Ty:= [.int .i64, .int .i64, .int .i64, .int .i64]
def ATh9:List Ty:= [.int .i64, .int .i64, .int .i64, .int .i64, .int .i64]
def AUh9:List Ty:= [.int .i64, .int .i64, .int .i64]
theorem BXo9 {row:List Dv} (h:AGm9 APl9 row):∃x:UseT,row=useR x:=by
 unfold APl9 at h
 obtain _|⟨h0,h⟩:=h
 obtain _|⟨h1,h⟩:=h
 obtain _|⟨h2,h⟩:=h
 obtain _|⟨h3,h⟩:=h
 cases h
 cases h0;cases h1;cases h2;cases h3
 exact ⟨⟨_,_,_,_⟩,rfl⟩
theorem CAm9 {row:List Dv} (h:AGm9 ATh9 row):∃x:GraT,row=graR x:=by
 unfold ATh9 at h
 obtain _|⟨h0,h⟩:=h
 obtain _|⟨h1,h⟩:=h
 obtain _|⟨h2,h⟩:=h
 obtain _|⟨h3,h⟩:=h
 obtain _|⟨h4,h⟩:=h
 cases h
 cases h0;cases h1;cases h2;cases h3;cases h4
 exact ⟨⟨_,_,_,_,_⟩,rfl⟩
theorem CBy9 {row:List Dv} (h:AGm9 AUh9 row):∃x:AskT,row=askR x:=by
 unfold AUh9 at h
 obtain _|⟨h0,h⟩:=h
 obtain _|⟨h1,h⟩:=h
 obtain _|⟨h2,h⟩:=h
 cases h
 cases h0;cases h1;cases h2
 exact ⟨⟨_,_,_⟩,rfl⟩
theorem BMx9 {x:Dv} (h:HasTy (.sl APl9) x):∃l:List UseT,x= .sl 4 (rowsU l)∧l.length≤maxLen∧True:=by
 cases h with
 | sl _ xs hl h=>
   have key:∀(xs:List (List Dv)),(∀row∈xs,AGm9 APl9 row)→∃l:List UseT,xs=rowsU l:=by
     intro xs
     induction xs with
     |nil=>exact fun _=>⟨[],rfl⟩
     | cons row xs ih=>
       intro h
       obtain ⟨p,rfl⟩:=ih fun r hr=>h r (Zce _ hr)
       obtain ⟨x,rfl⟩:=BXo9 (h row (Zbt ..))
       exact ⟨x::p,rfl⟩
   obtain ⟨p,rfl⟩:=key xs h
   exact ⟨p,rfl,by simpa [rowsU] using hl,trivial⟩
theorem BNr9 {x:Dv} (h:HasTy (.sl ATh9) x):∃l:List GraT,x= .sl 5 (rowsG l)∧l.length≤maxLen∧True:=by
 cases h with
 | sl _ xs hl h=>
   have key:∀(xs:List (List Dv)),(∀row∈xs,AGm9 ATh9 row)→∃l:List GraT,xs=rowsG l:=by
     intro xs
     induction xs with
     |nil=>exact fun _=>⟨[],rfl⟩
     | cons row xs ih=>
       intro h
       obtain ⟨p,rfl⟩:=ih fun r hr=>h r (Zce _ hr)
       obtain ⟨x,rfl⟩:=CAm9 (h row (Zbt ..))
       exact ⟨x::p,rfl⟩
   obtain ⟨p,rfl⟩:=key xs h
   exact ⟨p,rfl,by simpa [rowsG] using hl,trivial⟩
theorem BOx9 {x:Dv} (h:HasTy (.sl AUh9) x):∃l:List AskT,x= .sl 3 (rowsA l)∧l.length≤maxLen∧True:=by
 cases h with
 | sl _ xs hl h=>
   have key:∀(xs:List (List Dv)),(∀row∈xs,AGm9 AUh9 row)→∃l:List AskT,xs=rowsA l:=by
     intro xs
     induction xs with
     |nil=>exact fun _=>⟨[],rfl⟩
     | cons row xs ih=>
       intro h
       obtain ⟨p,rfl⟩:=ih fun r hr=>h r (Zce _ hr)
       obtain ⟨x,rfl⟩:=CBy9 (h row (Zbt ..))
       exact ⟨x::p,rfl⟩
   obtain ⟨p,rfl⟩:=key xs h
   exact ⟨p,rfl,by simpa [rowsA] using hl,trivial⟩
def AQs9:List Ty:= [.int .i64, .int .i64, .int .i64, .int .i64, .int .i64, .int .i64, .int .i64, .int .i64, .int .i64, .int .i64, .int .i64, .int .i64, .sl APl9, .sl ATh9, .sl AUh9, .sl APl9, .bool, .sl [.int .i64, .int .i64, .int .i64, .int .i64, .int .i64, .int .i64, .int .i64, .int .i64], .sl [.int .i64, .int .i64, .int .i64, .int .i64, .int .i64, .int .i64, .int .i64, .int .i64], .sl [.int .i64], .int .i64, .int .i64, .int .u64, .int .i64, .int .i64, .int .i64, .int .i64, .int .i64, .sl [.int .u8], .sl [.int .u64], .bool]
theorem BSl9 {row:List Dv} (h:AGm9 AQs9 row):∃x:NearT,row=nearR x:=by
 unfold AQs9 at h
 obtain _|⟨h0,h⟩:=h
 obtain _|⟨h1,h⟩:=h
 obtain _|⟨h2,h⟩:=h
 obtain _|⟨h3,h⟩:=h
 obtain _|⟨h4,h⟩:=h
 obtain _|⟨h5,h⟩:=h
 obtain _|⟨h6,h⟩:=h
 obtain _|⟨h7,h⟩:=h
 obtain _|⟨h8,h⟩:=h
 obtain _|⟨h9,h⟩:=h
 obtain _|⟨h10,h⟩:=h
 obtain _|⟨h11,h⟩:=h
 obtain _|⟨h12,h⟩:=h
 obtain _|⟨h13,h⟩:=h
 obtain _|⟨h14,h⟩:=h
 obtain _|⟨h15,h⟩:=h
 obtain _|⟨h16,h⟩:=h
 obtain _|⟨h17,h⟩:=h
 obtain _|⟨h18,h⟩:=h
 obtain _|⟨h19,h⟩:=h
 obtain _|⟨h20,h⟩:=h
 obtain _|⟨h21,h⟩:=h
 obtain _|⟨h22,h⟩:=h
 obtain _|⟨h23,h⟩:=h
 obtain _|⟨h24,h⟩:=h
 obtain _|⟨h25,h⟩:=h
 obtain _|⟨h26,h⟩:=h
 obtain _|⟨h27,h⟩:=h
 obtain _|⟨h28,h⟩:=h
 obtain _|⟨h29,h⟩:=h
 obtain _|⟨h30,h⟩:=h
 cases h
 obtain ⟨us,rfl,_⟩:=BMx9 h12
 obtain ⟨gs,rfl,_⟩:=BNr9 h13
 obtain ⟨ak,rfl,_⟩:=BOx9 h14
 cases h0
 cases h1
 cases h2
 cases h3
 cases h4
 cases h5
 cases h6
 cases h7
 cases h8
 cases h9
 cases h10
 cases h11
 cases h15
 cases h16
 cases h17
 cases h18
 cases h19
 cases h20
 cases h21
 cases h22
 cases h23
 cases h24
 cases h25
 cases h26
 cases h27
 cases h28
 cases h29
 cases h30
 exact ⟨⟨_,_,us,gs,ak,_,_,_,_,_,_,_,_,_,_,_,_,_,_,_,_,_,_,_,_,_,_,_,_,_,_⟩,rfl⟩
theorem BSk9 {x:Dv} (h:HasTy (.sl AQs9) x):∃l:List NearT,x= .sl 31 (rowsN l)∧l.length≤maxLen∧True:=by
 cases h with
 | sl _ xs hl h=>
   have key:∀(xs:List (List Dv)),(∀row∈xs,AGm9 AQs9 row)→∃l:List NearT,xs=rowsN l:=by
     intro xs
     induction xs with
     |nil=>exact fun _=>⟨[],rfl⟩
     | cons row xs ih=>
       intro h
       obtain ⟨p,rfl⟩:=ih fun r hr=>h r (Zce _ hr)
       obtain ⟨x,rfl⟩:=BSl9 (h row (Zbt ..))
       exact ⟨x::p,rfl⟩
   obtain ⟨p,rfl⟩:=key xs h
   exact ⟨p,rfl,by simpa [rowsN] using hl,trivial⟩
theorem BYg9 {row:List Dv} (h:AGm9 [.int .i64, .int .i64] row):∃ly:LayT,Zar (row.map .d)=layA ly∧True:=by
 obtain _|⟨h0,h⟩:=h
 obtain _|⟨h1,h⟩:=h
 cases h
 cases h0;cases h1
 exact ⟨⟨_,_⟩,rfl,trivial⟩
theorem BYf9 {row:List Dv} (h:AGm9 [.sl APl9, .sl ATh9, .sl AUh9] row):∃t:TabT,Zar (row.map .d)=tabA t∧TabMx t:=by
 obtain _|⟨h0,h⟩:=h
 obtain _|⟨h1,h⟩:=h
 obtain _|⟨h2,h⟩:=h
 cases h
 obtain ⟨us,rfl,l0,_⟩:=BMx9 h0
 obtain ⟨gs,rfl,l1,_⟩:=BNr9 h1
 obtain ⟨ak,rfl,l2,_⟩:=BOx9 h2
 exact ⟨⟨us,gs,ak⟩,rfl,l0,l1,l2⟩
theorem CEg9:flat prog 20 23=some [.int .i64, .int .i64]:=by kernel_rfl
theorem CEf9:flat prog 20 28=some [.sl APl9, .sl ATh9, .sl AUh9]:=by kernel_rfl
theorem CEe9:flat prog 20 29=some [.sl AQs9]:=by kernel_rfl
end Go.Proofs.YthcbbmnjikhihaaGreat.Am
