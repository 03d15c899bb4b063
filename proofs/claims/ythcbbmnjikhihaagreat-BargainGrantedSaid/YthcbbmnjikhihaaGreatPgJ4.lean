import Derived.Test.YthcbbmnjikhihaaGreatPgJ3
set_option linter.unusedSimpArgs false
set_option linter.unusedVariables false
namespace Go.Proofs.YthcbbmnjikhihaaGreat.Am
open Go Go.RowKit Go.Proofs Tryz
open AV renaming agg → Zar, bad → Zab, d → Zac, fn → Zaw, full → Zez, gref → Zbi, own → Zgg, ptr → Zai, rptr → Zag
open AskT renaming pe → Zgh, sl → Zda
open BIf renaming f → Zde, of → Zbd, t → Zba
open Bool renaming and_eq_true → Zal, and_false → Zcx, and_true → Zfz, false_and → Zcn, false_eq_true → Zdb, not_eq_false' → Zee, not_eq_true' → Zct, not_not → Zfl, or_eq_true → Zej, or_true → Zfc, true_and → Zef, true_or → Zfb
open AAb9 renaming cons → Zaj, nil → Zak
open Go.Code renaming loop → Zax
open Dv renaming fn → Zcs, pt → Zdp, s → Zdo, sl → Zaf
open Go.Exit renaming exit → Zbn
open FCall renaming ofFnF → Zgm
open GraT renaming pe → Zgb, sl → Zfd, un → Zdx
open Int renaming toNat → Zao, toNat_natCast → Zcm, toNat_zero → Zfh
open Go.IntKind renaming i64 → Zbb, wrap → Zae
open LayT renaming da → Zcu, no → Zeq
open LeH renaming refl → Zby
open List renaming all → Zbk, any → Zdn, append_assoc → Zbl, append_nil → Zdr, cons_append → Zex, drop → Zcf, drop_zero → Zfi, filter → Zcl, findIdx?_cons → Zeu, getElem?_eq_getElem → Zaz, getElem?_eq_some_iff → Zad, isEmpty → Zfp, length → Zaa, length_append → Zcg, length_filter_le → Zep, length_take → Zcb, map_cons → Zdy, mem_append_right → Zdz, mem_cons_self → Zbt, mem_map → Zbj, replicate → Zap, take → Zbq, take_add_one → Zgl, take_append_of_le_length → Zer, take_length → Zdc
open Nat renaming add_mul → Zcw, le_refl → Zav
open NearT renaming ak → Zco, fm → Zgk, gs → Zbr, us → Zbz
open Option renaming map_eq_some_iff → Zan
open PCall renaming ofFn → Zbg, ofFnL → Zfs, ofFnW → Zdl
open SCall renaming ofW → Zgd
open AAm9 renaming cons → Zbs, nil → Zah
open SideT renaming fr → Zgj, lay → Zcq, me → Zgi, ns → Zat
open TabT renaming ak → Zbw, gs → Zbu, us → Zbo
open UseT renaming sl → Zfe
open Go.Value renaming int → Zet, pointer → Zci, slice → Zcy
open WR renaming ofMask → Zdj
variable {β:Type} (wl:WLT β) (y:ACw9 β) (b:β) (R:AV→β→Prop) (Kr:AV→List Blk→β→Prop) (K:Exit→List AV→List Blk→β→Prop) (Q:β→Prop)
open AV (bad)
set_option linter.unusedVariables false
set_option maxRecDepth 20000
set_option maxHeartbeats 1000000
def AJg9 {α:Type} (p:α→Bool) (x:α):List α:=if p x=true then [x] else []
theorem AJo9 {α:Type} (p:α→Bool) (x:α):(AJg9 p x).length≤1:=by rw [AJg9];split<;>simp
theorem AOa9 {α:Type} {p:α→Bool} {x:α} (h:p x=true):AJg9 p x= [x]:=by rw [AJg9,if_pos h]
theorem AOb9 {α:Type} {p:α→Bool} {x:α} (h:p x=false):AJg9 p x= []:=by rw [AJg9,if_neg (by simp [h])]
theorem AEe9 {α:Type} (p:α→Bool) (l:List α):l.flatMap (AJg9 p)=l.filter p:=by
 induction l with
 |nil=>rfl
 |cons x r ih=>rw [List.flatMap_cons,ih,List.filter_cons,AJg9];split<;>simp
def TIs:List (Nat×(List AV→(AV→Prop)→Prop)):= [(81,BFk9),(36,cIn)]
theorem CCm9:AAb9 prog TIs:=Zaj ARs9 (Zaj BFl9 Zak)
def useIs (x:UseT) (l:LayT):Bool:=ABs9 x.sl x.of x.pe l&&inN x.st 1000000000
def graIs (x:GraT) (l:LayT):Bool:=ABs9 x.sl x.of x.pe l&&(decide (x.st≥0)&&(inN x.st x.un&&decide (x.un≤1000000000)))
theorem BSu9 (x:UseT) (ly:LayT):wpFn prog ⟨TIs, [],wl,y,false⟩ 100 f76 [layA ly,useA x] b R=(∃(sl0:Int) (of1:Int) (pe2:Int) (l3:LayT) (z4:Bool), [Zar (Qz5 ly),Zar (Qz71 x),Zac (i64 (UseT.pe x))]= [Zar (Qz5 l3),Zar [Zac (i64 sl0),Zac (i64 of1)],Zac (i64 pe2)]∧z4=ABs9 sl0 of1 pe2 l3∧BIf z4 (∃(n5:Int) (h6:Int) (z7:Bool), [Zac (i64 (UseT.st x)),Zac (i64 1000000000)]= [Zac (i64 n5),Zac (i64 h6)]∧z7=inN n5 h6∧R (.d (bo z7)) b) (R (.d (bo false)) b)):=by kernel_rfl
theorem BSv9 (x:GraT) (ly:LayT):wpFn prog ⟨TIs, [],wl,y,false⟩ 100 f79 [layA ly,graA x] b R=(∃(sl0:Int) (of1:Int) (pe2:Int) (l3:LayT) (z4:Bool), [Zar (Qz5 ly),Zar (Qz72 x),Zac (i64 (Zgb x))]= [Zar (Qz5 l3),Zar [Zac (i64 sl0),Zac (i64 of1)],Zac (i64 pe2)]∧z4=ABs9 sl0 of1 pe2 l3∧BIf z4 (BIf (decide (GraT.st x≥(0:Int))) (∃(n5:Int) (h6:Int) (z7:Bool), [Zac (i64 (GraT.st x)),Zac (i64 (Zdx x))]= [Zac (i64 n5),Zac (i64 h6)]∧z7=inN n5 h6∧BIf z7 (R (.d (bo (decide (Zdx x≤(1000000000:Int))))) b) (R (.d (bo false)) b)) (R (.d (bo false)) b)) (R (.d (bo false)) b)):=by kernel_rfl
theorem BZi9 (x:UseT) (ly:LayT):PCall prog 76 [layA ly,useA x] (.d (bo (useIs x ly))):=by
 refine Zbg (n:=100) (u:=false) mixed CCm9 Zah func76 (by rfl) (by rfl) fun Ev bb=> ?_
 rw [BSu9]
 refine ⟨_,_,_,ly,_,rfl,rfl,Zbd (fun h=>⟨_,_,_,rfl,rfl, ?_⟩) fun h=> ?_⟩
 · simp only [useIs,h,Zef]
 · simp only [useIs,h,Zcn]
def CBm9 (args:List AV) (K:AV→Prop):Prop:=∃(x:UseT) (ly:LayT) (q:Bool),args= [layA ly,useA x]∧q=useIs x ly∧K (.d (bo q))
theorem BLq9:∀args K,CBm9 args K→∃x,PCall prog 76 args x∧K x:=by
 rintro _ K ⟨x,ly,_,rfl,rfl,hk⟩;exact ⟨_,BZi9 x ly,hk⟩
theorem BZj9 (x:GraT) (ly:LayT):PCall prog 79 [layA ly,graA x] (.d (bo (graIs x ly))):=by
 refine Zbg (n:=100) (u:=false) mixed CCm9 Zah func79 (by rfl) (by rfl) fun Ev bb=> ?_
 rw [BSv9]
 refine ⟨_,_,_,ly,_,rfl,rfl, ?_⟩
 repeat' (first|refine ⟨_,_,_,rfl,rfl, ?_⟩|refine Zbd (fun _=> ?_) fun _=> ?_)
 all_goals (rw [graIs];simp only [*,Zef,Zcn])
def CBn9 (args:List AV) (K:AV→Prop):Prop:=∃(x:GraT) (ly:LayT) (q:Bool),args= [layA ly,graA x]∧q=graIs x ly∧K (.d (bo q))
theorem BLr9:∀args K,CBn9 args K→∃x,PCall prog 79 args x∧K x:=by
 rintro _ K ⟨x,ly,_,rfl,rfl,hk⟩;exact ⟨_,BZj9 x ly,hk⟩
def TIu:List (Nat×(List AV→(AV→Prop)→Prop)):= [(76,CBm9)]
theorem CFc9:AAb9 prog TIu:=Zaj BLq9 Zak
def TIg:List (Nat×(List AV→(AV→Prop)→Prop)):= [(79,CBn9)]
theorem CFe9:AAb9 prog TIg:=Zaj BLr9 Zak
def TIa:List (Nat×(List AV→(AV→Prop)→Prop)):= [(81,BFk9)]
theorem CFf9:AAb9 prog TIa:=Zaj ARs9 Zak
theorem BKv9 (x:UseT) (ly:LayT):wpFn prog ⟨TIu, [],wl,y,false⟩ 100 f75 ([useA x]++ [.rptr [i64 ly.no,i64 ly.da]]) b R=(∃(x0:UseT) (ly1:LayT) (q2:Bool), [Zar (Qz5 ly),Zar (Qz9 x)]= [Zar (Qz5 ly1),Zar (Qz9 x0)]∧q2=useIs x0 ly1∧R (.d (bo q2)) b):=by kernel_rfl
theorem BRv9 (x:UseT) (ly:LayT):PCall prog 75 ([useA x]++ [.rptr [i64 ly.no,i64 ly.da]]) (.d (bo ((fun x:UseT=>useIs x ly) x))):=by
 refine Zbg (n:=100) (u:=false) mixed CFc9 Zah func75 (by rfl) (by rfl) fun Ev bb=> ?_
 rw [BKv9]
 exact ⟨x,ly,_,rfl,rfl,rfl⟩
def BOm9 (args:List AV) (K:AV→Prop):Prop:=∃(x:UseT) (ly:LayT) (q:Bool),args= [useA x]++ [.rptr [i64 ly.no,i64 ly.da]]∧q=(fun x:UseT=>useIs x ly) x∧K (.d (bo q))
theorem BGl9:∀args K,BOm9 args K→∃x,PCall prog 75 args x∧K x:=by
 rintro _ K ⟨x,ly,_,rfl,rfl,hk⟩;exact ⟨_,BRv9 x ly,hk⟩
def BVl9:List (Nat×(List AV→(AV→Prop)→Prop)):= [(75,BOm9)]
theorem BMh9:AAb9 prog BVl9:=Zaj BGl9 Zak
noncomputable def AQt9:Code:=sub [1,1,0,1,2,3] (code f74)
def AKg9 (l:List UseT) (ly:LayT) (acc:AV) (n i:Int):List AV:= [.bad, .fn (.func 75) [] [.rptr [i64 ly.no,i64 ly.da]], .bad, .bad, .bad,acc, .bad, .bad, .d (.sl 4 (rowsU l)), .d (i64 n), .d (i64 i)]++Zap 12 .bad
abbrev Qz14 (v0:LayT):List AV:= [Zag [i64 (Zeq v0),i64 (Zcu v0)]]
theorem BYk9 (l:List UseT) (ly:LayT) (xs:List (List Dv)) (n i:Int):wpc prog ⟨BVl9, [],wl,y,false⟩ 100 AQt9 (AKg9 l ly (.own 61 4 xs) n i) [] b (maskK 0 [1,5,8,9,10] K)=(BIf (decide (i<n)) (BIf (true&&decide (0≤i)) (∃(x0:Int) (x1:Int) (x2:Int) (x3:Int),(rowsU l)[Zao i]? =some [i64 x0,i64 x1,i64 x2,i64 x3]∧∃(x6:UseT) (ly7:LayT) (q8:Bool), [Zar (Qz38 x0 x1 x2 x3),Zag [i64 (Zeq ly),i64 (Zcu ly)]]= [Zar (Qz9 x6),Zag [i64 (Zeq ly7),i64 (Zcu ly7)]]∧q8=useIs x6 ly7∧BIf q8 (BIf (true&&decide ((Zaa xs+1)*32≤140737488355328)) (K .normal (Zab::Zaw (Fn.func 75) [] (Qz14 ly)::bds 3 (Zgg 61 4 (xs++ [[i64 x0,i64 x1,i64 x2,i64 x3]])::Zab::Zab::Zac (Zaf 4 (rowsU l))::Zac (i64 n)::Zac (i64 (Zae .i64 (i+1)))::bds 12 [])) [] b) False) (K .normal (Zab::Zaw (Fn.func 75) [] (Qz14 ly)::bds 3 (Zgg 61 4 xs::Zab::Zab::Zac (Zaf 4 (rowsU l))::Zac (i64 n)::Zac (i64 (Zae .i64 (i+1)))::bds 12 [])) [] b)) False) (K (Zbn 0) (Zab::Zaw (Fn.func 75) [] (Qz14 ly)::bds 3 (Zgg 61 4 xs::Zab::Zab::Zac (Zaf 4 (rowsU l))::Zac (i64 n)::Zac (i64 i)::bds 12 [])) [] b)):=by kernel_rfl
theorem BWe9 {Ev:Env prog} {b:Ev.β} {Q:Exit→St Ev.β→Prop} (l:List UseT) (ly:LayT) (hl:l.length<1000000) (hQ:∀i:Int,Q (.exit 0) ⟨AKg9 l ly (.own 61 4 (rowsU (l.filter (fun x:UseT=>useIs x ly)))) l.length i, [],b⟩):
   WR Ev AQt9 (l.length+1) ⟨AKg9 l ly (.own 61 4 (rowsU [])) l.length (0:Nat), [],b⟩ Q:=by
 refine WR.gathL (X:=⟨BVl9, [],wlW Ev,Ev.Y,false⟩) (k:=100) [1,5,8,9,10] mixed (CX.Ok.of BMh9 Zah) l (AJg9 (fun x:UseT=>useIs x ly)) (AJo9 _) (fun acc i=>AKg9 l ly (.own 61 4 (rowsU acc)) l.length (i:Nat)) [] 0 (fun i x acc hi hx ha K k1=> ?_) (fun acc K k1=> ?_) ?_
 · refine Eq.mpr (BYk9 _ _ _ K l ly _ l.length i) ?_
   rw [ABy9 hx]
   refine Zba (by simp;omega) (Zba (natI i) ⟨_,_,_,_,rfl,x,ly,_,rfl,rfl,Zbd (fun g=>Zba (by simp [AAj9];omega) ?_) fun g=> ?_⟩)
   · rw [AOa9 (p:=(fun x:UseT=>useIs x ly)) (x:=x) g,AUz9] at k1
     rw [wrapN (by omega)]
     exact k1
   · rw [AOb9 (p:=(fun x:UseT=>useIs x ly)) (x:=x) g,Zdr] at k1
     rw [wrapN (by omega)]
     exact k1
 · refine Eq.mpr (BYk9 _ _ _ K l ly _ l.length _) ?_
   exact Zde (by simp) k1
 · rw [AEe9];exact hQ _
def BAk9 {β:Type}:WLT β:=fun cd tm hp b K=>∃(l:List UseT) (ly:LayT),cd= .loop AQt9∧AAz9 [1,5,8,9,10] 0 tm=AKg9 l ly nilA (rowsU l).length 0∧hp= []∧l.length<1000000∧
 ∀(i:Int) (r:List UseT),r=l.filter (fun x:UseT=>useIs x ly)→K (.exit 0) (AKg9 l ly (.own 61 4 (rowsU r)) l.length i) [] b
theorem BAj9 {Ev:Env prog} (c:Code) (tm:List AV) (hp:List Blk) (b:Ev.β) (K:Exit→List AV→List Blk→Ev.β→Prop) (h:BAk9 c tm hp b K):W Ev c ⟨tm,hp,b⟩ (fun e s=>K e s.tm s.hp s.b):=by
 obtain ⟨l,ly,rfl,htm,rfl,hl,hK⟩:=h
 rw [AAj9] at htm
 refine W.cast (htm▸AAc9 _ tm 0) (Zby _) ?_
 refine W.cast (tm':=AKg9 l ly (.own 61 4 (rowsU [])) l.length 0) (LeL.at [_,_,_,_,_] _ (LeA.nilOwn rfl)) (Zby _) ?_
 exact W.rounds (BWe9 (Q:=fun e s=>K e s.tm s.hp s.b) l ly hl fun i=>hK i _ rfl)
theorem AXu9 (l:List UseT) (ly:LayT):wpFn prog ⟨[], [],BAk9,y,false⟩ 100 f74 [.d (.sl 4 (rowsU l)), .fn (.func 75) [] [.rptr [i64 ly.no,i64 ly.da]]] b R=(∃(l0:List UseT) (ly1:LayT),Zax AQt9=Zax AQt9∧(Zab::Zaw (Fn.func 75) [] (Qz14 ly)::bds 3 (Zac (Zdo (.slice none 0 0))::Zab::Zab::Zac (Zaf 4 (rowsU l))::Zac (i64 ((Zaa (rowsU l):Nat):Int))::Zac (i64 0)::bds 12 []))=(Zab::Zaw (Fn.func 75) [] (Qz14 ly1)::bds 3 (Zac (Zdo (.slice none 0 0))::Zab::Zab::Zac (Zaf 4 (rowsU l0))::Zac (i64 ((Zaa (rowsU l0):Nat):Int))::Zac (i64 0)::bds 12 []))∧([]:List Blk)= []∧Zaa l0<1000000∧∀(i:Int) (r:List UseT),r=Zcl (fun (x2:UseT)=>useIs x2 ly1) l0→R (.d (Zaf 4 (rowsU r))) b):=by kernel_rfl
theorem BCk9 (l:List UseT) (ly:LayT) (hl:l.length<1000000):PCall prog 74 [.d (.sl 4 (rowsU l)), .fn (.func 75) [] [.rptr [i64 ly.no,i64 ly.da]]] (.d (.sl 4 (rowsU (l.filter (fun x:UseT=>useIs x ly))))):=by
 refine Zfs (n:=100) (u:=false) (fun _=>BAk9) mixed Zak Zah (fun Ev=>BAj9) func74 (by rfl) (by rfl) fun Ev bb=> ?_
 rw [AXu9]
 exact ⟨l,ly,rfl,rfl,rfl,hl,fun i r hr=>hr▸ .base LeA.rfl⟩
def AVx9 (args:List AV) (K:AV→Prop):Prop:=∃(l:List UseT) (ly:LayT) (q:List UseT),args= [.d (.sl 4 (rowsU l)), .fn (.func 75) [] [.rptr [i64 ly.no,i64 ly.da]]]∧(l.length<1000000∧q=l.filter (fun x:UseT=>useIs x ly))∧K (.d (.sl 4 (rowsU q)))
theorem ATq9:∀args K,AVx9 args K→∃x,PCall prog 74 args x∧K x:=by
 rintro _ K ⟨l,ly,_,rfl,⟨hl,rfl⟩,hk⟩;exact ⟨_,BCk9 l ly hl,hk⟩
theorem BKw9 (x:GraT) (ly:LayT):wpFn prog ⟨TIg, [],wl,y,false⟩ 100 f78 ([graA x]++ [.rptr [i64 ly.no,i64 ly.da]]) b R=(∃(x0:GraT) (ly1:LayT) (q2:Bool), [Zar (Qz5 ly),Zar (Qz7 x)]= [Zar (Qz5 ly1),Zar (Qz7 x0)]∧q2=graIs x0 ly1∧R (.d (bo q2)) b):=by kernel_rfl
theorem BRw9 (x:GraT) (ly:LayT):PCall prog 78 ([graA x]++ [.rptr [i64 ly.no,i64 ly.da]]) (.d (bo ((fun x:GraT=>graIs x ly) x))):=by
 refine Zbg (n:=100) (u:=false) mixed CFe9 Zah func78 (by rfl) (by rfl) fun Ev bb=> ?_
 rw [BKw9]
 exact ⟨x,ly,_,rfl,rfl,rfl⟩
def BOn9 (args:List AV) (K:AV→Prop):Prop:=∃(x:GraT) (ly:LayT) (q:Bool),args= [graA x]++ [.rptr [i64 ly.no,i64 ly.da]]∧q=(fun x:GraT=>graIs x ly) x∧K (.d (bo q))
theorem BGm9:∀args K,BOn9 args K→∃x,PCall prog 78 args x∧K x:=by
 rintro _ K ⟨x,ly,_,rfl,rfl,hk⟩;exact ⟨_,BRw9 x ly,hk⟩
def BVm9:List (Nat×(List AV→(AV→Prop)→Prop)):= [(78,BOn9)]
theorem BMi9:AAb9 prog BVm9:=Zaj BGm9 Zak
noncomputable def AQu9:Code:=sub [1,1,0,1,2,3] (code f77)
def AKh9 (l:List GraT) (ly:LayT) (acc:AV) (n i:Int):List AV:= [.bad, .fn (.func 78) [] [.rptr [i64 ly.no,i64 ly.da]], .bad, .bad, .bad,acc, .bad, .bad, .d (.sl 5 (rowsG l)), .d (i64 n), .d (i64 i)]++Zap 12 .bad
theorem BYl9 (l:List GraT) (ly:LayT) (xs:List (List Dv)) (n i:Int):wpc prog ⟨BVm9, [],wl,y,false⟩ 100 AQu9 (AKh9 l ly (.own 59 5 xs) n i) [] b (maskK 0 [1,5,8,9,10] K)=(BIf (decide (i<n)) (BIf (true&&decide (0≤i)) (∃(x0:Int) (x1:Int) (x2:Int) (x3:Int) (x4:Int),(rowsG l)[Zao i]? =some (Qz40 x0 x1 x2 x3 x4)∧∃(x7:GraT) (ly8:LayT) (q9:Bool), [Zar (Qz25 x0 x1 x2 x3 x4),Zag [i64 (Zeq ly),i64 (Zcu ly)]]= [Zar (Qz7 x7),Zag [i64 (Zeq ly8),i64 (Zcu ly8)]]∧q9=graIs x7 ly8∧BIf q9 (BIf (true&&decide ((Zaa xs+1)*40≤140737488355328)) (K .normal (Zab::Zaw (Fn.func 78) [] (Qz14 ly)::bds 3 (Zgg 59 5 (xs++ [Qz40 x0 x1 x2 x3 x4])::Zab::Zab::Zac (Zaf 5 (rowsG l))::Zac (i64 n)::Zac (i64 (Zae .i64 (i+1)))::bds 12 [])) [] b) False) (K .normal (Zab::Zaw (Fn.func 78) [] (Qz14 ly)::bds 3 (Zgg 59 5 xs::Zab::Zab::Zac (Zaf 5 (rowsG l))::Zac (i64 n)::Zac (i64 (Zae .i64 (i+1)))::bds 12 [])) [] b)) False) (K (Zbn 0) (Zab::Zaw (Fn.func 78) [] (Qz14 ly)::bds 3 (Zgg 59 5 xs::Zab::Zab::Zac (Zaf 5 (rowsG l))::Zac (i64 n)::Zac (i64 i)::bds 12 [])) [] b)):=by kernel_rfl
theorem BWf9 {Ev:Env prog} {b:Ev.β} {Q:Exit→St Ev.β→Prop} (l:List GraT) (ly:LayT) (hl:l.length<1000000) (hQ:∀i:Int,Q (.exit 0) ⟨AKh9 l ly (.own 59 5 (rowsG (l.filter (fun x:GraT=>graIs x ly)))) l.length i, [],b⟩):
   WR Ev AQu9 (l.length+1) ⟨AKh9 l ly (.own 59 5 (rowsG [])) l.length (0:Nat), [],b⟩ Q:=by
 refine WR.gathL (X:=⟨BVm9, [],wlW Ev,Ev.Y,false⟩) (k:=100) [1,5,8,9,10] mixed (CX.Ok.of BMi9 Zah) l (AJg9 (fun x:GraT=>graIs x ly)) (AJo9 _) (fun acc i=>AKh9 l ly (.own 59 5 (rowsG acc)) l.length (i:Nat)) [] 0 (fun i x acc hi hx ha K k1=> ?_) (fun acc K k1=> ?_) ?_
 · refine Eq.mpr (BYl9 _ _ _ K l ly _ l.length i) ?_
   rw [ABu9 hx]
   refine Zba (by simp;omega) (Zba (natI i) ⟨_,_,_,_,_,rfl,x,ly,_,rfl,rfl,Zbd (fun g=>Zba (by simp [AAg9];omega) ?_) fun g=> ?_⟩)
   · rw [AOa9 (p:=(fun x:GraT=>graIs x ly)) (x:=x) g,ANw9] at k1
     rw [wrapN (by omega)]
     exact k1
   · rw [AOb9 (p:=(fun x:GraT=>graIs x ly)) (x:=x) g,Zdr] at k1
     rw [wrapN (by omega)]
     exact k1
 · refine Eq.mpr (BYl9 _ _ _ K l ly _ l.length _) ?_
   exact Zde (by simp) k1
 · rw [AEe9];exact hQ _
def BAm9 {β:Type}:WLT β:=fun cd tm hp b K=>∃(l:List GraT) (ly:LayT),cd= .loop AQu9∧AAz9 [1,5,8,9,10] 0 tm=AKh9 l ly nilA (rowsG l).length 0∧hp= []∧l.length<1000000∧
 ∀(i:Int) (r:List GraT),r=l.filter (fun x:GraT=>graIs x ly)→K (.exit 0) (AKh9 l ly (.own 59 5 (rowsG r)) l.length i) [] b
theorem BAl9 {Ev:Env prog} (c:Code) (tm:List AV) (hp:List Blk) (b:Ev.β) (K:Exit→List AV→List Blk→Ev.β→Prop) (h:BAm9 c tm hp b K):W Ev c ⟨tm,hp,b⟩ (fun e s=>K e s.tm s.hp s.b):=by
 obtain ⟨l,ly,rfl,htm,rfl,hl,hK⟩:=h
 rw [AAg9] at htm
 refine W.cast (htm▸AAc9 _ tm 0) (Zby _) ?_
 refine W.cast (tm':=AKh9 l ly (.own 59 5 (rowsG [])) l.length 0) (LeL.at [_,_,_,_,_] _ (LeA.nilOwn rfl)) (Zby _) ?_
 exact W.rounds (BWf9 (Q:=fun e s=>K e s.tm s.hp s.b) l ly hl fun i=>hK i _ rfl)
theorem AXv9 (l:List GraT) (ly:LayT):wpFn prog ⟨[], [],BAm9,y,false⟩ 100 f77 [.d (.sl 5 (rowsG l)), .fn (.func 78) [] [.rptr [i64 ly.no,i64 ly.da]]] b R=(∃(l0:List GraT) (ly1:LayT),Zax AQu9=Zax AQu9∧(Zab::Zaw (Fn.func 78) [] (Qz14 ly)::bds 3 (Zac (Zdo (.slice none 0 0))::Zab::Zab::Zac (Zaf 5 (rowsG l))::Zac (i64 ((Zaa (rowsG l):Nat):Int))::Zac (i64 0)::bds 12 []))=(Zab::Zaw (Fn.func 78) [] (Qz14 ly1)::bds 3 (Zac (Zdo (.slice none 0 0))::Zab::Zab::Zac (Zaf 5 (rowsG l0))::Zac (i64 ((Zaa (rowsG l0):Nat):Int))::Zac (i64 0)::bds 12 []))∧([]:List Blk)= []∧Zaa l0<1000000∧∀(i:Int) (r:List GraT),r=Zcl (fun (x2:GraT)=>graIs x2 ly1) l0→R (.d (Zaf 5 (rowsG r))) b):=by kernel_rfl
theorem BCl9 (l:List GraT) (ly:LayT) (hl:l.length<1000000):PCall prog 77 [.d (.sl 5 (rowsG l)), .fn (.func 78) [] [.rptr [i64 ly.no,i64 ly.da]]] (.d (.sl 5 (rowsG (l.filter (fun x:GraT=>graIs x ly))))):=by
 refine Zfs (n:=100) (u:=false) (fun _=>BAm9) mixed Zak Zah (fun Ev=>BAl9) func77 (by rfl) (by rfl) fun Ev bb=> ?_
 rw [AXv9]
 exact ⟨l,ly,rfl,rfl,rfl,hl,fun i r hr=>hr▸ .base LeA.rfl⟩
def AVy9 (args:List AV) (K:AV→Prop):Prop:=∃(l:List GraT) (ly:LayT) (q:List GraT),args= [.d (.sl 5 (rowsG l)), .fn (.func 78) [] [.rptr [i64 ly.no,i64 ly.da]]]∧(l.length<1000000∧q=l.filter (fun x:GraT=>graIs x ly))∧K (.d (.sl 5 (rowsG q)))
theorem ATr9:∀args K,AVy9 args K→∃x,PCall prog 77 args x∧K x:=by
 rintro _ K ⟨l,ly,_,rfl,⟨hl,rfl⟩,hk⟩;exact ⟨_,BCl9 l ly hl,hk⟩
theorem BKx9 (x:AskT) (ly:LayT):wpFn prog ⟨TIa, [],wl,y,false⟩ 100 f80 ([askA x]++ [.rptr [i64 ly.no,i64 ly.da]]) b R=(∃(sl0:Int) (of1:Int) (pe2:Int) (l3:LayT) (z4:Bool), [Zar (Qz5 ly),Zar [Zac (i64 (Zda x)),Zac (i64 (AskT.of x))],Zac (i64 (Zgh x))]= [Zar (Qz5 l3),Zar [Zac (i64 sl0),Zac (i64 of1)],Zac (i64 pe2)]∧z4=ABs9 sl0 of1 pe2 l3∧R (.d (bo z4)) b):=by kernel_rfl
theorem BRx9 (x:AskT) (ly:LayT):PCall prog 80 ([askA x]++ [.rptr [i64 ly.no,i64 ly.da]]) (.d (bo ((fun x:AskT=>ABs9 x.sl x.of x.pe ly) x))):=by
 refine Zbg (n:=100) (u:=false) mixed CFf9 Zah func80 (by rfl) (by rfl) fun Ev bb=> ?_
 rw [BKx9]
 exact ⟨_,_,_,ly,_,rfl,rfl,rfl⟩
def BOo9 (args:List AV) (K:AV→Prop):Prop:=∃(x:AskT) (ly:LayT) (q:Bool),args= [askA x]++ [.rptr [i64 ly.no,i64 ly.da]]∧q=(fun x:AskT=>ABs9 x.sl x.of x.pe ly) x∧K (.d (bo q))
theorem BGn9:∀args K,BOo9 args K→∃x,PCall prog 80 args x∧K x:=by
 rintro _ K ⟨x,ly,_,rfl,rfl,hk⟩;exact ⟨_,BRx9 x ly,hk⟩
def BVn9:List (Nat×(List AV→(AV→Prop)→Prop)):= [(80,BOo9)]
theorem BMj9:AAb9 prog BVn9:=Zaj BGn9 Zak
noncomputable def AQv9:Code:=sub [1,1,0,1,2,3] (code f40)
def AKi9 (l:List AskT) (ly:LayT) (acc:AV) (n i:Int):List AV:= [.bad, .fn (.func 80) [] [.rptr [i64 ly.no,i64 ly.da]], .bad, .bad, .bad,acc, .bad, .bad, .d (.sl 3 (rowsA l)), .d (i64 n), .d (i64 i)]++Zap 12 .bad
theorem BYm9 (l:List AskT) (ly:LayT) (xs:List (List Dv)) (n i:Int):wpc prog ⟨BVn9, [],wl,y,false⟩ 100 AQv9 (AKi9 l ly (.own 63 3 xs) n i) [] b (maskK 0 [1,5,8,9,10] K)=(BIf (decide (i<n)) (BIf (true&&decide (0≤i)) (∃(x0:Int) (x1:Int) (x2:Int),(rowsA l)[Zao i]? =some [i64 x0,i64 x1,i64 x2]∧∃(x5:AskT) (ly6:LayT) (q7:Bool), [Zar (Qz29 x0 x1 x2),Zag [i64 (Zeq ly),i64 (Zcu ly)]]= [Zar (Qz13 x5),Zag [i64 (Zeq ly6),i64 (Zcu ly6)]]∧q7=ABs9 (Zda x5) (AskT.of x5) (Zgh x5) ly6∧BIf q7 (BIf (true&&decide ((Zaa xs+1)*24≤140737488355328)) (K .normal (Zab::Zaw (Fn.func 80) [] (Qz14 ly)::bds 3 (Zgg 63 3 (xs++ [[i64 x0,i64 x1,i64 x2]])::Zab::Zab::Zac (Zaf 3 (rowsA l))::Zac (i64 n)::Zac (i64 (Zae .i64 (i+1)))::bds 12 [])) [] b) False) (K .normal (Zab::Zaw (Fn.func 80) [] (Qz14 ly)::bds 3 (Zgg 63 3 xs::Zab::Zab::Zac (Zaf 3 (rowsA l))::Zac (i64 n)::Zac (i64 (Zae .i64 (i+1)))::bds 12 [])) [] b)) False) (K (Zbn 0) (Zab::Zaw (Fn.func 80) [] (Qz14 ly)::bds 3 (Zgg 63 3 xs::Zab::Zab::Zac (Zaf 3 (rowsA l))::Zac (i64 n)::Zac (i64 i)::bds 12 [])) [] b)):=by kernel_rfl
theorem BWg9 {Ev:Env prog} {b:Ev.β} {Q:Exit→St Ev.β→Prop} (l:List AskT) (ly:LayT) (hl:l.length<1000000) (hQ:∀i:Int,Q (.exit 0) ⟨AKi9 l ly (.own 63 3 (rowsA (l.filter (fun x:AskT=>ABs9 x.sl x.of x.pe ly)))) l.length i, [],b⟩):
   WR Ev AQv9 (l.length+1) ⟨AKi9 l ly (.own 63 3 (rowsA [])) l.length (0:Nat), [],b⟩ Q:=by
 refine WR.gathL (X:=⟨BVn9, [],wlW Ev,Ev.Y,false⟩) (k:=100) [1,5,8,9,10] mixed (CX.Ok.of BMj9 Zah) l (AJg9 (fun x:AskT=>ABs9 x.sl x.of x.pe ly)) (AJo9 _) (fun acc i=>AKi9 l ly (.own 63 3 (rowsA acc)) l.length (i:Nat)) [] 0 (fun i x acc hi hx ha K k1=> ?_) (fun acc K k1=> ?_) ?_
 · refine Eq.mpr (BYm9 _ _ _ K l ly _ l.length i) ?_
   rw [ABp9 hx]
   refine Zba (by simp;omega) (Zba (natI i) ⟨_,_,_,rfl,x,ly,_,rfl,rfl,Zbd (fun g=>Zba (by simp [AAp9];omega) ?_) fun g=> ?_⟩)
   · rw [AOa9 (p:=(fun x:AskT=>ABs9 x.sl x.of x.pe ly)) (x:=x) g,AVa9] at k1
     rw [wrapN (by omega)]
     exact k1
   · rw [AOb9 (p:=(fun x:AskT=>ABs9 x.sl x.of x.pe ly)) (x:=x) g,Zdr] at k1
     rw [wrapN (by omega)]
     exact k1
 · refine Eq.mpr (BYm9 _ _ _ K l ly _ l.length _) ?_
   exact Zde (by simp) k1
 · rw [AEe9];exact hQ _
def BAo9 {β:Type}:WLT β:=fun cd tm hp b K=>∃(l:List AskT) (ly:LayT),cd= .loop AQv9∧AAz9 [1,5,8,9,10] 0 tm=AKi9 l ly nilA (rowsA l).length 0∧hp= []∧l.length<1000000∧
 ∀(i:Int) (r:List AskT),r=l.filter (fun x:AskT=>ABs9 x.sl x.of x.pe ly)→K (.exit 0) (AKi9 l ly (.own 63 3 (rowsA r)) l.length i) [] b
theorem BAn9 {Ev:Env prog} (c:Code) (tm:List AV) (hp:List Blk) (b:Ev.β) (K:Exit→List AV→List Blk→Ev.β→Prop) (h:BAo9 c tm hp b K):W Ev c ⟨tm,hp,b⟩ (fun e s=>K e s.tm s.hp s.b):=by
 obtain ⟨l,ly,rfl,htm,rfl,hl,hK⟩:=h
 rw [AAp9] at htm
 refine W.cast (htm▸AAc9 _ tm 0) (Zby _) ?_
 refine W.cast (tm':=AKi9 l ly (.own 63 3 (rowsA [])) l.length 0) (LeL.at [_,_,_,_,_] _ (LeA.nilOwn rfl)) (Zby _) ?_
 exact W.rounds (BWg9 (Q:=fun e s=>K e s.tm s.hp s.b) l ly hl fun i=>hK i _ rfl)
theorem AXw9 (l:List AskT) (ly:LayT):wpFn prog ⟨[], [],BAo9,y,false⟩ 100 f40 [.d (.sl 3 (rowsA l)), .fn (.func 80) [] [.rptr [i64 ly.no,i64 ly.da]]] b R=(∃(l0:List AskT) (ly1:LayT),Zax AQv9=Zax AQv9∧(Zab::Zaw (Fn.func 80) [] (Qz14 ly)::bds 3 (Zac (Zdo (.slice none 0 0))::Zab::Zab::Zac (Zaf 3 (rowsA l))::Zac (i64 ((Zaa (rowsA l):Nat):Int))::Zac (i64 0)::bds 12 []))=(Zab::Zaw (Fn.func 80) [] (Qz14 ly1)::bds 3 (Zac (Zdo (.slice none 0 0))::Zab::Zab::Zac (Zaf 3 (rowsA l0))::Zac (i64 ((Zaa (rowsA l0):Nat):Int))::Zac (i64 0)::bds 12 []))∧([]:List Blk)= []∧Zaa l0<1000000∧∀(i:Int) (r:List AskT),r=Zcl (fun (x2:AskT)=>ABs9 (Zda x2) (AskT.of x2) (Zgh x2) ly1) l0→R (.d (Zaf 3 (rowsA r))) b):=by kernel_rfl
theorem BCm9 (l:List AskT) (ly:LayT) (hl:l.length<1000000):PCall prog 40 [.d (.sl 3 (rowsA l)), .fn (.func 80) [] [.rptr [i64 ly.no,i64 ly.da]]] (.d (.sl 3 (rowsA (l.filter (fun x:AskT=>ABs9 x.sl x.of x.pe ly))))):=by
 refine Zfs (n:=100) (u:=false) (fun _=>BAo9) mixed Zak Zah (fun Ev=>BAn9) func40 (by rfl) (by rfl) fun Ev bb=> ?_
 rw [AXw9]
 exact ⟨l,ly,rfl,rfl,rfl,hl,fun i r hr=>hr▸ .base LeA.rfl⟩
def AVz9 (args:List AV) (K:AV→Prop):Prop:=∃(l:List AskT) (ly:LayT) (q:List AskT),args= [.d (.sl 3 (rowsA l)), .fn (.func 80) [] [.rptr [i64 ly.no,i64 ly.da]]]∧(l.length<1000000∧q=l.filter (fun x:AskT=>ABs9 x.sl x.of x.pe ly))∧K (.d (.sl 3 (rowsA q)))
theorem ATs9:∀args K,AVz9 args K→∃x,PCall prog 40 args x∧K x:=by
 rintro _ K ⟨l,ly,_,rfl,⟨hl,rfl⟩,hk⟩;exact ⟨_,BCm9 l ly hl,hk⟩
theorem BLa9 (x:GraT) (s:SideT):wpFn prog ⟨[], [],wl,y,false⟩ 100 f106 ([graA x]++ [.rptr [.pt (sideD s)]]) b R=(BIf (Zgb x==Zgi s) (R (Zac (bo (decide (Zdx x≥Zgj s)))) b) (R (Zac (bo false)) b)):=by kernel_rfl
theorem BSa9 (x:GraT) (s:SideT):PCall prog 106 ([graA x]++ [.rptr [.pt (sideD s)]]) (.d (bo ((fun x:GraT=>x.pe==s.me&&decide (x.un≥s.fr)) x))):=by
 refine Zbg (n:=100) (u:=false) mixed Zak Zah func106 (by rfl) (by rfl) fun Ev bb=> ?_
 rw [BLa9]
 exact Zbd (fun h=>by have h':(x.pe==s.me)=true:=h;simp only [h',Zef]) fun h=>by have h':(x.pe==s.me)=false:=h;simp only [h',Zcn]
def BOr9 (args:List AV) (K:AV→Prop):Prop:=∃(x:GraT) (s:SideT) (q:Bool),args= [graA x]++ [.rptr [.pt (sideD s)]]∧q=(fun x:GraT=>x.pe==s.me&&decide (x.un≥s.fr)) x∧K (.d (bo q))
theorem BGq9:∀args K,BOr9 args K→∃x,PCall prog 106 args x∧K x:=by
 rintro _ K ⟨x,s,_,rfl,rfl,hk⟩;exact ⟨_,BSa9 x s,hk⟩
def BVo9:List (Nat×(List AV→(AV→Prop)→Prop)):= [(106,BOr9)]
theorem BMk9:AAb9 prog BVo9:=Zaj BGq9 Zak
noncomputable def AQw9:Code:=sub [1,1,0,1,2,3] (code f77)
def AKj9 (l:List GraT) (s:SideT) (acc:AV) (n i:Int):List AV:= [.bad, .fn (.func 106) [] [.rptr [.pt (sideD s)]], .bad, .bad, .bad,acc, .bad, .bad, .d (.sl 5 (rowsG l)), .d (i64 n), .d (i64 i)]++Zap 12 .bad
theorem BYn9 (l:List GraT) (s:SideT) (xs:List (List Dv)) (n i:Int):wpc prog ⟨BVo9, [],wl,y,false⟩ 100 AQw9 (AKj9 l s (.own 59 5 xs) n i) [] b (maskK 0 [1,5,8,9,10] K)=(BIf (decide (i<n)) (BIf (true&&decide (0≤i)) (∃(x0:Int) (x1:Int) (x2:Int) (x3:Int) (x4:Int),(rowsG l)[Zao i]? =some (Qz40 x0 x1 x2 x3 x4)∧∃(x7:GraT) (s8:SideT) (q9:Bool), [Zar (Qz25 x0 x1 x2 x3 x4),Zag [Zdp (Qz3 s)]]= [Zar (Qz7 x7),Zag [Zdp (Qz3 s8)]]∧q9=(Zgb x7==Zgi s8&&decide (Zdx x7≥Zgj s8))∧BIf q9 (BIf (true&&decide ((Zaa xs+1)*40≤140737488355328)) (K .normal (Zab::Zaw (Fn.func 106) [] [Zag [Zdp (Qz3 s)]]::bds 3 (Zgg 59 5 (xs++ [Qz40 x0 x1 x2 x3 x4])::Zab::Zab::Zac (Zaf 5 (rowsG l))::Zac (i64 n)::Zac (i64 (Zae .i64 (i+1)))::bds 12 [])) [] b) False) (K .normal (Zab::Zaw (Fn.func 106) [] [Zag [Zdp (Qz3 s)]]::bds 3 (Zgg 59 5 xs::Zab::Zab::Zac (Zaf 5 (rowsG l))::Zac (i64 n)::Zac (i64 (Zae .i64 (i+1)))::bds 12 [])) [] b)) False) (K (Zbn 0) (Zab::Zaw (Fn.func 106) [] [Zag [Zdp (Qz3 s)]]::bds 3 (Zgg 59 5 xs::Zab::Zab::Zac (Zaf 5 (rowsG l))::Zac (i64 n)::Zac (i64 i)::bds 12 [])) [] b)):=by kernel_rfl
theorem BWh9 {Ev:Env prog} {b:Ev.β} {Q:Exit→St Ev.β→Prop} (l:List GraT) (s:SideT) (hl:l.length<1000000) (hQ:∀i:Int,Q (.exit 0) ⟨AKj9 l s (.own 59 5 (rowsG (l.filter (fun x:GraT=>x.pe==s.me&&decide (x.un≥s.fr))))) l.length i, [],b⟩):
   WR Ev AQw9 (l.length+1) ⟨AKj9 l s (.own 59 5 (rowsG [])) l.length (0:Nat), [],b⟩ Q:=by
 refine WR.gathL (X:=⟨BVo9, [],wlW Ev,Ev.Y,false⟩) (k:=100) [1,5,8,9,10] mixed (CX.Ok.of BMk9 Zah) l (AJg9 (fun x:GraT=>x.pe==s.me&&decide (x.un≥s.fr))) (AJo9 _) (fun acc i=>AKj9 l s (.own 59 5 (rowsG acc)) l.length (i:Nat)) [] 0 (fun i x acc hi hx ha K k1=> ?_) (fun acc K k1=> ?_) ?_
 · refine Eq.mpr (BYn9 _ _ _ K l s _ l.length i) ?_
   rw [ABu9 hx]
   refine Zba (by simp;omega) (Zba (natI i) ⟨_,_,_,_,_,rfl,x,s,_,rfl,rfl,Zbd (fun g=>Zba (by simp [AAg9];omega) ?_) fun g=> ?_⟩)
   · rw [AOa9 (p:=(fun x:GraT=>x.pe==s.me&&decide (x.un≥s.fr))) (x:=x) g,ANw9] at k1
     rw [wrapN (by omega)]
     exact k1
   · rw [AOb9 (p:=(fun x:GraT=>x.pe==s.me&&decide (x.un≥s.fr))) (x:=x) g,Zdr] at k1
     rw [wrapN (by omega)]
     exact k1
 · refine Eq.mpr (BYn9 _ _ _ K l s _ l.length _) ?_
   exact Zde (by simp) k1
 · rw [AEe9];exact hQ _
def BAq9 {β:Type}:WLT β:=fun cd tm hp b K=>∃(l:List GraT) (s:SideT),cd= .loop AQw9∧AAz9 [1,5,8,9,10] 0 tm=AKj9 l s nilA (rowsG l).length 0∧hp= []∧l.length<1000000∧
 ∀(i:Int) (r:List GraT),r=l.filter (fun x:GraT=>x.pe==s.me&&decide (x.un≥s.fr))→K (.exit 0) (AKj9 l s (.own 59 5 (rowsG r)) l.length i) [] b
theorem BAp9 {Ev:Env prog} (c:Code) (tm:List AV) (hp:List Blk) (b:Ev.β) (K:Exit→List AV→List Blk→Ev.β→Prop) (h:BAq9 c tm hp b K):W Ev c ⟨tm,hp,b⟩ (fun e s=>K e s.tm s.hp s.b):=by
 obtain ⟨l,s,rfl,htm,rfl,hl,hK⟩:=h
 rw [AAg9] at htm
 refine W.cast (htm▸AAc9 _ tm 0) (Zby _) ?_
 refine W.cast (tm':=AKj9 l s (.own 59 5 (rowsG [])) l.length 0) (LeL.at [_,_,_,_,_] _ (LeA.nilOwn rfl)) (Zby _) ?_
 exact W.rounds (BWh9 (Q:=fun e s=>K e s.tm s.hp s.b) l s hl fun i=>hK i _ rfl)
theorem AXx9 (l:List GraT) (s:SideT):wpFn prog ⟨[], [],BAq9,y,false⟩ 100 f77 [.d (.sl 5 (rowsG l)), .fn (.func 106) [] [.rptr [.pt (sideD s)]]] b R=(∃(l0:List GraT) (s1:SideT),Zax AQw9=Zax AQw9∧(Zab::Zaw (Fn.func 106) [] [Zag [Zdp (Qz3 s)]]::bds 3 (Zac (Zdo (.slice none 0 0))::Zab::Zab::Zac (Zaf 5 (rowsG l))::Zac (i64 ((Zaa (rowsG l):Nat):Int))::Zac (i64 0)::bds 12 []))=(Zab::Zaw (Fn.func 106) [] [Zag [Zdp (Qz3 s1)]]::bds 3 (Zac (Zdo (.slice none 0 0))::Zab::Zab::Zac (Zaf 5 (rowsG l0))::Zac (i64 ((Zaa (rowsG l0):Nat):Int))::Zac (i64 0)::bds 12 []))∧([]:List Blk)= []∧Zaa l0<1000000∧∀(i:Int) (r:List GraT),r=Zcl (fun (x2:GraT)=>Zgb x2==Zgi s1&&decide (Zdx x2≥Zgj s1)) l0→R (.d (Zaf 5 (rowsG r))) b):=by kernel_rfl
theorem BCn9 (l:List GraT) (s:SideT) (hl:l.length<1000000):PCall prog 77 [.d (.sl 5 (rowsG l)), .fn (.func 106) [] [.rptr [.pt (sideD s)]]] (.d (.sl 5 (rowsG (l.filter (fun x:GraT=>x.pe==s.me&&decide (x.un≥s.fr)))))):=by
 refine Zfs (n:=100) (u:=false) (fun _=>BAq9) mixed Zak Zah (fun Ev=>BAp9) func77 (by rfl) (by rfl) fun Ev bb=> ?_
 rw [AXx9]
 exact ⟨l,s,rfl,rfl,rfl,hl,fun i r hr=>hr▸ .base LeA.rfl⟩
def AWa9 (args:List AV) (K:AV→Prop):Prop:=∃(l:List GraT) (s:SideT) (q:List GraT),args= [.d (.sl 5 (rowsG l)), .fn (.func 106) [] [.rptr [.pt (sideD s)]]]∧(l.length<1000000∧q=l.filter (fun x:GraT=>x.pe==s.me&&decide (x.un≥s.fr)))∧K (.d (.sl 5 (rowsG q)))
theorem ATt9:∀args K,AWa9 args K→∃x,PCall prog 77 args x∧K x:=by
 rintro _ K ⟨l,s,_,rfl,⟨hl,rfl⟩,hk⟩;exact ⟨_,BCn9 l s hl,hk⟩
def TGd:List (Nat×(List AV→(AV→Prop)→Prop)):= [(77,AWa9)]
theorem CFi9:AAb9 prog TGd:=Zaj ATt9 Zak
theorem BDq9 (s:SideT) (n:NearT):wpFn prog ⟨TGd, [],wl,y,false⟩ 100 f53 [.rptr (sideD s),nearA n] b R=(∃(l0:List GraT) (s1:SideT) (q2:List GraT), [Zac (Zaf 5 (rowsG (Zbr n))),Zaw (Fn.func 106) [] [Zag [Zdp (Qz3 s)]]]= [Zac (Zaf 5 (rowsG l0)),Zaw (Fn.func 106) [] [Zag [Zdp (Qz3 s1)]]]∧(Zaa l0<1000000∧q2=Zcl (fun (x3:GraT)=>Zgb x3==Zgi s1&&decide (Zdx x3≥Zgj s1)) l0)∧R (.d (Zaf 5 (rowsG q2))) b):=by kernel_rfl
def ADl9 (s:SideT) (n:NearT):List GraT:=n.gs.filter (fun x=>x.pe==s.me&&decide (x.un≥s.fr))
theorem BJh9 (s:SideT) (n:NearT) (h:n.gs.length<1000000):PCall prog 53 [.rptr (sideD s),nearA n] (.d (.sl 5 (rowsG (ADl9 s n)))):=by
 refine Zbg (n:=100) (u:=false) mixed CFi9 Zah func53 (by rfl) (by rfl) fun Ev bb=> ?_
 rw [BDq9]
 exact ⟨n.gs,s,_,rfl,⟨h,rfl⟩,rfl⟩
def BFv9 (args:List AV) (K:AV→Prop):Prop:=∃(s:SideT) (n:NearT) (q:List GraT),args= [.rptr (sideD s),nearA n]∧(n.gs.length<1000000∧q=ADl9 s n)∧K (.d (.sl 5 (rowsG q)))
theorem AZf9:∀args K,BFv9 args K→∃x,PCall prog 53 args x∧K x:=by
 rintro _ K ⟨s,n,_,rfl,⟨h,rfl⟩,hk⟩;exact ⟨_,BJh9 s n h,hk⟩
def TFi:List (Nat×(List AV→(AV→Prop)→Prop)):= [(82,BFr9)]
theorem CFj9:AAb9 prog TFi:=Zaj AZd9 Zak
theorem CAp9 (s:SideT) (pe:Int):wpFn prog ⟨TFi, [],wl,y,false⟩ 100 f37 [.rptr (sideD s), .d (i64 pe)] b R=(∃(l0:List NearT) (pe1:Int) (q2:Int), [Zac (Zaf 31 (rowsN (Zat s))),Zaw (Fn.func 83) [] [Zag [i64 pe]]]= [Zac (Zaf 31 (rowsN l0)),Zaw (Fn.func 83) [] [Zag [i64 pe1]]]∧(Zaa l0≤9223372036854775807∧q2=idxS (fun (x3:NearT)=>Zgk x3==pe1) l0)∧BIf (decide (q2<(0:Int))) (R (.tup [Zar [Zac (i64 0),Zac (i64 0),Zac (i64 0),Zac (i64 0),Zac (i64 0),Zac (i64 0),Zac (i64 0),Zac (i64 0),Zac (i64 0),Zac (i64 0),Zac (i64 0),Zac (i64 0),Zac (Zdo (.slice none 0 0)),Zac (Zdo (.slice none 0 0)),Zac (Zdo (.slice none 0 0)),Zac (Zdo (.slice none 0 0)),Zac (bo false),Zac (Zdo (.slice none 0 0)),Zac (Zdo (.slice none 0 0)),Zac (Zdo (.slice none 0 0)),Zac (i64 0),Zac (i64 0),Zac (u64 0),Zac (i64 0),Zac (i64 0),Zac (i64 0),Zac (i64 0),Zac (i64 0),Zac (Zdo (.slice none 0 0)),Zac (Zdo (.slice none 0 0)),Zac (bo false)],Zac (bo false)]) b) (BIf (true&&decide (0≤q2)) (∃(x4:Int) (x5:Int) (x6:Int) (x7:Int) (x8:Int) (x9:Int) (x10:Int) (x11:Int) (x12:Int) (x13:Int) (x14:Int) (x15:Int) (xs16:List (List Dv)) (xs17:List (List Dv)) (xs18:List (List Dv)) (xs19:List (List Dv)) (b20:Bool) (xs21:List (List Dv)) (xs22:List (List Dv)) (xs23:List (List Dv)) (x24:Int) (x25:Int) (x26:Int) (x27:Int) (x28:Int) (x29:Int) (x30:Int) (x31:Int) (xs32:List (List Dv)) (xs33:List (List Dv)) (b34:Bool),(rowsN (Zat s))[Zao q2]? =some [i64 x4,i64 x5,i64 x6,i64 x7,i64 x8,i64 x9,i64 x10,i64 x11,i64 x12,i64 x13,i64 x14,i64 x15,Zaf 4 xs16,Zaf 5 xs17,Zaf 3 xs18,Zaf 4 xs19,bo b20,Zaf 8 xs21,Zaf 8 xs22,Zaf 1 xs23,i64 x24,i64 x25,u64 x26,i64 x27,i64 x28,i64 x29,i64 x30,i64 x31,Zaf 1 xs32,Zaf 1 xs33,bo b34]∧R (.tup [Zar [Zac (i64 x4),Zac (i64 x5),Zac (i64 x6),Zac (i64 x7),Zac (i64 x8),Zac (i64 x9),Zac (i64 x10),Zac (i64 x11),Zac (i64 x12),Zac (i64 x13),Zac (i64 x14),Zac (i64 x15),Zac (Zaf 4 xs16),Zac (Zaf 5 xs17),Zac (Zaf 3 xs18),Zac (Zaf 4 xs19),Zac (bo b20),Zac (Zaf 8 xs21),Zac (Zaf 8 xs22),Zac (Zaf 1 xs23),Zac (i64 x24),Zac (i64 x25),Zac (u64 x26),Zac (i64 x27),Zac (i64 x28),Zac (i64 x29),Zac (i64 x30),Zac (i64 x31),Zac (Zaf 1 xs32),Zac (Zaf 1 xs33),Zac (bo b34)],Zac (bo true)]) b) False)):=by kernel_rfl
theorem ALn9 {α:Type} (p:α→Bool) (l:List α):(l.findIdx? p=none∧l.find? p=none)∨∃j x,l.findIdx? p=some j∧l[j]? =some x∧l.find? p=some x∧p x=true:=by
 induction l with
 |nil=>exact .inl ⟨rfl,rfl⟩
 | cons a r ih=>
   rw [Zeu,List.find?_cons]
   by_cases h:p a=true
   · exact .inr ⟨0,a,by simp [h],by simp,by simp [h],h⟩
   · simp only [Bool.not_eq_true] at h
     rcases ih with ⟨h1,h2⟩|⟨j,x,h1,h2,h3,h4⟩
     · exact .inl ⟨by simp [h,h1],by simp [h,h2]⟩
     · exact .inr ⟨j+1,x,by simp [h,h1],by simpa using h2,by simp [h,h3],h4⟩
def zeroN:NearT:=⟨0,0, [], [], [],0,0,0,0,0,0,0,0,0,0, [],false, [], [], [],0,0,0,0,0,0,0,0, [], [],false⟩
def sFind (s:SideT) (pe:Int):Option NearT:=s.ns.find? fun x=>x.fm==pe
def nearO (o:Option NearT):NearT:=match o with|some n=>n|none=>zeroN
theorem BWc9 (e:Bool):LeV (AV.tup [Zar [Zac (i64 (0:Int)),Zac (i64 (0:Int)),Zac (i64 (0:Int)),Zac (i64 (0:Int)),Zac (i64 (0:Int)),Zac (i64 (0:Int)),Zac (i64 (0:Int)),Zac (i64 (0:Int)),Zac (i64 (0:Int)),Zac (i64 (0:Int)),Zac (i64 (0:Int)),Zac (i64 (0:Int)),Zac (Zdo (Zcy none 0 0)),Zac (Zdo (Zcy none 0 0)),Zac (Zdo (Zcy none 0 0)),Zac (Zdo (Zcy none 0 0)),Zac (bo false),Zac (Zdo (Zcy none 0 0)),Zac (Zdo (Zcy none 0 0)),Zac (Zdo (Zcy none 0 0)),Zac (i64 (0:Int)),Zac (i64 (0:Int)),Zac (u64 (0:Int)),Zac (i64 (0:Int)),Zac (i64 (0:Int)),Zac (i64 (0:Int)),Zac (i64 (0:Int)),Zac (i64 (0:Int)),Zac (Zdo (Zcy none 0 0)),Zac (Zdo (Zcy none 0 0)),Zac (bo false)],Zac (bo e)]) (.tup [nearA zeroN, .d (bo e)]):=
 LeV.tups (.cons (LeV.aggs (by repeat' (first|exact .nil|refine .cons .rfl ?_|refine .cons (.nil rfl) ?_))) (.cons .rfl .nil))
theorem CDx9 (s:SideT) (pe:Int) (h:s.ns.length≤9223372036854775807):PCall prog 37 [.rptr (sideD s), .d (i64 pe)] (.tup [nearA (nearO (sFind s pe)), .d (bo (sFind s pe).isSome)]):=by
 refine PCall.ofFnV (n:=100) (u:=false) (fun _=>fun _ _ _ _ _=>False) mixed CFj9 Zah (fun Ev _ _ _ _ _ h=>h.elim) func37 (by rfl) (by rfl) fun Ev bb=> ?_
 rw [CAp9]
 refine ⟨s.ns,pe,_,rfl,⟨h,rfl⟩, ?_⟩
 rcases ALn9 (fun x:NearT=>x.fm==pe) s.ns with ⟨h1,h2⟩|⟨j,x,h1,h2,h3,_⟩
 · rw [AAy9 h1,show sFind s pe=none from h2]
   exact Zba (by decide) (BWc9 false)
 · rw [AAi9 h1,show sFind s pe=some x from h3,ABt9 h2]
   exact Zde (by simp) (Zba (natI j) ⟨_,_,_,_,_,_,_,_,_,_,_,_,_,_,_,_,_,_,_,_,_,_,_,_,_,_,_,_,_,_,_,rfl, .rfl⟩)
def cFind (args:List AV) (K:AV→Prop):Prop:=∃(s:SideT) (pe:Int) (q:NearT) (e:Bool),args= [.rptr (sideD s), .d (i64 pe)]∧(s.ns.length≤9223372036854775807∧q=nearO (sFind s pe)∧e=(sFind s pe).isSome)∧K (.tup [nearA q, .d (bo e)])
theorem AUa9:∀args K,cFind args K→∃x,PCall prog 37 args x∧K x:=by
 rintro _ K ⟨s,pe,_,_,rfl,⟨h,rfl,rfl⟩,hk⟩;exact ⟨_,CDx9 s pe h,hk⟩
theorem BTm9 (t:TabT):wpFn prog ⟨[], [],wl,y,false⟩ 100 f34 [tabA t] b R=(BIf (decide (((Zaa (rowsU (Zbo t)):Nat):Int)≤(70:Int))) (BIf (decide (((Zaa (rowsG (Zbu t)):Nat):Int)≤(70:Int))) (R (.d (bo (decide (((Zaa (rowsA (Zbw t)):Nat):Int)≤(70:Int))))) b) (R (.d (bo false)) b)) (R (.d (bo false)) b)):=by kernel_rfl
def AOr9 (t:TabT):Bool:=decide (t.us.length≤70)&&(decide (t.gs.length≤70)&&decide (t.ak.length≤70))
theorem BEb9 {t:TabT}:AOr9 t=true↔t.us.length≤70∧t.gs.length≤70∧t.ak.length≤70:=by simp [AOr9]
theorem BZo9 (t:TabT):PCall prog 34 [tabA t] (.d (bo (AOr9 t))):=by
 refine Zbg (n:=100) (u:=false) mixed Zak Zah func34 (by rfl) (by rfl) fun Ev bb=> ?_
 rw [BTm9]
 simp only [AAj9,AAg9,AAp9]
 have e:∀n:Nat,decide (((n:Nat):Int)≤70)=decide (n≤70):=fun n=>by rw [decide_eq_decide];omega
 simp only [e]
 refine Zbd (fun h1=> ?_) fun h1=> ?_
 · refine Zbd (fun h2=> ?_) fun h2=> ?_
   · rw [AOr9,h1,h2];rfl
   · rw [AOr9,h1,h2];rfl
 · rw [AOr9,h1];rfl
def CBq9 (args:List AV) (K:AV→Prop):Prop:=∃(t:TabT) (q:Bool),args= [tabA t]∧q=AOr9 t∧K (.d (bo q))
theorem BLw9:∀args K,CBq9 args K→∃x,PCall prog 34 args x∧K x:=by
 rintro _ K ⟨t,_,rfl,rfl,hk⟩;exact ⟨_,BZo9 t,hk⟩
noncomputable def lpNb:Code:=sub [1,0,1,2,3] (code f69)
def tmNb (l:List NearT) (me fr i:Int):List AV:= [.bad, .d (i64 me), .d (.sl 31 (rowsN l)), .d (i64 fr), .ptr 0 0, .bad, .bad, .bad, .d (bo false), .d (i64 i)]++Zap 56 .bad
abbrev Qz26 (v0:Int) (v1:List NearT) (v2:Int) (v3:Int):=Zab::Zac (i64 v0)::Zac (Zaf 31 (rowsN v1))::Zac (i64 v2)::Zai 0 0::bds 3 (Zac (bo false)::Zac (i64 v3)::bds 56 [])
theorem rNb (ly:LayT) (l:List NearT) (me fr i:Int):wpc prog ⟨[], [],wl,y,false⟩ 100 lpNb (tmNb l me fr i) [layB ly] b (maskK 1 [1,2,3,4,8,9] K)=(BIf (decide (i<((Zaa (rowsN l):Nat):Int))) (BIf (true&&decide (0≤i)) (∃(x0:Int) (x1:Int) (x2:Int) (x3:Int) (x4:Int) (x5:Int) (x6:Int) (x7:Int) (x8:Int) (x9:Int) (x10:Int) (x11:Int) (xs12:List (List Dv)) (xs13:List (List Dv)) (xs14:List (List Dv)) (xs15:List (List Dv)) (b16:Bool) (xs17:List (List Dv)) (xs18:List (List Dv)) (xs19:List (List Dv)) (x20:Int) (x21:Int) (x22:Int) (x23:Int) (x24:Int) (x25:Int) (x26:Int) (x27:Int) (xs28:List (List Dv)) (xs29:List (List Dv)) (b30:Bool),(rowsN l)[Zao i]? =some [i64 x0,i64 x1,i64 x2,i64 x3,i64 x4,i64 x5,i64 x6,i64 x7,i64 x8,i64 x9,i64 x10,i64 x11,Zaf 4 xs12,Zaf 5 xs13,Zaf 3 xs14,Zaf 4 xs15,bo b16,Zaf 8 xs17,Zaf 8 xs18,Zaf 1 xs19,i64 x20,i64 x21,u64 x22,i64 x23,i64 x24,i64 x25,i64 x26,i64 x27,Zaf 1 xs28,Zaf 1 xs29,bo b30]∧BIf (decide (x1<(0:Int))) (K .ret (Qz26 me l fr i) [Blk.mk (Qz5 ly) false false 0] b) (BIf (decide (x1≥Zeq ly)) (K .ret (Qz26 me l fr i) [Blk.mk (Qz5 ly) false false 0] b) (BIf (x1==me) (K .ret (Qz26 me l fr i) [Blk.mk (Qz5 ly) false false 0] b) (BIf (true&&decide (0≤i)) (∃(x33:Int) (x34:Int) (x35:Int) (x36:Int) (x37:Int) (x38:Int) (x39:Int) (x40:Int) (x41:Int) (x42:Int) (x43:Int) (x44:Int) (xs45:List (List Dv)) (xs46:List (List Dv)) (xs47:List (List Dv)) (xs48:List (List Dv)) (b49:Bool) (xs50:List (List Dv)) (xs51:List (List Dv)) (xs52:List (List Dv)) (x53:Int) (x54:Int) (x55:Int) (x56:Int) (x57:Int) (x58:Int) (x59:Int) (x60:Int) (xs61:List (List Dv)) (xs62:List (List Dv)) (b63:Bool),(rowsN l)[Zao i]? =some [i64 x33,i64 x34,i64 x35,i64 x36,i64 x37,i64 x38,i64 x39,i64 x40,i64 x41,i64 x42,i64 x43,i64 x44,Zaf 4 xs45,Zaf 5 xs46,Zaf 3 xs47,Zaf 4 xs48,bo b49,Zaf 8 xs50,Zaf 8 xs51,Zaf 1 xs52,i64 x53,i64 x54,u64 x55,i64 x56,i64 x57,i64 x58,i64 x59,i64 x60,Zaf 1 xs61,Zaf 1 xs62,bo b63]∧BIf (decide (x33<(0:Int))) (K .ret (Qz26 me l fr i) [Blk.mk (Qz5 ly) false false 0] b) (BIf (true&&decide (0≤i)) (∃(x66:Int) (x67:Int) (x68:Int) (x69:Int) (x70:Int) (x71:Int) (x72:Int) (x73:Int) (x74:Int) (x75:Int) (x76:Int) (x77:Int) (xs78:List (List Dv)) (xs79:List (List Dv)) (xs80:List (List Dv)) (xs81:List (List Dv)) (b82:Bool) (xs83:List (List Dv)) (xs84:List (List Dv)) (xs85:List (List Dv)) (x86:Int) (x87:Int) (x88:Int) (x89:Int) (x90:Int) (x91:Int) (x92:Int) (x93:Int) (xs94:List (List Dv)) (xs95:List (List Dv)) (b96:Bool),(rowsN l)[Zao i]? =some [i64 x66,i64 x67,i64 x68,i64 x69,i64 x70,i64 x71,i64 x72,i64 x73,i64 x74,i64 x75,i64 x76,i64 x77,Zaf 4 xs78,Zaf 5 xs79,Zaf 3 xs80,Zaf 4 xs81,bo b82,Zaf 8 xs83,Zaf 8 xs84,Zaf 1 xs85,i64 x86,i64 x87,u64 x88,i64 x89,i64 x90,i64 x91,i64 x92,i64 x93,Zaf 1 xs94,Zaf 1 xs95,bo b96]∧BIf (decide (x66>fr)) (K .ret (Qz26 me l fr i) [Blk.mk (Qz5 ly) false false 0] b) (BIf (decide (i>(0:Int))) (BIf (true&&decide ((0:Int)≤Zae .i64 (i - 1))) (∃(x99:Int) (x100:Int) (x101:Int) (x102:Int) (x103:Int) (x104:Int) (x105:Int) (x106:Int) (x107:Int) (x108:Int) (x109:Int) (x110:Int) (xs111:List (List Dv)) (xs112:List (List Dv)) (xs113:List (List Dv)) (xs114:List (List Dv)) (b115:Bool) (xs116:List (List Dv)) (xs117:List (List Dv)) (xs118:List (List Dv)) (x119:Int) (x120:Int) (x121:Int) (x122:Int) (x123:Int) (x124:Int) (x125:Int) (x126:Int) (xs127:List (List Dv)) (xs128:List (List Dv)) (b129:Bool),(rowsN l)[Zao (Zae .i64 (i - 1))]? =some [i64 x99,i64 x100,i64 x101,i64 x102,i64 x103,i64 x104,i64 x105,i64 x106,i64 x107,i64 x108,i64 x109,i64 x110,Zaf 4 xs111,Zaf 5 xs112,Zaf 3 xs113,Zaf 4 xs114,bo b115,Zaf 8 xs116,Zaf 8 xs117,Zaf 1 xs118,i64 x119,i64 x120,u64 x121,i64 x122,i64 x123,i64 x124,i64 x125,i64 x126,Zaf 1 xs127,Zaf 1 xs128,bo b129]∧BIf (decide (x100≥x1)) (K .ret (Qz26 me l fr i) [Blk.mk (Qz5 ly) false false 0] b) (K .normal (Zab::Zac (i64 me)::Zac (Zaf 31 (rowsN l))::Zac (i64 fr)::Zai 0 0::bds 3 (Zac (bo false)::Zac (i64 (Zae .i64 (i+1)))::bds 56 [])) [Blk.mk (Qz5 ly) false false 0] b)) False) (K .normal (Zab::Zac (i64 me)::Zac (Zaf 31 (rowsN l))::Zac (i64 fr)::Zai 0 0::bds 3 (Zac (bo false)::Zac (i64 (Zae .i64 (i+1)))::bds 56 [])) [Blk.mk (Qz5 ly) false false 0] b))) False)) False)))) False) (K (Zbn 0) (Qz26 me l fr i) [Blk.mk (Qz5 ly) false false 0] b)):=by kernel_rfl
def AAf9 {α:Type}:Option α→List α→List (Option α×α)
 |_, []=> []
 |o,x::r=>(o,x)::AAf9 (some x) r
theorem ADu9 {α:Type} (l:List α):∀o,(AAf9 o l).length=l.length:=by
 induction l with
 |nil=>intro o;rfl
 |cons x r ih=>intro o;simp [AAf9,ih]
theorem AEl9 {α:Type} (l:List α):∀(o:Option α) (i:Nat) (p:Option α×α),(AAf9 o l)[i]? =some p→l[i]? =some p.2∧(i=0→p.1=o)∧∀j,i=j+1→∃w,p.1=some w∧l[j]? =some w:=by
 induction l with
 |nil=>intro o i p h;simp [AAf9] at h
 | cons x r ih=>
   intro o i p h
   cases i with
   | zero=>
     simp only [AAf9,List.getElem?_cons_zero,Option.some.injEq] at h
     subst h
     exact ⟨rfl,fun _=>rfl,fun j hj=>by omega⟩
   | succ i=>
     simp only [AAf9,List.getElem?_cons_succ] at h
     obtain ⟨h1,h2,h3⟩:=ih (some x) i p h
     refine ⟨by simpa using h1,fun hh=>by omega,fun j hj=> ?_⟩
     cases i with
     |zero=>exact ⟨x,h2 rfl,by rw [show j=0 by omega];rfl⟩
     | succ i=>
       obtain ⟨w,hw,hl⟩:=h3 i rfl
       exact ⟨w,hw,by rw [show j=i+1 by omega];simpa using hl⟩
def AVc9 (o:Option NearT) (fm:Int):Bool:=match o with|some w=>decide (w.fm≥fm)|none=>false
def badN (ly:LayT) (me fr:Int) (p:Option NearT×NearT):Bool:=decide (p.2.fm<0)||(decide (p.2.fm≥ly.no)||(p.2.fm==me||(decide (p.2.fr<0)||(decide (p.2.fr>fr)||AVc9 p.1 p.2.fm))))
theorem wrNb {Ev:Env prog} {b:Ev.β} {Q:Exit→St Ev.β→Prop} (ly:LayT) (l:List NearT) (me fr:Int) (hl:l.length≤9223372036854775807) (h1:(AAf9 none l).any (badN ly me fr)=false→∀i:Int,Q (.exit 0) ⟨tmNb l me fr i, [layB ly],b⟩) (h2:(AAf9 none l).any (badN ly me fr)=true→∀i:Int,Q .ret ⟨tmNb l me fr i, [layB ly],b⟩):
   WR Ev lpNb (l.length+1) ⟨tmNb l me fr (0:Nat), [layB ly],b⟩ Q:=by
 have e:=ADu9 l none
 rw [←e]
 refine WR.scanL (X:=⟨[], [],wlW Ev,Ev.Y,false⟩) (k:=100) [1,2,3,4,8,9] mixed (CX.Ok.of Zak Zah) (AAf9 none l) (badN ly me fr) (fun i=>tmNb l me fr (i:Nat)) (fun i=>tmNb l me fr (i:Nat)) [layB ly] 0 (fun i x hi hx K k1 k2=> ?_) (fun K k1=> ?_) (fun h=>h1 h _) fun h i=>h2 h _
 · obtain ⟨g1,g2,g3⟩:=AEl9 l none i x hx
   obtain ⟨o,x⟩:=x
   simp only at g1 g2 g3
   refine Eq.mpr (rNb _ _ _ K ly l me fr i) ?_
   rw [ABz9]
   refine Zba (by simp;omega) (Zba (natI i) ?_)
   refine ⟨_,_,_,_,_,_,_,_,_,_,_,_,_,_,_,_,_,_,_,_,_,_,_,_,_,_,_,_,_,_,_,ABt9 g1, ?_⟩
   refine Zbd (fun c1=>k1 (by simp [badN,c1])) fun c1=>Zbd (fun c2=>k1 (by simp [badN,c2])) fun c2=>Zbd (fun c3=>k1 (by rw [badN];simp only [show (x.fm==me)=true from c3,Zfb,Zfc])) fun c3=>Zba (natI i) ⟨_,_,_,_,_,_,_,_,_,_,_,_,_,_,_,_,_,_,_,_,_,_,_,_,_,_,_,_,_,_,_,ABt9 g1,Zbd (fun c4=>k1 (by simp [badN,c4])) fun c4=>Zba (natI i) ⟨_,_,_,_,_,_,_,_,_,_,_,_,_,_,_,_,_,_,_,_,_,_,_,_,_,_,_,_,_,_,_,ABt9 g1,Zbd (fun c5=>k1 (by simp [badN,c5])) fun c5=> ?_⟩⟩
   have hb:badN ly me fr (o,x)=AVc9 o x.fm:=by rw [badN,c1,c2,show (x.fm==me)=false from c3,c4,c5];rfl
   cases i with
   | zero=>
     refine Zde (by decide) ?_
     rw [wrapN (by omega)]
     exact k2 (by rw [hb,g2 rfl];rfl)
   | succ j=>
     obtain ⟨w,hw,hj⟩:=g3 j rfl
     refine Zba (by simp) ?_
     rw [show Zae Zbb (((j+1:Nat):Int) - 1)=((j:Nat):Int) by rw [ABb9 (by omega) (by omega)];omega]
     refine Zba (natI j) ⟨_,_,_,_,_,_,_,_,_,_,_,_,_,_,_,_,_,_,_,_,_,_,_,_,_,_,_,_,_,_,_,ABt9 hj,Zbd (fun c6=>k1 (by rw [hb,hw];exact c6)) fun c6=> ?_⟩
     rw [wrapN (by omega)]
     exact k2 (by rw [hb,hw];exact c6)
 · refine Eq.mpr (rNb _ _ _ K ly l me fr _) ?_
   rw [ABz9]
   exact Zde (by simp [e]) k1
def wlNb {β:Type}:WLT β:=fun cd tm hp b K=>∃(ly:LayT) (l:List NearT) (me fr:Int) (q:Bool),cd= .loop lpNb∧AAz9 [1,2,3,4,8,9] 0 tm=tmNb l me fr 0∧hp= [layB ly]∧(l.length≤9223372036854775807∧q=(AAf9 none l).any (badN ly me fr))∧BIf q (∀i:Int,K .ret (tmNb l me fr i) [layB ly] b) (∀i:Int,K (.exit 0) (tmNb l me fr i) [layB ly] b)
theorem BWz9 {Ev:Env prog} (c:Code) (tm:List AV) (hp:List Blk) (b:Ev.β) (K:Exit→List AV→List Blk→Ev.β→Prop) (h:wlNb c tm hp b K):W Ev c ⟨tm,hp,b⟩ (fun e s=>K e s.tm s.hp s.b):=by
 obtain ⟨ly,l,me,fr,q,rfl,htm,rfl,⟨hl,hz⟩,hK⟩:=h
 refine W.cast (htm▸AAc9 _ tm 0) (Zby _) ?_
 exact W.rounds (wrNb (Q:=fun e s=>K e s.tm s.hp s.b) ly l me fr hl (fun h=>by rw [hz,h] at hK;exact hK) fun h=>by rw [hz,h] at hK;exact hK)
abbrev Qz68 (v0:Int) (v1:List NearT) (v2:Int):=Zab::Zac (i64 v0)::Zac (Zaf 31 (rowsN v1))::Zac (i64 v2)::Zai 0 0::bds 3 (Zac (bo false)::Zac (i64 0)::bds 56 [])
theorem nb_nf (ly:LayT) (l:List NearT) (me fr:Int):wpFn prog ⟨[], [],wlNb,y,false⟩ 100 f69 [layA ly, .d (i64 me), .d (.sl 31 (rowsN l)), .d (i64 fr)] b R=(∃(ly0:LayT) (l1:List NearT) (me2:Int) (fr3:Int) (q4:Bool),Zax lpNb=Zax lpNb∧(Qz68 me l fr)=(Qz68 me2 l1 fr3)∧ [Blk.mk (Qz5 ly) false false 0]= [Blk.mk (Qz5 ly0) false false 0]∧(Zaa l1≤9223372036854775807∧q4=Zdn (AAf9 none l1) (badN ly0 me2 fr3))∧BIf q4 (∀(i:Int),R (.d (bo false)) b) (∀(i:Int),R (.d (bo true)) b)):=by kernel_rfl
def nbS (ly:LayT) (l:List NearT) (me fr:Int):Bool:= !(AAf9 none l).any (badN ly me fr)
theorem pcNb (ly:LayT) (l:List NearT) (me fr:Int) (hl:l.length≤9223372036854775807):PCall prog 69 [layA ly, .d (i64 me), .d (.sl 31 (rowsN l)), .d (i64 fr)] (.d (bo (nbS ly l me fr))):=by
 refine Zdl (n:=100) (u:=false) (fun _=>wlNb) mixed Zak Zah (fun Ev=>BWz9) func69 (by rfl) (by rfl) fun Ev bb=> ?_
 rw [nb_nf]
 exact ⟨ly,l,me,fr,_,rfl,rfl,rfl,⟨hl,rfl⟩,Zbd (fun h i=>by rw [nbS,h];rfl) fun h i=>by rw [nbS,h];rfl⟩
def cNb (args:List AV) (K:AV→Prop):Prop:=∃(ly:LayT) (l:List NearT) (me fr:Int) (q:Bool),args= [layA ly, .d (i64 me), .d (.sl 31 (rowsN l)), .d (i64 fr)]∧(l.length≤9223372036854775807∧q=nbS ly l me fr)∧K (.d (bo q))
theorem CEk9:∀args K,cNb args K→∃x,PCall prog 69 args x∧K x:=by
 rintro _ K ⟨ly,l,me,fr,_,rfl,⟨hl,rfl⟩,hk⟩;exact ⟨_,pcNb ly l me fr hl,hk⟩
noncomputable def lpFw:Code:=sub [1,0,1,2,3] (code f33)
def tmFw (l:List NearT) (i:Int):List AV:= [.d (.sl 31 (rowsN l)), .bad, .d (bo false), .d (i64 i)]++Zap 35 .bad
abbrev Qz39 (v0:List NearT) (v1:Int):=Zac (Zaf 31 (rowsN v0))::Zab::Zac (bo false)::Zac (i64 v1)::bds 35 []
theorem rFw (l:List NearT) (i:Int):wpc prog ⟨[], [],wl,y,false⟩ 100 lpFw (tmFw l i) [] b (maskK 0 [0,2,3] K)=(BIf (decide (i<((Zaa (rowsN l):Nat):Int))) (BIf (decide (i<(70:Int))) (BIf (true&&decide (0≤i)) (∃(x0:Int) (x1:Int) (x2:Int) (x3:Int) (x4:Int) (x5:Int) (x6:Int) (x7:Int) (x8:Int) (x9:Int) (x10:Int) (x11:Int) (xs12:List (List Dv)) (xs13:List (List Dv)) (xs14:List (List Dv)) (xs15:List (List Dv)) (b16:Bool) (xs17:List (List Dv)) (xs18:List (List Dv)) (xs19:List (List Dv)) (x20:Int) (x21:Int) (x22:Int) (x23:Int) (x24:Int) (x25:Int) (x26:Int) (x27:Int) (xs28:List (List Dv)) (xs29:List (List Dv)) (b30:Bool),(rowsN l)[Zao i]? =some [i64 x0,i64 x1,i64 x2,i64 x3,i64 x4,i64 x5,i64 x6,i64 x7,i64 x8,i64 x9,i64 x10,i64 x11,Zaf 4 xs12,Zaf 5 xs13,Zaf 3 xs14,Zaf 4 xs15,bo b16,Zaf 8 xs17,Zaf 8 xs18,Zaf 1 xs19,i64 x20,i64 x21,u64 x22,i64 x23,i64 x24,i64 x25,i64 x26,i64 x27,Zaf 1 xs28,Zaf 1 xs29,bo b30]∧BIf (decide (((Zaa xs12:Nat):Int)>(40:Int))) (K .ret (Qz39 l i) [] b) (BIf (decide (((Zaa xs13:Nat):Int)>(40:Int))) (K .ret (Qz39 l i) [] b) (BIf (decide (((Zaa xs14:Nat):Int)>(40:Int))) (K .ret (Qz39 l i) [] b) (K .normal (Zac (Zaf 31 (rowsN l))::Zab::Zac (bo false)::Zac (i64 (Zae .i64 (i+1)))::bds 35 []) [] b)))) False) (K (Zbn 0) (Qz39 l i) [] b)) (K (Zbn 0) (Qz39 l i) [] b)):=by kernel_rfl
def manyN (x:NearT):Bool:=decide ((x.us.length:Int)>40)||(decide ((x.gs.length:Int)>40)||decide ((x.ak.length:Int)>40))
theorem wrFw {Ev:Env prog} {b:Ev.β} {Q:Exit→St Ev.β→Prop} (l:List NearT) (h1:(l.take 70).any manyN=false→∀i:Int,Q (.exit 0) ⟨tmFw l i, [],b⟩) (h2:(l.take 70).any manyN=true→∀i:Int,Q .ret ⟨tmFw l i, [],b⟩):
   WR Ev lpFw ((l.take 70).length+1) ⟨tmFw l (0:Nat), [],b⟩ Q:=by
 refine WR.scanL (X:=⟨[], [],wlW Ev,Ev.Y,false⟩) (k:=100) [0,2,3] mixed (CX.Ok.of Zak Zah) (l.take 70) manyN (fun i=>tmFw l (i:Nat)) (fun i=>tmFw l (i:Nat)) [] 0 (fun i x hi hx K k1 k2=> ?_) (fun K k1=> ?_) (fun h=>h1 h _) fun h i=>h2 h _
 · have hl:=Zcb (i:=70) (l:=l)
   have hx':l[i]? =some x:=by rw [List.getElem?_take_of_lt (by omega)] at hx;exact hx
   refine Eq.mpr (rFw _ _ _ K l i) ?_
   rw [ABz9]
   refine Zba (by simp;omega) (Zba (by simp;omega) (Zba (natI i) ⟨_,_,_,_,_,_,_,_,_,_,_,_,_,_,_,_,_,_,_,_,_,_,_,_,_,_,_,_,_,_,_,ABt9 hx', ?_⟩))
   simp only [AAj9,AAg9,AAp9]
   refine Zbd (fun c1=>k1 (by rw [manyN,c1];rfl)) fun c1=>Zbd (fun c2=>k1 (by rw [manyN,c1,c2];rfl)) fun c2=>Zbd (fun c3=>k1 (by rw [manyN,c1,c2,c3];rfl)) fun c3=> ?_
   rw [wrapN (by omega)]
   exact k2 (by rw [manyN,c1,c2,c3];rfl)
 · have hl:=Zcb (i:=70) (l:=l)
   refine Eq.mpr (rFw _ _ _ K l _) ?_
   rw [ABz9]
   exact Zbd (fun c=>Zde (by simp at c ⊢;omega) k1) fun c=>k1
def wlFw {β:Type}:WLT β:=fun cd tm hp b K=>∃(l:List NearT) (q:Bool),cd= .loop lpFw∧AAz9 [0,2,3] 0 tm=tmFw l 0∧hp= []∧q=(l.take 70).any manyN∧BIf q (∀i:Int,K .ret (tmFw l i) [] b) (∀i:Int,K (.exit 0) (tmFw l i) [] b)
theorem BXf9 {Ev:Env prog} (c:Code) (tm:List AV) (hp:List Blk) (b:Ev.β) (K:Exit→List AV→List Blk→Ev.β→Prop) (h:wlFw c tm hp b K):W Ev c ⟨tm,hp,b⟩ (fun e s=>K e s.tm s.hp s.b):=by
 obtain ⟨l,q,rfl,htm,rfl,hz,hK⟩:=h
 refine W.cast (htm▸AAc9 _ tm 0) (Zby _) ?_
 exact W.rounds (wrFw (Q:=fun e s=>K e s.tm s.hp s.b) l (fun h=>by rw [hz,h] at hK;exact hK) fun h=>by rw [hz,h] at hK;exact hK)
theorem BTl9 (l:List NearT):wpFn prog ⟨[], [],wlFw,y,false⟩ 100 f33 [.d (.sl 31 (rowsN l))] b R=(∃(l0:List NearT) (q1:Bool),Zax lpFw=Zax lpFw∧(Zac (Zaf 31 (rowsN l))::Zab::Zac (bo false)::Zac (i64 0)::bds 35 [])=(Zac (Zaf 31 (rowsN l0))::Zab::Zac (bo false)::Zac (i64 0)::bds 35 [])∧([]:List Blk)= []∧q1=Zdn (Zbq 70 l0) manyN∧BIf q1 (∀(i:Int),R (.d (bo false)) b) (∀(i:Int),R (.d (bo (decide (((Zaa (rowsN l0):Nat):Int)≤(70:Int))))) b)):=by kernel_rfl
def ATl9 (l:List NearT):Bool:= !(l.take 70).any manyN&&decide ((l.length:Int)≤70)
theorem BZn9 (l:List NearT):PCall prog 33 [.d (.sl 31 (rowsN l))] (.d (bo (ATl9 l))):=by
 refine Zdl (n:=100) (u:=false) (fun _=>wlFw) mixed Zak Zah (fun Ev=>BXf9) func33 (by rfl) (by rfl) fun Ev bb=> ?_
 rw [BTl9]
 refine ⟨l,_,rfl,rfl,rfl,rfl,Zbd (fun h i=> ?_) fun h i=> ?_⟩
 · rw [ATl9,h];rfl
 · rw [ATl9,h,ABz9];rfl
def CBp9 (args:List AV) (K:AV→Prop):Prop:=∃(l:List NearT) (q:Bool),args= [.d (.sl 31 (rowsN l))]∧q=ATl9 l∧K (.d (bo q))
theorem BLv9:∀args K,CBp9 args K→∃x,PCall prog 33 args x∧K x:=by
 rintro _ K ⟨l,_,rfl,rfl,hk⟩;exact ⟨_,BZn9 l,hk⟩
def TSm:List (Nat×(List AV→(AV→Prop)→Prop)):= [(33,CBp9),(34,CBq9)]
theorem CEw9:AAb9 prog TSm:=Zaj BLv9 (Zaj BLw9 Zak)
theorem BQs9 (t:TabT) (l:List NearT):wpFn prog ⟨TSm, [],wl,y,false⟩ 100 f11 [tabA t, .d (.sl 31 (rowsN l))] b R=(∃(l0:List NearT) (q1:Bool), [Zac (Zaf 31 (rowsN l))]= [Zac (Zaf 31 (rowsN l0))]∧q1=ATl9 l0∧BIf q1 (∃(t2:TabT) (q3:Bool), [Zar (Qz2 t)]= [Zar (Qz2 t2)]∧q3=AOr9 t2∧R (.d (bo q3)) b) (R (.d (bo false)) b)):=by kernel_rfl
def AQa9 (t:TabT) (l:List NearT):Bool:=ATl9 l&&AOr9 t
theorem BZh9 (t:TabT) (l:List NearT):PCall prog 11 [tabA t, .d (.sl 31 (rowsN l))] (.d (bo (AQa9 t l))):=by
 refine Zbg (n:=100) (u:=false) mixed CEw9 Zah func11 (by rfl) (by rfl) fun Ev bb=> ?_
 rw [BQs9]
 refine ⟨l,_,rfl,rfl,Zbd (fun h=>⟨t,_,rfl,rfl, ?_⟩) fun h=> ?_⟩
 · rw [AQa9,h];rfl
 · rw [AQa9,h];rfl
def CBk9 (args:List AV) (K:AV→Prop):Prop:=∃(t:TabT) (l:List NearT) (q:Bool),args= [tabA t, .d (.sl 31 (rowsN l))]∧q=AQa9 t l∧K (.d (bo q))
theorem BLo9:∀args K,CBk9 args K→∃x,PCall prog 11 args x∧K x:=by
 rintro _ K ⟨t,l,_,rfl,rfl,hk⟩;exact ⟨_,BZh9 t l,hk⟩
theorem BXq9 (t:TabT) (me fr:Int):wpFn prog ⟨[], [],wl,y,false⟩ 100 f32 [.d (i64 me),tabA t, .d (i64 fr)] b R=(R (Zez 31 [[i64 fr,i64 me,i64 0,i64 0,i64 0,i64 0,i64 0,i64 0,i64 0,i64 0,i64 0,i64 0,Zaf 4 (rowsU (Zbo t)),Zaf 5 (rowsG (Zbu t)),Zaf 3 (rowsA (Zbw t)),Zdo (.slice none 0 0),bo false,Zdo (.slice none 0 0),Zdo (.slice none 0 0),Zdo (.slice none 0 0),i64 0,i64 0,u64 0,i64 0,i64 0,i64 0,i64 0,i64 0,Zdo (.slice none 0 0),Zdo (.slice none 0 0),bo false]]) b):=by kernel_rfl
theorem PCall.semRes {P:Program} {f:Nat} {args:List AV} {x y:AV} (h:SemV x.view y.view) (hp:PCall P f args x):PCall P f args y:=by
 refine ⟨hp.1,fun S w vs h1 h2 h3 h4=>CallsIn.mono (hp.2 S w vs h1 h2 h3 h4) ?_⟩
 rintro e w' hq
 obtain ⟨v,S',g1,g2,g3,g4,g5⟩:=hq
 exact ⟨v,S',g1,g2,g3,g4,h _ _ _ _ _ g5⟩
def toldN (me:Int) (t:TabT) (fr:Int):NearT:=⟨fr,me,t.us,t.gs,t.ak,0,0,0,0,0,0,0,0,0,0, [],false, [], [], [],0,0,0,0,0,0,0,0, [], [],false⟩
def APo9 (me:Int) (t:TabT) (fr:Int):List Dv:= [i64 fr,i64 me,i64 0,i64 0,i64 0,i64 0,i64 0,i64 0,i64 0,i64 0,i64 0,i64 0,Zaf 4 (rowsU t.us),Zaf 5 (rowsG t.gs),Zaf 3 (rowsA t.ak),Zdo (Zcy none 0 0),bo false,Zdo (Zcy none 0 0),Zdo (Zcy none 0 0),Zdo (Zcy none 0 0),i64 0,i64 0,u64 0,i64 0,i64 0,i64 0,i64 0,i64 0,Zdo (Zcy none 0 0),Zdo (Zcy none 0 0),bo false]
theorem APn9 (me:Int) (t:TabT) (fr:Int):AGr9 (APo9 me t fr) (nearR (toldN me t fr)):=by
 unfold APo9 nearR toldN
 repeat' (first|exact .nil|refine .cons .rfl ?_|refine .cons .nil ?_)
theorem CDk9 (t:TabT) (me fr:Int):PCall prog 32 [.d (i64 me),tabA t, .d (i64 fr)] (.d (.sl 31 (rowsN [toldN me t fr]))):=by
 have h:PCall prog 32 [.d (i64 me),tabA t, .d (i64 fr)] (.full 31 [APo9 me t fr]):=by
   refine Zbg (n:=100) (u:=false) mixed Zak Zah func32 (by rfl) (by rfl) fun Ev bb=> ?_
   rw [BXq9];rfl
 have g:SemV (Zez 31 [APo9 me t fr]).view (Zac (Zaf 31 (rowsN [toldN me t fr]))).view:=SemV.rows (.cons (APn9 me t fr) .nil)
 exact PCall.semRes g h
def cTold (args:List AV) (K:AV→Prop):Prop:=∃(t:TabT) (me fr:Int) (q:List NearT),args= [.d (i64 me),tabA t, .d (i64 fr)]∧q= [toldN me t fr]∧K (.d (.sl 31 (rowsN q)))
theorem BUl9:∀args K,cTold args K→∃x,PCall prog 32 args x∧K x:=by
 rintro _ K ⟨t,me,fr,_,rfl,rfl,hk⟩;exact ⟨_,CDk9 t me fr,hk⟩
def sortA (l:List AskT):Nat→List AskT
 |0=> []
 |n+1=>sortA l n++l.filter (fun x=>x.sl==((n:Nat):Int))
theorem BHe9 {α:Type} (p:α→Bool) (l:List α) (k:Nat) (x:α) (h:l[k]? =some x):(l.take (k+1)).any p=((l.take k).any p||p x):=by
 rw [List.take_add_one,h,List.any_append];simp
noncomputable def lpNs:Code:=sub [1,1,1,0,1,2,3] (code f35)
def nilP:Dv:= .s (.pointer none)
def tmNs (l:List NearT) (me fr i:Int):List AV:= [.bad, .bad, .d (i64 me), .d (.sl 31 (rowsN l)), .d (i64 fr), .ptr 0 0, .bad, .bad, .bad, .bad, .d nilP, .d (bo false), .ptr 2 0]++Zap 26 .bad++ [.d (.sl 31 (rowsN l)), .d (i64 l.length), .d (i64 i)]++Zap 75 .bad
def layF (l:LayT) (z:Bool):Blk:=⟨[.d (i64 l.no), .d (i64 l.da)],z,false,0⟩
def sideB (l:LayT) (me fr:Int) (x:AV):Blk:=⟨[.d (i64 l.no), .d (i64 l.da), .d (i64 me),x, .d (i64 fr)],false,false,0⟩
def TNs:List (Nat×(List AV→(AV→Prop)→Prop)):= [(73,BLh9),(36,cIn),(74,AVx9),(77,AVy9),(40,AVz9)]
theorem CCl9:AAb9 prog TNs:=Zaj AOx9 (Zaj BFl9 (Zaj ATq9 (Zaj ATr9 (Zaj ATs9 Zak))))
def junkB (cs:List AV):Blk:=⟨cs,false,false,0⟩
def growB (v:Nat) (cs:List AV):Blk:=⟨cs,false,true,v⟩
def UNs:List (Nat×(List AV→List Blk→(AV→List Blk→Prop)→Prop)):= [(1000055,fun _ _ _=>False)]
theorem CCe9:AAm9 prog UNs:=Zbs (fun _ _ _ h=>h.elim) Zah
abbrev Qz8 (v0:Int) (v1:Int) (v2:List UseT) (v3:List GraT) (v4:List AskT):List AV:= [Zac (i64 v0),Zac (i64 v1),Zac (i64 0),Zac (i64 0),Zac (i64 0),Zac (i64 0),Zac (i64 0),Zac (i64 0),Zac (i64 0),Zac (i64 0),Zac (i64 0),Zac (i64 0),Zac (Zaf 4 (rowsU v2)),Zac (Zaf 5 (rowsG v3)),Zac (Zaf 3 (rowsA v4)),Zac (Zdo (.slice none 0 0)),Zac (bo false),Zac (Zdo (.slice none 0 0)),Zac (Zdo (.slice none 0 0)),Zac (Zdo (.slice none 0 0)),Zac (i64 0),Zac (i64 0),Zac (u64 0),Zac (i64 0),Zac (i64 0),Zac (i64 0),Zac (i64 0),Zac (i64 0),Zac (Zdo (.slice none 0 0)),Zac (Zdo (.slice none 0 0)),Zac (bo false)]
abbrev Qz28 (v0:LayT) (v1:Int) (v2:Int):List AV:= [Zac (i64 (Zeq v0)),Zac (i64 (Zcu v0)),Zac (i64 v1),Zac (Zdo (.slice none 0 0)),Zac (i64 v2)]
abbrev Qz30 (v0:Int) (v1:List UseT) (v2:List GraT) (v3:List AskT):List AV:= [Zac (i64 v0),Zac (i64 0),Zac (i64 0),Zac (i64 0),Zac (i64 0),Zac (i64 0),Zac (i64 0),Zac (i64 0),Zac (i64 0),Zac (i64 0),Zac (i64 0),Zac (Zaf 4 (rowsU v1)),Zac (Zaf 5 (rowsG v2)),Zac (Zaf 3 (rowsA v3)),Zac (Zdo (.slice none 0 0)),Zac (bo false),Zac (Zdo (.slice none 0 0)),Zac (Zdo (.slice none 0 0)),Zac (Zdo (.slice none 0 0)),Zac (i64 0),Zac (i64 0),Zac (u64 0),Zac (i64 0),Zac (i64 0),Zac (i64 0),Zac (i64 0),Zac (i64 0),Zac (Zdo (.slice none 0 0)),Zac (Zdo (.slice none 0 0)),Zac (bo false)]
abbrev Qz62 (v0:LayT) (v1:TabT) (v2:Int) (v3:Int):= [Blk.mk (Qz5 v0) false false 0,Blk.mk (Qz2 v1) false false 0,Blk.mk (Qz28 v0 v2 v3) false false 0]
theorem rNs0 (ly:LayT) (t:TabT) (l:List NearT) (me fr i:Int):wpc prog ⟨TNs,UNs,wl,y,false⟩ 100 lpNs (tmNs l me fr i) [layF ly false,tabB t,sideB ly me fr (.d (.s (.slice none 0 0)))] b (maskT [2,3,4,5,10,11,12,39,40,41] K)=(BIf (decide (i<((Zaa l:Nat):Int))) (BIf (true&&decide (0≤i)) (∃(x0:Int) (x1:Int) (x2:Int) (x3:Int) (x4:Int) (x5:Int) (x6:Int) (x7:Int) (x8:Int) (x9:Int) (x10:Int) (x11:Int) (xs12:List (List Dv)) (xs13:List (List Dv)) (xs14:List (List Dv)) (xs15:List (List Dv)) (b16:Bool) (xs17:List (List Dv)) (xs18:List (List Dv)) (xs19:List (List Dv)) (x20:Int) (x21:Int) (x22:Int) (x23:Int) (x24:Int) (x25:Int) (x26:Int) (x27:Int) (xs28:List (List Dv)) (xs29:List (List Dv)) (b30:Bool),(rowsN l)[Zao i]? =some [i64 x0,i64 x1,i64 x2,i64 x3,i64 x4,i64 x5,i64 x6,i64 x7,i64 x8,i64 x9,i64 x10,i64 x11,Zaf 4 xs12,Zaf 5 xs13,Zaf 3 xs14,Zaf 4 xs15,bo b16,Zaf 8 xs17,Zaf 8 xs18,Zaf 1 xs19,i64 x20,i64 x21,u64 x22,i64 x23,i64 x24,i64 x25,i64 x26,i64 x27,Zaf 1 xs28,Zaf 1 xs29,bo b30]∧∃(n33:Int) (h34:Int) (z35:Bool), [Zac (i64 x1),Zac (i64 (Zae .i64 (Zeq ly - (1:Int))))]= [Zac (i64 n33),Zac (i64 h34)]∧z35=inN n33 h34∧BIf (!z35) (K .ret (Zab::Zab::Zac (i64 me)::Zac (Zaf 31 (rowsN l))::Zac (i64 fr)::Zai 0 0::bds 4 (Zac (Zdo (Zci none))::Zac (bo false)::Zai 2 0::bds 26 (Zac (Zaf 31 (rowsN l))::Zac (i64 ((Zaa l:Nat):Int))::Zac (i64 i)::bds 75 []))) [Blk.mk (Qz5 ly) false false 0,Blk.mk (Qz2 t) false false 0,Blk.mk (Qz28 ly me fr) false false 0,Blk.mk [Zac (i64 x0),Zac (i64 x1),Zac (i64 x2),Zac (i64 x3),Zac (i64 x4),Zac (i64 x5),Zac (i64 x6),Zac (i64 x7),Zac (i64 x8),Zac (i64 x9),Zac (i64 x10),Zac (i64 x11),Zac (Zaf 4 xs12),Zac (Zaf 5 xs13),Zac (Zaf 3 xs14),Zac (Zaf 4 xs15),Zac (bo b16),Zac (Zaf 8 xs17),Zac (Zaf 8 xs18),Zac (Zaf 1 xs19),Zac (i64 x20),Zac (i64 x21),Zac (u64 x22),Zac (i64 x23),Zac (i64 x24),Zac (i64 x25),Zac (i64 x26),Zac (i64 x27),Zac (Zaf 1 xs28),Zac (Zaf 1 xs29),Zac (bo b30)] false false 0] b) (BIf (x1==me) (K .ret (Zab::Zab::Zac (i64 me)::Zac (Zaf 31 (rowsN l))::Zac (i64 fr)::Zai 0 0::bds 4 (Zac (Zdo (Zci none))::Zac (bo false)::Zai 2 0::bds 26 (Zac (Zaf 31 (rowsN l))::Zac (i64 ((Zaa l:Nat):Int))::Zac (i64 i)::bds 75 []))) [Blk.mk (Qz5 ly) false false 0,Blk.mk (Qz2 t) false false 0,Blk.mk (Qz28 ly me fr) false false 0,Blk.mk [Zac (i64 x0),Zac (i64 x1),Zac (i64 x2),Zac (i64 x3),Zac (i64 x4),Zac (i64 x5),Zac (i64 x6),Zac (i64 x7),Zac (i64 x8),Zac (i64 x9),Zac (i64 x10),Zac (i64 x11),Zac (Zaf 4 xs12),Zac (Zaf 5 xs13),Zac (Zaf 3 xs14),Zac (Zaf 4 xs15),Zac (bo b16),Zac (Zaf 8 xs17),Zac (Zaf 8 xs18),Zac (Zaf 1 xs19),Zac (i64 x20),Zac (i64 x21),Zac (u64 x22),Zac (i64 x23),Zac (i64 x24),Zac (i64 x25),Zac (i64 x26),Zac (i64 x27),Zac (Zaf 1 xs28),Zac (Zaf 1 xs29),Zac (bo b30)] false false 0] b) (BIf (decide (i>(0:Int))) (BIf (true&&decide ((0:Int)≤Zae .i64 (i - 1))) (∃(x36:Int) (x37:Int) (x38:Int) (x39:Int) (x40:Int) (x41:Int) (x42:Int) (x43:Int) (x44:Int) (x45:Int) (x46:Int) (x47:Int) (xs48:List (List Dv)) (xs49:List (List Dv)) (xs50:List (List Dv)) (xs51:List (List Dv)) (b52:Bool) (xs53:List (List Dv)) (xs54:List (List Dv)) (xs55:List (List Dv)) (x56:Int) (x57:Int) (x58:Int) (x59:Int) (x60:Int) (x61:Int) (x62:Int) (x63:Int) (xs64:List (List Dv)) (xs65:List (List Dv)) (b66:Bool),(rowsN l)[Zao (Zae .i64 (i - 1))]? =some [i64 x36,i64 x37,i64 x38,i64 x39,i64 x40,i64 x41,i64 x42,i64 x43,i64 x44,i64 x45,i64 x46,i64 x47,Zaf 4 xs48,Zaf 5 xs49,Zaf 3 xs50,Zaf 4 xs51,bo b52,Zaf 8 xs53,Zaf 8 xs54,Zaf 1 xs55,i64 x56,i64 x57,u64 x58,i64 x59,i64 x60,i64 x61,i64 x62,i64 x63,Zaf 1 xs64,Zaf 1 xs65,bo b66]∧BIf (decide (x1≤x37)) (K .ret (Zab::Zab::Zac (i64 me)::Zac (Zaf 31 (rowsN l))::Zac (i64 fr)::Zai 0 0::bds 4 (Zac (Zdo (Zci none))::Zac (bo false)::Zai 2 0::bds 26 (Zac (Zaf 31 (rowsN l))::Zac (i64 ((Zaa l:Nat):Int))::Zac (i64 i)::bds 75 []))) [Blk.mk (Qz5 ly) false false 0,Blk.mk (Qz2 t) false false 0,Blk.mk (Qz28 ly me fr) false false 0,Blk.mk [Zac (i64 x0),Zac (i64 x1),Zac (i64 x2),Zac (i64 x3),Zac (i64 x4),Zac (i64 x5),Zac (i64 x6),Zac (i64 x7),Zac (i64 x8),Zac (i64 x9),Zac (i64 x10),Zac (i64 x11),Zac (Zaf 4 xs12),Zac (Zaf 5 xs13),Zac (Zaf 3 xs14),Zac (Zaf 4 xs15),Zac (bo b16),Zac (Zaf 8 xs17),Zac (Zaf 8 xs18),Zac (Zaf 1 xs19),Zac (i64 x20),Zac (i64 x21),Zac (u64 x22),Zac (i64 x23),Zac (i64 x24),Zac (i64 x25),Zac (i64 x26),Zac (i64 x27),Zac (Zaf 1 xs28),Zac (Zaf 1 xs29),Zac (bo b30)] false false 0] b) (∃(n69:Int) (h70:Int) (z71:Bool), [Zac (i64 x0),Zac (i64 fr)]= [Zac (i64 n69),Zac (i64 h70)]∧z71=inN n69 h70∧BIf (!z71) (K .ret (Zab::Zab::Zac (i64 me)::Zac (Zaf 31 (rowsN l))::Zac (i64 fr)::Zai 0 0::bds 4 (Zac (Zdo (Zci none))::Zac (bo false)::Zai 2 0::bds 26 (Zac (Zaf 31 (rowsN l))::Zac (i64 ((Zaa l:Nat):Int))::Zac (i64 i)::bds 75 []))) [Blk.mk (Qz5 ly) false false 0,Blk.mk (Qz2 t) false false 0,Blk.mk (Qz28 ly me fr) false false 0,Blk.mk [Zac (i64 x0),Zac (i64 x1),Zac (i64 x2),Zac (i64 x3),Zac (i64 x4),Zac (i64 x5),Zac (i64 x6),Zac (i64 x7),Zac (i64 x8),Zac (i64 x9),Zac (i64 x10),Zac (i64 x11),Zac (Zaf 4 xs12),Zac (Zaf 5 xs13),Zac (Zaf 3 xs14),Zac (Zaf 4 xs15),Zac (bo b16),Zac (Zaf 8 xs17),Zac (Zaf 8 xs18),Zac (Zaf 1 xs19),Zac (i64 x20),Zac (i64 x21),Zac (u64 x22),Zac (i64 x23),Zac (i64 x24),Zac (i64 x25),Zac (i64 x26),Zac (i64 x27),Zac (Zaf 1 xs28),Zac (Zaf 1 xs29),Zac (bo b30)] false false 0] b) (∃(l72:List UseT) (ly73:LayT) (q74:List UseT), [Zac (Zaf 4 xs12),Zaw (Fn.func 75) [] (Qz14 ly)]= [Zac (Zaf 4 (rowsU l72)),Zaw (Fn.func 75) [] (Qz14 ly73)]∧(Zaa l72<1000000∧q74=Zcl (fun (x75:UseT)=>useIs x75 ly73) l72)∧∃(l76:List GraT) (ly77:LayT) (q78:List GraT), [Zac (Zaf 5 xs13),Zaw (Fn.func 78) [] (Qz14 ly)]= [Zac (Zaf 5 (rowsG l76)),Zaw (Fn.func 78) [] (Qz14 ly77)]∧(Zaa l76<1000000∧q78=Zcl (fun (x79:GraT)=>graIs x79 ly77) l76)∧∃(l80:List AskT) (ly81:LayT) (q82:List AskT), [Zac (Zaf 3 xs14),Zaw (Fn.func 80) [] (Qz14 ly)]= [Zac (Zaf 3 (rowsA l80)),Zaw (Fn.func 80) [] (Qz14 ly81)]∧(Zaa l80<1000000∧q82=Zcl (fun (x83:AskT)=>ABs9 (Zda x83) (AskT.of x83) (Zgh x83) ly81) l80)∧1*392≤140737488355328∧K .normal (Zab::Zab::Zac (i64 me)::Zac (Zaf 31 (rowsN l))::Zac (i64 fr)::Zai 0 0::bds 4 (Zac (Zdo (Zci none))::Zac (bo false)::Zai 2 0::bds 26 (Zac (Zaf 31 (rowsN l))::Zac (i64 ((Zaa l:Nat):Int))::Zac (i64 (Zae .i64 (i+1)))::bds 75 []))) [Blk.mk (Qz5 ly) true false 0,Blk.mk (Qz2 t) false false 0,Blk.mk [Zac (i64 (Zeq ly)),Zac (i64 (Zcu ly)),Zac (i64 me),Zbi 5 0 1 31,Zac (i64 fr)] false false 0,Blk.mk [Zac (i64 x0),Zac (i64 x1),Zac (i64 x2),Zac (i64 x3),Zac (i64 x4),Zac (i64 x5),Zac (i64 x6),Zac (i64 x7),Zac (i64 x8),Zac (i64 x9),Zac (i64 x10),Zac (i64 x11),Zac (Zaf 4 xs12),Zac (Zaf 5 xs13),Zac (Zaf 3 xs14),Zac (Zaf 4 xs15),Zac (bo b16),Zac (Zaf 8 xs17),Zac (Zaf 8 xs18),Zac (Zaf 1 xs19),Zac (i64 x20),Zac (i64 x21),Zac (u64 x22),Zac (i64 x23),Zac (i64 x24),Zac (i64 x25),Zac (i64 x26),Zac (i64 x27),Zac (Zaf 1 xs28),Zac (Zaf 1 xs29),Zac (bo b30)] false false 0,Blk.mk (Qz30 x1 q74 q78 q82) false false 0,Blk.mk (Qz8 x0 x1 q74 q78 q82) false true 0] b))) False) (∃(n84:Int) (h85:Int) (z86:Bool), [Zac (i64 x0),Zac (i64 fr)]= [Zac (i64 n84),Zac (i64 h85)]∧z86=inN n84 h85∧BIf (!z86) (K .ret (Zab::Zab::Zac (i64 me)::Zac (Zaf 31 (rowsN l))::Zac (i64 fr)::Zai 0 0::bds 4 (Zac (Zdo (Zci none))::Zac (bo false)::Zai 2 0::bds 26 (Zac (Zaf 31 (rowsN l))::Zac (i64 ((Zaa l:Nat):Int))::Zac (i64 i)::bds 75 []))) [Blk.mk (Qz5 ly) false false 0,Blk.mk (Qz2 t) false false 0,Blk.mk (Qz28 ly me fr) false false 0,Blk.mk [Zac (i64 x0),Zac (i64 x1),Zac (i64 x2),Zac (i64 x3),Zac (i64 x4),Zac (i64 x5),Zac (i64 x6),Zac (i64 x7),Zac (i64 x8),Zac (i64 x9),Zac (i64 x10),Zac (i64 x11),Zac (Zaf 4 xs12),Zac (Zaf 5 xs13),Zac (Zaf 3 xs14),Zac (Zaf 4 xs15),Zac (bo b16),Zac (Zaf 8 xs17),Zac (Zaf 8 xs18),Zac (Zaf 1 xs19),Zac (i64 x20),Zac (i64 x21),Zac (u64 x22),Zac (i64 x23),Zac (i64 x24),Zac (i64 x25),Zac (i64 x26),Zac (i64 x27),Zac (Zaf 1 xs28),Zac (Zaf 1 xs29),Zac (bo b30)] false false 0] b) (∃(l87:List UseT) (ly88:LayT) (q89:List UseT), [Zac (Zaf 4 xs12),Zaw (Fn.func 75) [] (Qz14 ly)]= [Zac (Zaf 4 (rowsU l87)),Zaw (Fn.func 75) [] (Qz14 ly88)]∧(Zaa l87<1000000∧q89=Zcl (fun (x90:UseT)=>useIs x90 ly88) l87)∧∃(l91:List GraT) (ly92:LayT) (q93:List GraT), [Zac (Zaf 5 xs13),Zaw (Fn.func 78) [] (Qz14 ly)]= [Zac (Zaf 5 (rowsG l91)),Zaw (Fn.func 78) [] (Qz14 ly92)]∧(Zaa l91<1000000∧q93=Zcl (fun (x94:GraT)=>graIs x94 ly92) l91)∧∃(l95:List AskT) (ly96:LayT) (q97:List AskT), [Zac (Zaf 3 xs14),Zaw (Fn.func 80) [] (Qz14 ly)]= [Zac (Zaf 3 (rowsA l95)),Zaw (Fn.func 80) [] (Qz14 ly96)]∧(Zaa l95<1000000∧q97=Zcl (fun (x98:AskT)=>ABs9 (Zda x98) (AskT.of x98) (Zgh x98) ly96) l95)∧1*392≤140737488355328∧K .normal (Zab::Zab::Zac (i64 me)::Zac (Zaf 31 (rowsN l))::Zac (i64 fr)::Zai 0 0::bds 4 (Zac (Zdo (Zci none))::Zac (bo false)::Zai 2 0::bds 26 (Zac (Zaf 31 (rowsN l))::Zac (i64 ((Zaa l:Nat):Int))::Zac (i64 (Zae .i64 (i+1)))::bds 75 []))) [Blk.mk (Qz5 ly) true false 0,Blk.mk (Qz2 t) false false 0,Blk.mk [Zac (i64 (Zeq ly)),Zac (i64 (Zcu ly)),Zac (i64 me),Zbi 5 0 1 31,Zac (i64 fr)] false false 0,Blk.mk [Zac (i64 x0),Zac (i64 x1),Zac (i64 x2),Zac (i64 x3),Zac (i64 x4),Zac (i64 x5),Zac (i64 x6),Zac (i64 x7),Zac (i64 x8),Zac (i64 x9),Zac (i64 x10),Zac (i64 x11),Zac (Zaf 4 xs12),Zac (Zaf 5 xs13),Zac (Zaf 3 xs14),Zac (Zaf 4 xs15),Zac (bo b16),Zac (Zaf 8 xs17),Zac (Zaf 8 xs18),Zac (Zaf 1 xs19),Zac (i64 x20),Zac (i64 x21),Zac (u64 x22),Zac (i64 x23),Zac (i64 x24),Zac (i64 x25),Zac (i64 x26),Zac (i64 x27),Zac (Zaf 1 xs28),Zac (Zaf 1 xs29),Zac (bo b30)] false false 0,Blk.mk (Qz30 x1 q89 q93 q97) false false 0,Blk.mk (Qz8 x0 x1 q89 q93 q97) false true 0] b))))) False) (K (Zbn 0) (Zab::Zab::Zac (i64 me)::Zac (Zaf 31 (rowsN l))::Zac (i64 fr)::Zai 0 0::bds 4 (Zac (Zdo (Zci none))::Zac (bo false)::Zai 2 0::bds 26 (Zac (Zaf 31 (rowsN l))::Zac (i64 ((Zaa l:Nat):Int))::Zac (i64 i)::bds 75 []))) (Qz62 ly t me fr) b)):=by kernel_rfl
abbrev Qz24 (v0:LayT) (v1:Int) (v2:Nat) (v3:Nat) (v4:Int):List AV:= [Zac (i64 (Zeq v0)),Zac (i64 (Zcu v0)),Zac (i64 v1),Zbi 5 v2 v3 31,Zac (i64 v4)]
abbrev Qz44 (v0:LayT) (v1:Int) (v2:Nat) (v3:Nat) (v4:Int):List AV:= [Zac (i64 (Zeq v0)),Zac (i64 (Zcu v0)),Zac (i64 v1),Zbi 5 (v2+1) (v3+1) 31,Zac (i64 v4)]
theorem rNs (ly:LayT) (t:TabT) (l:List NearT) (me fr i:Int) (v n:Nat) (c3 c4 cs:List AV):wpc prog ⟨TNs,UNs,wl,y,false⟩ 100 lpNs (tmNs l me fr i) [layF ly true,tabB t,sideB ly me fr (.gref 5 v n 31),junkB c3,junkB c4,growB v cs] b (maskK 6 [2,3,4,5,10,11,12,39,40,41] K)=(BIf (decide (i<((Zaa l:Nat):Int))) (BIf (true&&decide (0≤i)) (∃(x0:Int) (x1:Int) (x2:Int) (x3:Int) (x4:Int) (x5:Int) (x6:Int) (x7:Int) (x8:Int) (x9:Int) (x10:Int) (x11:Int) (xs12:List (List Dv)) (xs13:List (List Dv)) (xs14:List (List Dv)) (xs15:List (List Dv)) (b16:Bool) (xs17:List (List Dv)) (xs18:List (List Dv)) (xs19:List (List Dv)) (x20:Int) (x21:Int) (x22:Int) (x23:Int) (x24:Int) (x25:Int) (x26:Int) (x27:Int) (xs28:List (List Dv)) (xs29:List (List Dv)) (b30:Bool),(rowsN l)[Zao i]? =some [i64 x0,i64 x1,i64 x2,i64 x3,i64 x4,i64 x5,i64 x6,i64 x7,i64 x8,i64 x9,i64 x10,i64 x11,Zaf 4 xs12,Zaf 5 xs13,Zaf 3 xs14,Zaf 4 xs15,bo b16,Zaf 8 xs17,Zaf 8 xs18,Zaf 1 xs19,i64 x20,i64 x21,u64 x22,i64 x23,i64 x24,i64 x25,i64 x26,i64 x27,Zaf 1 xs28,Zaf 1 xs29,bo b30]∧∃(n33:Int) (h34:Int) (z35:Bool), [Zac (i64 x1),Zac (i64 (Zae .i64 (Zeq ly - (1:Int))))]= [Zac (i64 n33),Zac (i64 h34)]∧z35=inN n33 h34∧BIf (!z35) (BIf (Zbk [Blk.mk (Qz5 ly) true false 0,Blk.mk (Qz2 t) false false 0,Blk.mk (Qz24 ly me v n fr) false false 0,Blk.mk c3 false false 0,Blk.mk c4 false false 0,Blk.mk cs false true v] fun (blk36:Blk)=>lows 6 blk36.1) (K .ret (Zab::Zab::Zac (i64 me)::Zac (Zaf 31 (rowsN l))::Zac (i64 fr)::Zai 0 0::bds 4 (Zac (Zdo (Zci none))::Zac (bo false)::Zai 2 0::bds 26 (Zac (Zaf 31 (rowsN l))::Zac (i64 ((Zaa l:Nat):Int))::Zac (i64 i)::bds 75 []))) [Blk.mk (Qz5 ly) true false 0,Blk.mk (Qz2 t) false false 0,Blk.mk (Qz24 ly me v n fr) false false 0,Blk.mk c3 false false 0,Blk.mk c4 false false 0,Blk.mk cs false true v] b) False) (BIf (x1==me) (BIf (Zbk [Blk.mk (Qz5 ly) true false 0,Blk.mk (Qz2 t) false false 0,Blk.mk (Qz24 ly me v n fr) false false 0,Blk.mk c3 false false 0,Blk.mk c4 false false 0,Blk.mk cs false true v] fun (blk37:Blk)=>lows 6 blk37.1) (K .ret (Zab::Zab::Zac (i64 me)::Zac (Zaf 31 (rowsN l))::Zac (i64 fr)::Zai 0 0::bds 4 (Zac (Zdo (Zci none))::Zac (bo false)::Zai 2 0::bds 26 (Zac (Zaf 31 (rowsN l))::Zac (i64 ((Zaa l:Nat):Int))::Zac (i64 i)::bds 75 []))) [Blk.mk (Qz5 ly) true false 0,Blk.mk (Qz2 t) false false 0,Blk.mk (Qz24 ly me v n fr) false false 0,Blk.mk c3 false false 0,Blk.mk c4 false false 0,Blk.mk cs false true v] b) False) (BIf (decide (i>(0:Int))) (BIf (true&&decide ((0:Int)≤Zae .i64 (i - 1))) (∃(x38:Int) (x39:Int) (x40:Int) (x41:Int) (x42:Int) (x43:Int) (x44:Int) (x45:Int) (x46:Int) (x47:Int) (x48:Int) (x49:Int) (xs50:List (List Dv)) (xs51:List (List Dv)) (xs52:List (List Dv)) (xs53:List (List Dv)) (b54:Bool) (xs55:List (List Dv)) (xs56:List (List Dv)) (xs57:List (List Dv)) (x58:Int) (x59:Int) (x60:Int) (x61:Int) (x62:Int) (x63:Int) (x64:Int) (x65:Int) (xs66:List (List Dv)) (xs67:List (List Dv)) (b68:Bool),(rowsN l)[Zao (Zae .i64 (i - 1))]? =some [i64 x38,i64 x39,i64 x40,i64 x41,i64 x42,i64 x43,i64 x44,i64 x45,i64 x46,i64 x47,i64 x48,i64 x49,Zaf 4 xs50,Zaf 5 xs51,Zaf 3 xs52,Zaf 4 xs53,bo b54,Zaf 8 xs55,Zaf 8 xs56,Zaf 1 xs57,i64 x58,i64 x59,u64 x60,i64 x61,i64 x62,i64 x63,i64 x64,i64 x65,Zaf 1 xs66,Zaf 1 xs67,bo b68]∧BIf (decide (x1≤x39)) (BIf (Zbk [Blk.mk (Qz5 ly) true false 0,Blk.mk (Qz2 t) false false 0,Blk.mk (Qz24 ly me v n fr) false false 0,Blk.mk c3 false false 0,Blk.mk c4 false false 0,Blk.mk cs false true v] fun (blk71:Blk)=>lows 6 blk71.1) (K .ret (Zab::Zab::Zac (i64 me)::Zac (Zaf 31 (rowsN l))::Zac (i64 fr)::Zai 0 0::bds 4 (Zac (Zdo (Zci none))::Zac (bo false)::Zai 2 0::bds 26 (Zac (Zaf 31 (rowsN l))::Zac (i64 ((Zaa l:Nat):Int))::Zac (i64 i)::bds 75 []))) [Blk.mk (Qz5 ly) true false 0,Blk.mk (Qz2 t) false false 0,Blk.mk (Qz24 ly me v n fr) false false 0,Blk.mk c3 false false 0,Blk.mk c4 false false 0,Blk.mk cs false true v] b) False) (∃(n72:Int) (h73:Int) (z74:Bool), [Zac (i64 x0),Zac (i64 fr)]= [Zac (i64 n72),Zac (i64 h73)]∧z74=inN n72 h73∧BIf (!z74) (BIf (Zbk [Blk.mk (Qz5 ly) true false 0,Blk.mk (Qz2 t) false false 0,Blk.mk (Qz24 ly me v n fr) false false 0,Blk.mk c3 false false 0,Blk.mk c4 false false 0,Blk.mk cs false true v] fun (blk75:Blk)=>lows 6 blk75.1) (K .ret (Zab::Zab::Zac (i64 me)::Zac (Zaf 31 (rowsN l))::Zac (i64 fr)::Zai 0 0::bds 4 (Zac (Zdo (Zci none))::Zac (bo false)::Zai 2 0::bds 26 (Zac (Zaf 31 (rowsN l))::Zac (i64 ((Zaa l:Nat):Int))::Zac (i64 i)::bds 75 []))) [Blk.mk (Qz5 ly) true false 0,Blk.mk (Qz2 t) false false 0,Blk.mk (Qz24 ly me v n fr) false false 0,Blk.mk c3 false false 0,Blk.mk c4 false false 0,Blk.mk cs false true v] b) False) (∃(l76:List UseT) (ly77:LayT) (q78:List UseT), [Zac (Zaf 4 xs12),Zaw (Fn.func 75) [] (Qz14 ly)]= [Zac (Zaf 4 (rowsU l76)),Zaw (Fn.func 75) [] (Qz14 ly77)]∧(Zaa l76<1000000∧q78=Zcl (fun (x79:UseT)=>useIs x79 ly77) l76)∧∃(l80:List GraT) (ly81:LayT) (q82:List GraT), [Zac (Zaf 5 xs13),Zaw (Fn.func 78) [] (Qz14 ly)]= [Zac (Zaf 5 (rowsG l80)),Zaw (Fn.func 78) [] (Qz14 ly81)]∧(Zaa l80<1000000∧q82=Zcl (fun (x83:GraT)=>graIs x83 ly81) l80)∧∃(l84:List AskT) (ly85:LayT) (q86:List AskT), [Zac (Zaf 3 xs14),Zaw (Fn.func 80) [] (Qz14 ly)]= [Zac (Zaf 3 (rowsA l84)),Zaw (Fn.func 80) [] (Qz14 ly85)]∧(Zaa l84<1000000∧q86=Zcl (fun (x87:AskT)=>ABs9 (Zda x87) (AskT.of x87) (Zgh x87) ly85) l84)∧v=v∧(n+1)*392≤140737488355328∧BIf (Zbk [Blk.mk (Qz5 ly) true false 0,Blk.mk (Qz2 t) false false 0,Blk.mk (Qz44 ly me v n fr) false false 0,Blk.mk c3 false false 0,Blk.mk c4 false false 0,Blk.mk (cs++(Qz8 x0 x1 q78 q82 q86)) false true (v+1)] fun (blk88:Blk)=>lows 6 blk88.1) (K .normal (Zab::Zab::Zac (i64 me)::Zac (Zaf 31 (rowsN l))::Zac (i64 fr)::Zai 0 0::bds 4 (Zac (Zdo (Zci none))::Zac (bo false)::Zai 2 0::bds 26 (Zac (Zaf 31 (rowsN l))::Zac (i64 ((Zaa l:Nat):Int))::Zac (i64 (Zae .i64 (i+1)))::bds 75 []))) [Blk.mk (Qz5 ly) true false 0,Blk.mk (Qz2 t) false false 0,Blk.mk (Qz44 ly me v n fr) false false 0,Blk.mk c3 false false 0,Blk.mk c4 false false 0,Blk.mk (cs++(Qz8 x0 x1 q78 q82 q86)) false true (v+1)] b) False))) False) (∃(n89:Int) (h90:Int) (z91:Bool), [Zac (i64 x0),Zac (i64 fr)]= [Zac (i64 n89),Zac (i64 h90)]∧z91=inN n89 h90∧BIf (!z91) (BIf (Zbk [Blk.mk (Qz5 ly) true false 0,Blk.mk (Qz2 t) false false 0,Blk.mk (Qz24 ly me v n fr) false false 0,Blk.mk c3 false false 0,Blk.mk c4 false false 0,Blk.mk cs false true v] fun (blk92:Blk)=>lows 6 blk92.1) (K .ret (Zab::Zab::Zac (i64 me)::Zac (Zaf 31 (rowsN l))::Zac (i64 fr)::Zai 0 0::bds 4 (Zac (Zdo (Zci none))::Zac (bo false)::Zai 2 0::bds 26 (Zac (Zaf 31 (rowsN l))::Zac (i64 ((Zaa l:Nat):Int))::Zac (i64 i)::bds 75 []))) [Blk.mk (Qz5 ly) true false 0,Blk.mk (Qz2 t) false false 0,Blk.mk (Qz24 ly me v n fr) false false 0,Blk.mk c3 false false 0,Blk.mk c4 false false 0,Blk.mk cs false true v] b) False) (∃(l93:List UseT) (ly94:LayT) (q95:List UseT), [Zac (Zaf 4 xs12),Zaw (Fn.func 75) [] (Qz14 ly)]= [Zac (Zaf 4 (rowsU l93)),Zaw (Fn.func 75) [] (Qz14 ly94)]∧(Zaa l93<1000000∧q95=Zcl (fun (x96:UseT)=>useIs x96 ly94) l93)∧∃(l97:List GraT) (ly98:LayT) (q99:List GraT), [Zac (Zaf 5 xs13),Zaw (Fn.func 78) [] (Qz14 ly)]= [Zac (Zaf 5 (rowsG l97)),Zaw (Fn.func 78) [] (Qz14 ly98)]∧(Zaa l97<1000000∧q99=Zcl (fun (x100:GraT)=>graIs x100 ly98) l97)∧∃(l101:List AskT) (ly102:LayT) (q103:List AskT), [Zac (Zaf 3 xs14),Zaw (Fn.func 80) [] (Qz14 ly)]= [Zac (Zaf 3 (rowsA l101)),Zaw (Fn.func 80) [] (Qz14 ly102)]∧(Zaa l101<1000000∧q103=Zcl (fun (x104:AskT)=>ABs9 (Zda x104) (AskT.of x104) (Zgh x104) ly102) l101)∧v=v∧(n+1)*392≤140737488355328∧BIf (Zbk [Blk.mk (Qz5 ly) true false 0,Blk.mk (Qz2 t) false false 0,Blk.mk (Qz44 ly me v n fr) false false 0,Blk.mk c3 false false 0,Blk.mk c4 false false 0,Blk.mk (cs++(Qz8 x0 x1 q95 q99 q103)) false true (v+1)] fun (blk105:Blk)=>lows 6 blk105.1) (K .normal (Zab::Zab::Zac (i64 me)::Zac (Zaf 31 (rowsN l))::Zac (i64 fr)::Zai 0 0::bds 4 (Zac (Zdo (Zci none))::Zac (bo false)::Zai 2 0::bds 26 (Zac (Zaf 31 (rowsN l))::Zac (i64 ((Zaa l:Nat):Int))::Zac (i64 (Zae .i64 (i+1)))::bds 75 []))) [Blk.mk (Qz5 ly) true false 0,Blk.mk (Qz2 t) false false 0,Blk.mk (Qz44 ly me v n fr) false false 0,Blk.mk c3 false false 0,Blk.mk c4 false false 0,Blk.mk (cs++(Qz8 x0 x1 q95 q99 q103)) false true (v+1)] b) False))))) False) (BIf (Zbk [Blk.mk (Qz5 ly) true false 0,Blk.mk (Qz2 t) false false 0,Blk.mk (Qz24 ly me v n fr) false false 0,Blk.mk c3 false false 0,Blk.mk c4 false false 0,Blk.mk cs false true v] fun (blk106:Blk)=>lows 6 blk106.1) (K (Zbn 0) (Zab::Zab::Zac (i64 me)::Zac (Zaf 31 (rowsN l))::Zac (i64 fr)::Zai 0 0::bds 4 (Zac (Zdo (Zci none))::Zac (bo false)::Zai 2 0::bds 26 (Zac (Zaf 31 (rowsN l))::Zac (i64 ((Zaa l:Nat):Int))::Zac (i64 i)::bds 75 []))) [Blk.mk (Qz5 ly) true false 0,Blk.mk (Qz2 t) false false 0,Blk.mk (Qz24 ly me v n fr) false false 0,Blk.mk c3 false false 0,Blk.mk c4 false false 0,Blk.mk cs false true v] b) False)):=by kernel_rfl
def fTab (ly:LayT) (n:NearT):TabT:=⟨n.us.filter (fun x:UseT=>useIs x ly),n.gs.filter (fun x:GraT=>graIs x ly),n.ak.filter (fun x:AskT=>ABs9 x.sl x.of x.pe ly)⟩
def filN (ly:LayT) (n:NearT):NearT:=toldN n.fm (fTab ly n) n.fr
def ALo9 (ly:LayT) (n:NearT):List Dv:=APo9 n.fm (fTab ly n) n.fr
def AEv9 (x:NearT):Prop:=x.us.length<1000000∧x.gs.length<1000000∧x.ak.length<1000000
theorem WR.scanG {α:Type} {P:Program} {Ev:Env P} {X:CX Ev.β} {lp:Code} {b:Ev.β} {Q:Exit→St Ev.β→Prop} {k L:Nat} (keep:List Nat) (hm:P.follows .mixedOrders=true) (hX:X.Ok) (xs:List α) (p:α→Bool) (tmOf:Nat→List AV) (hpOf:Nat→List Blk) (hL:∀i,(hpOf i).length=L) (id:Nat) (s:Nat)
   (hr:∀(i:Nat) (x:α),s≤i→i<xs.length→xs[i]? =some x→∀K:Exit→List AV→List Blk→Ev.β→Prop,(p x=true→K .ret (tmOf i) (hpOf i) b)→(p x=false→K .normal (tmOf (i+1)) (hpOf (i+1)) b)→wpc P X k lp (tmOf i) (hpOf i) b (maskK L keep K))
   (he:∀K:Exit→List AV→List Blk→Ev.β→Prop,K (.exit id) (tmOf xs.length) (hpOf xs.length) b→wpc P X k lp (tmOf xs.length) (hpOf xs.length) b (maskK L keep K))
   (h1:(xs.drop s).any p=false→Q (.exit id) ⟨tmOf xs.length,hpOf xs.length,b⟩) (h2:(xs.drop s).any p=true→∀i,Q .ret ⟨tmOf i,hpOf i,b⟩):
   ∀(m i:Nat),i+m=xs.length→s≤i→((xs.drop s).any p=(xs.drop i).any p)→WR Ev lp (m+1) ⟨tmOf i,hpOf i,b⟩ Q
 | 0,i,hi,hs,hj=>by
   have e:i=xs.length:=by omega
   subst e
   refine Zdj keep hm hX (k:=k) (by rw [hL];exact he _ (h1 (by rw [hj,List.drop_length];rfl)))
 | m+1,i,hi,hs,hj=>by
   have hlt:i<xs.length:=by omega
   have hx:xs[i]? =some xs[i]:=Zaz hlt
   have hd:xs.drop i=xs[i]::xs.drop (i+1):=List.drop_eq_getElem_cons hlt
   refine Zdj keep hm hX (k:=k) (by
     rw [hL]
     refine hr i xs[i] hs hlt hx _ (fun hp=>h2 (by rw [hj,hd,List.any_cons,hp];rfl) i) fun hp=> ?_
     exact WR.scanG keep hm hX xs p tmOf hpOf hL id s hr he h1 h2 m (i+1) (by omega) (by omega) (by rw [hj,hd,List.any_cons,hp];rfl))
theorem BDx9 (xs:List (List Dv)) (r:List Dv):flatA (xs++ [r])=flatA xs++r.map .d:=by simp [flatA]
def nsB (ly:LayT) (t:TabT) (l:List NearT) (me fr:Int) (c3 c4:List AV) (i:Nat):List Blk:= [layF ly true,tabB t,sideB ly me fr (.gref 5 (i - 1) i 31),junkB c3,junkB c4,growB (i - 1) (flatA ((l.take i).map (ALo9 ly)))]
theorem CEa9 {ly:LayT} {t:TabT} {l:List NearT} {me fr:Int} {c3 c4:List AV} (h3:lows 6 c3=true) (h4:lows 6 c4=true) (i:Nat):Zbk (nsB ly t l me fr c3 c4 i) (fun blk=>lows 6 blk.1)=true:=by
 simp only [nsB,List.all_cons,List.all_nil,Zfz,Zal]
 exact ⟨rfl,rfl,rfl,h3,h4,ACt9 6 _⟩
theorem BNo9 {ly:LayT} (h:1≤ly.no∧ly.no≤1000000) (n:Int):inN n (Zae Zbb (ly.no - 1))= !(decide (n<0)||decide (n≥ly.no)):=by
 rw [ABb9 (by omega) (by omega),inN]
 by_cases h1:n<0
 · simp [h1];omega
 · by_cases h2:n≥ly.no
   · simp [h1,h2];omega
   · simp [h1,h2];omega
theorem CAi9 (n fr:Int):inN n fr= !(decide (n<0)||decide (n>fr)):=by
 rw [inN]
 by_cases h1:n<0
 · simp [h1];omega
 · by_cases h2:n>fr
   · simp [h1,h2]
   · simp [h1,h2];omega
theorem wrNs1 {Ev:Env prog} {b:Ev.β} {Q:Exit→St Ev.β→Prop} (ly:LayT) (t:TabT) (l:List NearT) (me fr:Int) (c3 c4:List AV) (hc3:lows 6 c3=true) (hc4:lows 6 c4=true) (hno:1≤ly.no∧ly.no≤1000000) (hl:l.length<1000000) (hx:∀x∈l,AEv9 x)
   (h1:((AAf9 none l).drop 1).any (badN ly me fr)=false→Q (.exit 0) ⟨tmNs l me fr l.length,nsB ly t l me fr c3 c4 l.length,b⟩) (h2:((AAf9 none l).drop 1).any (badN ly me fr)=true→∀(i:Nat),Q .ret ⟨tmNs l me fr i,nsB ly t l me fr c3 c4 i,b⟩) (m:Nat) (hm:1+m=l.length):
   WR Ev lpNs (m+1) ⟨tmNs l me fr (1:Nat),nsB ly t l me fr c3 c4 1,b⟩ Q:=by
 have e:=ADu9 l none
 have low:=fun i=>CEa9 (ly:=ly) (t:=t) (l:=l) (me:=me) (fr:=fr) hc3 hc4 i
 refine WR.scanG (X:=⟨TNs,UNs,wlW Ev,Ev.Y,false⟩) (k:=100) (L:=6) [2,3,4,5,10,11,12,39,40,41] mixed (CX.Ok.of CCl9 CCe9) (AAf9 none l) (badN ly me fr) (fun i=>tmNs l me fr (i:Nat)) (fun i=>nsB ly t l me fr c3 c4 i) (fun i=>rfl) 0 1 (fun i p hs hi hp K k1 k2=> ?_) (fun K k1=> ?_) (fun h=>by simp only [e];exact h1 h) (fun h i=>h2 h i) m 1 (by rw [e];exact hm) (Zav _) rfl
 · obtain ⟨g1,g2,g3⟩:=AEl9 l none i p hp
   obtain ⟨o,x⟩:=p
   simp only at g1 g2 g3
   have hxl:AEv9 x:=hx x (List.mem_of_getElem? g1)
   obtain ⟨j,rfl⟩:∃j,i=j+1:=⟨i - 1,by omega⟩
   obtain ⟨w,hw,hj⟩:=g3 j rfl
   refine Eq.mpr (rNs _ _ _ K ly t l me fr ((j+1:Nat):Int) j (j+1) c3 c4 _) ?_
   refine Zba (by simp;omega) (Zba (natI _) ⟨_,_,_,_,_,_,_,_,_,_,_,_,_,_,_,_,_,_,_,_,_,_,_,_,_,_,_,_,_,_,_,ABt9 g1, ?_⟩)
   refine ⟨_,_,_,rfl,rfl, ?_⟩
   rw [BNo9 hno,Zfl]
   refine Zbd (fun c1=>Zba (low (j+1)) (k1 (by rw [badN,←Bool.or_assoc];simp only [c1,Zfb]))) fun c1=>Zbd (fun c2=>Zba (low (j+1)) (k1 (by rw [badN];simp only [show (x.fm==me)=true from c2,Zfb,Zfc]))) fun c2=>Zba (by simp) ?_
   rw [show Zae Zbb (((j+1:Nat):Int) - 1)=((j:Nat):Int) by rw [ABb9 (by omega) (by omega)];omega]
   refine Zba (natI j) ⟨_,_,_,_,_,_,_,_,_,_,_,_,_,_,_,_,_,_,_,_,_,_,_,_,_,_,_,_,_,_,_,ABt9 hj,Zbd (fun c3=>Zba (low (j+1)) (k1 ?_)) fun c3=>⟨_,_,_,rfl,rfl, ?_⟩⟩
   · have hpv:AVc9 o x.fm=true:=by rw [hw];exact c3
     rw [badN];simp only [hpv,Zfc]
   · rw [CAi9,Zfl]
     refine Zbd (fun c4=>Zba (low (j+1)) (k1 ?_)) fun c4=> ?_
     · rcases (Zej ..).mp c4 with c4|c4<;> · rw [badN];simp only [c4,Zfb,Zfc]
     · have hpv:AVc9 o x.fm=false:=by rw [hw];exact c3
       have hb:badN ly me fr (o,x)=false:=by
         rw [Bool.or_eq_false_iff] at c1 c4
         rw [badN,c1.1,c1.2,show (x.fm==me)=false from c2,c4.1,c4.2,hpv];rfl
       have hk:=k2 hb
       have htk:(l.take (j+1+1)).map (ALo9 ly)=(l.take (j+1)).map (ALo9 ly)++ [ALo9 ly x]:=by
         rw [Zgl,g1];simp
       have hl2:=low (j+1+1)
       simp only [nsB,htk,BDx9] at hk hl2
       refine ⟨x.us,ly,_,rfl,⟨hxl.1,rfl⟩,x.gs,ly,_,rfl,⟨hxl.2.1,rfl⟩,x.ak,ly,_,rfl,⟨hxl.2.2,rfl⟩,rfl,by omega,Zba hl2 ?_⟩
       rw [wrapN (by omega)]
       exact hk
 · simp only [e] at k1 ⊢
   refine Eq.mpr (rNs _ _ _ K ly t l me fr l.length (l.length - 1) l.length c3 c4 _) ?_
   exact Zde (by simp) (Zba (low l.length) k1)
def nsB0 (ly:LayT) (t:TabT) (me fr:Int):List Blk:= [layF ly false,tabB t,sideB ly me fr (.d (.s (.slice none 0 0)))]
theorem wrNs {Ev:Env prog} {b:Ev.β} {Q:Exit→St Ev.β→Prop} (ly:LayT) (t:TabT) (l:List NearT) (me fr:Int) (hno:1≤ly.no∧ly.no≤1000000) (hl:l.length<1000000) (hx:∀x∈l,AEv9 x)
   (h0:l= []→Q (.exit 0) ⟨tmNs l me fr l.length,nsB0 ly t me fr,b⟩) (h1:l≠ []→(AAf9 none l).any (badN ly me fr)=false→∀c3 c4,Q (.exit 0) ⟨tmNs l me fr l.length,nsB ly t l me fr c3 c4 l.length,b⟩) (h2:(AAf9 none l).any (badN ly me fr)=true→∀(i:Nat) (hp:List Blk),Q .ret ⟨tmNs l me fr i,hp,b⟩):
   WR Ev lpNs (l.length+1) ⟨tmNs l me fr (0:Nat),nsB0 ly t me fr,b⟩ Q:=by
 refine WR.ofMaskT (X:=⟨TNs,UNs,wlW Ev,Ev.Y,false⟩) (k:=100) [2,3,4,5,10,11,12,39,40,41] mixed (CX.Ok.of CCl9 CCe9) ?_
 refine Eq.mpr (rNs0 _ _ _ _ ly t l me fr ((0:Nat):Int)) ?_
 cases l with
 |nil=>exact Zde (by simp) (h0 rfl)
 | cons x r=>
   have hxl:AEv9 x:=hx x (Zbt ..)
   have g1:(x::r)[0]? =some x:=rfl
   have hwp:AAf9 none (x::r)=(none,x)::AAf9 (some x) r:=rfl
   refine Zba (by simp) (Zba (natI 0) ⟨_,_,_,_,_,_,_,_,_,_,_,_,_,_,_,_,_,_,_,_,_,_,_,_,_,_,_,_,_,_,_,ABt9 g1, ?_⟩)
   refine ⟨_,_,_,rfl,rfl, ?_⟩
   rw [BNo9 hno,Zfl]
   have bad:badN ly me fr (none,x)=true→∀(i:Nat) (hp:List Blk),Q .ret ⟨tmNs (x::r) me fr i,hp,b⟩:=fun h=>h2 (by rw [hwp,List.any_cons,h];rfl)
   refine Zbd (fun c1=>bad (by rw [badN,←Bool.or_assoc];simp only [c1,Zfb]) 0 _) fun c1=>Zbd (fun c2=>bad (by rw [badN];simp only [show (x.fm==me)=true from c2,Zfb,Zfc]) 0 _) fun c2=>Zde (by decide) ?_
   refine ⟨_,_,_,rfl,rfl, ?_⟩
   rw [CAi9,Zfl]
   refine Zbd (fun c4=>bad ?_ 0 _) fun c4=> ?_
   · rcases (Zej ..).mp c4 with c4|c4<;> · rw [badN];simp only [c4,Zfb,Zfc]
   · have hb:badN ly me fr (none,x)=false:=by
       rw [Bool.or_eq_false_iff] at c1 c4
       rw [badN,c1.1,c1.2,show (x.fm==me)=false from c2,c4.1,c4.2];rfl
     have hd:(AAf9 none (x::r)).drop 1=AAf9 (some x) r:=rfl
     have hk:=fun c3 c4 h3 h4=>wrNs1 (Q:=Q) ly t (x::r) me fr c3 c4 h3 h4 hno hl hx (fun h=>h1 (by simp) (by rw [hwp,List.any_cons,hb];rw [hd] at h;exact h) c3 c4) (fun h i=>h2 (by rw [hwp,List.any_cons,hb];rw [hd] at h;exact h) i _) r.length (by simp;omega)
     refine ⟨x.us,ly,_,rfl,⟨hxl.1,rfl⟩,x.gs,ly,_,rfl,⟨hxl.2.1,rfl⟩,x.ak,ly,_,rfl,⟨hxl.2.2,rfl⟩,by decide, ?_⟩
     rw [wrapN (by omega)]
     exact hk _ _ rfl rfl
def wlNs {β:Type}:WLT β:=fun cd tm hp b K=>∃(ly:LayT) (t:TabT) (l:List NearT) (me fr:Int) (q:Bool),cd= .loop lpNs∧AAz9 [2,3,4,5,10,11,12,39,40,41] 0 tm=tmNs l me fr 0∧hp=nsB0 ly t me fr∧
 ((1≤ly.no∧ly.no≤1000000)∧l.length<1000000∧(∀x∈l,AEv9 x)∧q=(AAf9 none l).any (badN ly me fr))∧
 BIf q (∀(i:Nat) (hp:List Blk),K .ret (tmNs l me fr i) hp b) (BIf l.isEmpty (K (.exit 0) (tmNs l me fr l.length) (nsB0 ly t me fr) b) (∀(c3 c4:List AV),K (.exit 0) (tmNs l me fr l.length) [layF ly true,tabB t,sideB ly me fr (.gref 5 (l.length - 1) l.length 31),junkB c3,junkB c4,growB (l.length - 1) (flatA (l.map (ALo9 ly)))] b))
theorem BWy9 {Ev:Env prog} (c:Code) (tm:List AV) (hp:List Blk) (b:Ev.β) (K:Exit→List AV→List Blk→Ev.β→Prop) (h:wlNs c tm hp b K):W Ev c ⟨tm,hp,b⟩ (fun e s=>K e s.tm s.hp s.b):=by
 obtain ⟨ly,t,l,me,fr,q,rfl,htm,rfl,⟨hno,hl,hx,hz⟩,hK⟩:=h
 refine W.cast (htm▸AAc9 _ tm 0) (Zby _) ?_
 refine W.rounds (wrNs (Q:=fun e s=>K e s.tm s.hp s.b) ly t l me fr hno hl hx (fun h=> ?_) (fun hne h c3 c4=> ?_) fun h=>by rw [hz,h] at hK;exact hK)
 · subst h
   rw [hz] at hK;exact hK
 · rw [hz,h] at hK
   cases l with
   |nil=>exact absurd rfl hne
   | cons x r=>
     have hK':=(show ∀(c3 c4:List AV),_ from hK) c3 c4
     simp only [nsB,Zdc]
     exact hK'
def TNf:List (Nat×(List AV→(AV→Prop)→Prop)):= [(73,BLh9),(36,cIn)]
theorem CFa9:AAb9 prog TNf:=Zaj AOx9 (Zaj BFl9 Zak)
abbrev Qz54:List AV:= [Zac (Zdo (Zci none)),Zac (bo false)]
theorem ns_nf (ly:LayT) (t:TabT) (l:List NearT) (me fr:Int):wpFn prog ⟨TNf, [],wlNs,y,false⟩ 100 f35 [layA ly,tabA t, .d (i64 me), .d (.sl 31 (rowsN l)), .d (i64 fr)] b R=(∃(t0:TabT) (l1:LayT) (q2:Bool), [Zar (Qz2 t),Zar (Qz5 ly)]= [Zar (Qz2 t0),Zar (Qz5 l1)]∧((Zaa (Zbo t0)<10000∧Zaa (Zbu t0)<10000∧Zaa (Zbw t0)<10000)∧q2=ACn9 t0 l1)∧BIf (!q2) (R (.tup Qz54) b) (∃(n3:Int) (h4:Int) (z5:Bool), [Zac (i64 me),Zac (i64 (Zae .i64 (Zeq ly - (1:Int))))]= [Zac (i64 n3),Zac (i64 h4)]∧z5=inN n3 h4∧BIf (!z5) (R (.tup Qz54) b) (∃(n6:Int) (h7:Int) (z8:Bool), [Zac (i64 fr),Zac (i64 999999992)]= [Zac (i64 n6),Zac (i64 h7)]∧z8=inN n6 h7∧BIf (!z8) (R (.tup Qz54) b) (∃(ly9:LayT) (t10:TabT) (l11:List NearT) (me12:Int) (fr13:Int) (q14:Bool),Zax lpNs=Zax lpNs∧(Zab::Zab::Zac (i64 me)::Zac (Zaf 31 (rowsN l))::Zac (i64 fr)::Zai 0 0::bds 4 (Zac (Zdo (Zci none))::Zac (bo false)::Zai 2 0::bds 26 (Zac (Zaf 31 (rowsN l))::Zac (i64 ((Zaa (rowsN l):Nat):Int))::Zac (i64 0)::bds 75 [])))=(Zab::Zab::Zac (i64 me12)::Zac (Zaf 31 (rowsN l11))::Zac (i64 fr13)::Zai 0 0::bds 4 (Zac (Zdo (Zci none))::Zac (bo false)::Zai 2 0::bds 26 (Zac (Zaf 31 (rowsN l11))::Zac (i64 ((Zaa l11:Nat):Int))::Zac (i64 0)::bds 75 [])))∧(Qz62 ly t me fr)=(Qz62 ly9 t10 me12 fr13)∧(((1:Int)≤Zeq ly9∧Zeq ly9≤(1000000:Int))∧Zaa l11<1000000∧(∀(x:NearT),x∈l11→Zaa (Zbz x)<1000000∧Zaa (Zbr x)<1000000∧Zaa (Zco x)<1000000)∧q14=Zdn (AAf9 none l11) (badN ly9 me12 fr13))∧BIf q14 (∀(i:Nat) (hp:List Blk),R (.tup Qz54) b) (BIf (Zfp l11) (R (.tup [Zag [i64 (Zeq ly9),i64 (Zcu ly9),i64 me12,Zdo (.slice none 0 0),i64 fr13],Zac (bo true)]) b) (∀(c3 c4:List AV),Zaa l11 - 1=Zaa l11 - 1∧∃(xs15:List (List Dv)),flatA (List.map (ALo9 ly9) l11)=flatA xs15∧Zaa xs15=Zaa l11∧(∀(r:List Dv),r∈xs15→Zaa r=31)∧R (.tup [Zag [i64 (Zeq ly9),i64 (Zcu ly9),i64 me12,Zaf 31 xs15,i64 fr13],Zac (bo true)]) b)))))):=by kernel_rfl
theorem SemV.tup2 {a a' b:AV} (h:SemV a a'):SemV (.tup [a,b]) (.tup [a',b]):=by
 intro S w m yv v hr
 cases hr with
 | tup hl h0=>
   refine .tup hl fun i c v hc hv=> ?_
   match i,hc with
   |0,hc=>simp at hc;subst hc;exact h _ _ _ _ _ (h0 0 a v (by simp) hv)
   |1,hc=>exact h0 1 c v hc hv
theorem SemV.rptr {cs ds:List Dv} (hl:cs.length=ds.length) (h:∀(j:Nat) (c d:Dv),cs[j]? =some c→ds[j]? =some d→ASd9 c d∨∃k xs ys,c= .sl k xs∧d= .sl k ys∧AJj9 xs ys):SemV (.rptr cs) (.rptr ds):=by
 intro S w m yv v hr
 cases hr with
 | rptr vals hne hsp hs hc hr h1=>
   have get:∀(j:Nat) (d:Dv),ds[j]? =some d→∃c,cs[j]? =some c:=fun j d hd=>by
     have:=(Zad.1 hd).1
     exact ⟨cs[j]'(by omega),Zaz (by omega)⟩
   refine .rptr vals (fun e=>hne (List.length_eq_zero_iff.1 (by rw [hl,e];rfl))) hsp (fun j d hd=> ?_) (fun j d hd=> ?_) (fun j d hd=> ?_) (fun j d hd=> ?_)
   all_goals obtain ⟨c,hc0⟩:=get j d hd
   · exact hs j c hc0
   · exact hc j c hc0
   · rcases h j c d hc0 hd with h2|⟨k,xs,ys,rfl,rfl,h2⟩
     · exact h2.dr (hr j c hc0)
     · exact h2.dr (hr j _ hc0)
   · exact h1 j c hc0
def newS (ly:LayT) (t:TabT) (me:Int) (l:List NearT) (fr:Int):Bool:=ACn9 t ly&&(inN me (Zae Zbb (ly.no - 1))&&(inN fr 999999992&& !(AAf9 none l).any (badN ly me fr)))
def sideS (ly:LayT) (me:Int) (l:List NearT) (fr:Int):SideT:=⟨ly,me,l.map (filN ly),fr⟩
def nsA (q:Bool) (s:SideT):AV:= .tup [if q then .rptr (sideD s) else .d nilP, .d (bo q)]
theorem AVo9 (ly:LayT):∀l:List NearT,AJj9 (l.map (ALo9 ly)) (rowsN (l.map (filN ly)))
 | []=> .nil
 |n::r=> .cons (APn9 n.fm (fTab ly n) n.fr) (AVo9 ly r)
theorem BXv9 (ly:LayT) (me:Int) (l:List NearT) (fr:Int):SemV (.rptr [i64 ly.no,i64 ly.da,i64 me, .sl 31 (l.map (ALo9 ly)),i64 fr]) (.rptr (sideD (sideS ly me l fr))):=by
 refine SemV.rptr rfl fun j c d hc hd=> ?_
 match j,hc,hd with
 |0,hc,hd=>simp [sideD,sideS] at hc hd;subst hc;subst hd;exact .inl .rfl
 |1,hc,hd=>simp [sideD,sideS] at hc hd;subst hc;subst hd;exact .inl .rfl
 |2,hc,hd=>simp [sideD,sideS] at hc hd;subst hc;subst hd;exact .inl .rfl
 |3,hc,hd=>simp [sideD,sideS] at hc hd;subst hc;subst hd;exact .inr ⟨31,_,_,rfl,rfl,AVo9 ly l⟩
 |4,hc,hd=>simp [sideD,sideS] at hc hd;subst hc;subst hd;exact .inl .rfl
theorem BQu9 (ly:LayT) (me fr:Int):SemV (.rptr [i64 ly.no,i64 ly.da,i64 me,Zdo (Zcy none 0 0),i64 fr]) (.rptr (sideD (sideS ly me [] fr))):=by
 refine SemV.rptr rfl fun j c d hc hd=> ?_
 match j,hc,hd with
 |0,hc,hd=>simp [sideD,sideS] at hc hd;subst hc;subst hd;exact .inl .rfl
 |1,hc,hd=>simp [sideD,sideS] at hc hd;subst hc;subst hd;exact .inl .rfl
 |2,hc,hd=>simp [sideD,sideS] at hc hd;subst hc;subst hd;exact .inl .rfl
 |3,hc,hd=>simp [sideD,sideS,rowsN] at hc hd;subst hc;subst hd;exact .inl .nil
 |4,hc,hd=>simp [sideD,sideS] at hc hd;subst hc;subst hd;exact .inl .rfl
theorem BEa9 (ly:LayT) (l:List NearT):∀r∈l.map (ALo9 ly),r.length=31:=by
 intro r hr
 simp only [Zbj] at hr
 obtain ⟨x,_,rfl⟩:=hr;rfl
theorem ACr9 {t:TabT} {l:LayT} (h:ACn9 t l=true):(1≤l.no∧l.no≤60)∧(1≤l.da∧l.da≤60):=by
 unfold ACn9 at h
 split at h<;>try (cases h;done)
 split at h<;>try (cases h;done)
 split at h<;>try (cases h;done)
 split at h<;>try (cases h;done)
 omega
theorem pcNew (ly:LayT) (t:TabT) (me:Int) (l:List NearT) (fr:Int) (ht:TabOk t) (hl:l.length<1000000) (hx:∀x∈l,AEv9 x):
   PCall prog 35 [layA ly,tabA t, .d (i64 me), .d (.sl 31 (rowsN l)), .d (i64 fr)] (nsA (newS ly t me l fr) (sideS ly me l fr)):=by
 have key:PCall prog 35 [layA ly,tabA t, .d (i64 me), .d (.sl 31 (rowsN l)), .d (i64 fr)] (.tup [if newS ly t me l fr then .rptr [i64 ly.no,i64 ly.da,i64 me,if l.isEmpty then Zdo (Zcy none 0 0) else .sl 31 (l.map (ALo9 ly)),i64 fr] else .d nilP, .d (bo (newS ly t me l fr))]):=by
   refine Zdl (n:=100) (u:=false) (fun _=>wlNs) mixed CFa9 Zah (fun Ev=>BWy9) func35 (by rfl) (by rfl) fun Ev bb=> ?_
   rw [ns_nf,ABz9]
   refine ⟨t,ly,_,rfl,⟨ht,rfl⟩,Zbd (fun h1=> ?_) fun h1=>⟨_,_,_,rfl,rfl,Zbd (fun h2=> ?_) fun h2=>⟨_,_,_,rfl,rfl,Zbd (fun h3=> ?_) fun h3=> ?_⟩⟩⟩
   · rw [Zct] at h1
     rw [newS,h1];rfl
   · rw [Zct] at h2
     rw [newS,h2,Zcn,Zcx];rfl
   · rw [Zct] at h3
     rw [newS,h3,Zcn,Zcx,Zcx];rfl
   · rw [Zee] at h1 h2 h3
     have hv:=ACr9 h1
     refine ⟨ly,t,l,me,fr,_,rfl,rfl,rfl,⟨⟨hv.1.1,by omega⟩,hl,hx,rfl⟩,Zbd (fun h4 i hp=> ?_) fun h4=> ?_⟩
     · rw [newS,h1,h2,h3,h4];rfl
     · rw [newS,h1,h2,h3,h4]
       refine Zbd (fun h5=> ?_) fun h5=> ?_
       · rw [h5];rfl
       · intro c3 c4
         rw [h5]
         exact ⟨rfl,l.map (ALo9 ly),rfl,by simp,BEa9 ly l,rfl⟩
 refine PCall.semRes ?_ key
 cases hq:newS ly t me l fr with
 |false=>exact SemV.rfl
 | true=>
   refine SemV.tup2 ?_
   cases l with
   |nil=>exact BQu9 ly me fr
   |cons x r=>exact BXv9 ly me (x::r) fr
def cNew (args:List AV) (K:AV→Prop):Prop:=∃(ly:LayT) (t:TabT) (me:Int) (l:List NearT) (fr:Int) (s:SideT) (q:Bool),args= [layA ly,tabA t, .d (i64 me), .d (.sl 31 (rowsN l)), .d (i64 fr)]∧(TabOk t∧l.length<1000000∧(∀x∈l,AEv9 x)∧q=newS ly t me l fr∧s=sideS ly me l fr)∧BIf q (K (.tup [.rptr (sideD s), .d (bo true)])) (K (.tup [.d nilP, .d (bo false)]))
theorem BFg9:∀args K,cNew args K→∃x,PCall prog 35 args x∧K x:=by
 rintro _ K ⟨ly,t,me,l,fr,_,q,rfl,⟨ht,hl,hx,hq,rfl⟩,hk⟩
 refine ⟨_,pcNew ly t me l fr ht hl hx, ?_⟩
 rw [←hq]
 cases q with
 |true=>exact hk
 |false=>exact hk
theorem BZv9 (x:GraT) (fr:Int):wpFn prog ⟨[], [],wl,y,false⟩ 100 f96 [graA x, .rptr [i64 fr]] b R=(R (Zac (bo (decide (Zdx x<fr)))) b):=by kernel_rfl
theorem BZw9 (x:AskT) (sl:Int):wpFn prog ⟨[], [],wl,y,false⟩ 100 f138 [askA x, .rptr [i64 sl]] b R=(R (Zac (bo (Zda x==sl))) b):=by kernel_rfl
theorem CDr9 (x:GraT) (fr:Int):PCall prog 96 [graA x, .rptr [i64 fr]] (.d (bo (decide (x.un<fr)))):=by
 refine Zbg (n:=100) (u:=false) mixed Zak Zah func96 (by rfl) (by rfl) fun Ev bb=> ?_
 rw [BZv9]
def cOutG (args:List AV) (K:AV→Prop):Prop:=∃(x:GraT) (fr:Int) (q:Bool),args= [graA x, .rptr [i64 fr]]∧q=decide (x.un<fr)∧K (.d (bo q))
theorem BUs9:∀args K,cOutG args K→∃x,PCall prog 96 args x∧K x:=by
 rintro _ K ⟨x,fr,_,rfl,rfl,hk⟩;exact ⟨_,CDr9 x fr,hk⟩
theorem CDs9 (x:AskT) (sl:Int):PCall prog 138 [askA x, .rptr [i64 sl]] (.d (bo (x.sl==sl))):=by
 refine Zbg (n:=100) (u:=false) mixed Zak Zah func138 (by rfl) (by rfl) fun Ev bb=> ?_
 rw [BZw9]
def cOutA (args:List AV) (K:AV→Prop):Prop:=∃(x:AskT) (sl:Int) (q:Bool),args= [askA x, .rptr [i64 sl]]∧q=(x.sl==sl)∧K (.d (bo q))
theorem BUt9:∀args K,cOutA args K→∃x,PCall prog 138 args x∧K x:=by
 rintro _ K ⟨x,sl,_,rfl,rfl,hk⟩;exact ⟨_,CDs9 x sl,hk⟩
def TOutG:List (Nat×(List AV→(AV→Prop)→Prop)):= [(95,BLl9),(96,cOutG)]
theorem BVj9:AAb9 prog TOutG:=Zaj AOy9 (Zaj BUs9 Zak)
def TOutA:List (Nat×(List AV→(AV→Prop)→Prop)):= [(118,BUn9),(138,cOutA)]
theorem BVk9:AAb9 prog TOutA:=Zaj AVw9 (Zaj BUt9 Zak)
def TInsG:List (Nat×(List AV→(AV→Prop)→Prop)):= [(95,BLl9),(167,BMb9)]
theorem BVq9:AAb9 prog TInsG:=Zaj AOy9 (Zaj APa9 Zak)
def TInsU:List (Nat×(List AV→(AV→Prop)→Prop)):= [(108,BUm9),(170,BMa9)]
theorem BVp9:AAb9 prog TInsU:=Zaj AVv9 (Zaj AOz9 Zak)
theorem BKt9 (x:GraT) (fr:Int):wpFn prog ⟨TOutG, [],wl,y,false⟩ 100 f132 ([graA x]++ [.rptr [.fn (.func 96) [.pt [i64 fr]]], .rptr [.fn (.func 95) []]]) b R=(∃(u0:GraT), [Zar (Qz7 x)]= [Zar (Qz7 u0)]∧∃(x1:GraT) (fr2:Int) (q3:Bool), [Zar (Qz7 u0),Zag [i64 fr]]= [Zar (Qz7 x1),Zag [i64 fr2]]∧q3=decide (Zdx x1<fr2)∧R (.d (bo q3)) b):=by kernel_rfl
theorem BRt9 (x:GraT) (fr:Int):PCall prog 132 ([graA x]++ [.rptr [.fn (.func 96) [.pt [i64 fr]]], .rptr [.fn (.func 95) []]]) (.d (bo ((fun x:GraT=>decide (x.un<fr)) x))):=by
 refine Zbg (n:=100) (u:=false) mixed BVj9 Zah func132 (by rfl) (by rfl) fun Ev bb=> ?_
 rw [BKt9]
 exact ⟨x,rfl,x,fr,_,rfl,rfl,rfl⟩
def BGj9 (args:List AV) (K:AV→Prop):Prop:=∃(x:GraT) (fr:Int) (q:Bool),args= [graA x]++ [.rptr [.fn (.func 96) [.pt [i64 fr]]], .rptr [.fn (.func 95) []]]∧(q=(fun x:GraT=>decide (x.un<fr)) x)∧K (.d (bo q))
theorem ARu9:∀args K,BGj9 args K→∃x,PCall prog 132 args x∧K x:=by
 rintro _ K ⟨x,fr,_,rfl,rfl,hk⟩;exact ⟨_,BRt9 x fr,hk⟩
def BVs9:List (Nat×(List AV→(AV→Prop)→Prop)):= [(132,BGj9)]
theorem BMn9:AAb9 prog BVs9:=Zaj ARu9 Zak
noncomputable def AQy9:Code:=sub [1,0,1,2,3] (code f54)
def AHj9 (l:List GraT) (fr:Int) (q i:Int):List AV:= [.d (.sl 5 (rowsG l)), .fn (.func 132) [] [.rptr [.fn (.func 96) [.pt [i64 fr]]], .rptr [.fn (.func 95) []]], .bad, .bad, .d (i64 q), .bad, .bad, .d (i64 l.length), .d (i64 i)]++Zap 10 .bad
theorem BYp9 (l:List GraT) (fr:Int) (i:Int):wpc prog ⟨BVs9, [],wl,y,false⟩ 100 AQy9 (AHj9 l fr 0 i) [] b (maskK 0 [0,1,4,7,8] K)=(BIf (decide (i<((Zaa l:Nat):Int))) (BIf (true&&decide (0≤i)) (∃(x0:Int) (x1:Int) (x2:Int) (x3:Int) (x4:Int),(rowsG l)[Zao i]? =some (Qz40 x0 x1 x2 x3 x4)∧∃(x7:GraT) (fr8:Int) (q9:Bool), [Zar (Qz25 x0 x1 x2 x3 x4),Zag [Zcs (Fn.func 96) [Zdp [i64 fr]]],Zag [Zcs (Fn.func 95) []]]= [Zar (Qz7 x7),Zag [Zcs (Fn.func 96) [Zdp [i64 fr8]]],Zag [Zcs (Fn.func 95) []]]∧q9=decide (Zdx x7<fr8)∧BIf q9 (K .ret (Zac (Zaf 5 (rowsG l))::Zaw (Fn.func 132) [] [Zag [Zcs (Fn.func 96) [Zdp [i64 fr]]],Zag [Zcs (Fn.func 95) []]]::Zab::Zab::Zac (i64 i)::Zab::Zab::Zac (i64 ((Zaa l:Nat):Int))::Zac (i64 i)::bds 10 []) [] b) (K .normal (Zac (Zaf 5 (rowsG l))::Zaw (Fn.func 132) [] [Zag [Zcs (Fn.func 96) [Zdp [i64 fr]]],Zag [Zcs (Fn.func 95) []]]::Zab::Zab::Zac (i64 0)::Zab::Zab::Zac (i64 ((Zaa l:Nat):Int))::Zac (i64 (Zae .i64 (i+1)))::bds 10 []) [] b)) False) (K (Zbn 0) (Zac (Zaf 5 (rowsG l))::Zaw (Fn.func 132) [] [Zag [Zcs (Fn.func 96) [Zdp [i64 fr]]],Zag [Zcs (Fn.func 95) []]]::Zab::Zab::Zac (i64 0)::Zab::Zab::Zac (i64 ((Zaa l:Nat):Int))::Zac (i64 i)::bds 10 []) [] b)):=by kernel_rfl
theorem BWj9 {Ev:Env prog} {b:Ev.β} {Q:Exit→St Ev.β→Prop} (l:List GraT) (fr:Int) (hl:l.length≤9223372036854775807) (h1:l.findIdx? (fun x:GraT=>decide (x.un<fr))=none→∀i:Int,Q (.exit 0) ⟨AHj9 l fr 0 i, [],b⟩) (h2:∀j:Nat,l.findIdx? (fun x:GraT=>decide (x.un<fr))=some j→Q .ret ⟨AHj9 l fr j j, [],b⟩):
   WR Ev AQy9 (l.length+1) ⟨AHj9 l fr 0 (0:Nat), [],b⟩ Q:=by
 refine WR.findL (X:=⟨BVs9, [],wlW Ev,Ev.Y,false⟩) (k:=100) [0,1,4,7,8] mixed (CX.Ok.of BMn9 Zah) l (fun x:GraT=>decide (x.un<fr)) (fun i=>AHj9 l fr 0 (i:Nat)) (fun i=>AHj9 l fr (i:Nat) (i:Nat)) [] 0 (fun i x hi hxi K k1 k2=> ?_) (fun K k1=> ?_) (fun h=>h1 h _) h2
 · refine Eq.mpr (BYp9 _ _ _ K l fr i) ?_
   rw [ABu9 hxi]
   refine Zba (by simp;omega) (Zba (natI i) ⟨_,_,_,_,_,rfl,x,fr,_,rfl,rfl,Zbd (fun g=>k1 g) fun g=> ?_⟩)
   rw [wrapN (by omega)];exact k2 g
 · refine Eq.mpr (BYp9 _ _ _ K l fr _) ?_
   exact Zde (by simp) k1
def BAu9 {β:Type}:WLT β:=fun cd tm hp b K=>∃(l:List GraT) (fr:Int) (q:Int),cd= .loop AQy9∧AAz9 [0,1,4,7,8] 0 tm=AHj9 l fr 0 0∧hp= []∧(l.length≤9223372036854775807∧q=idxS (fun x:GraT=>decide (x.un<fr)) l)∧(∀i:Int,q= -1→K (.exit 0) (AHj9 l fr 0 i) [] b)∧(∀i:Int,0≤q→K .ret (AHj9 l fr q i) [] b)
theorem BAt9 {Ev:Env prog} (c:Code) (tm:List AV) (hp:List Blk) (b:Ev.β) (K:Exit→List AV→List Blk→Ev.β→Prop) (h:BAu9 c tm hp b K):W Ev c ⟨tm,hp,b⟩ (fun e s=>K e s.tm s.hp s.b):=by
 obtain ⟨l,fr,q,rfl,htm,rfl,⟨hl,rfl⟩,hK1,hK2⟩:=h
 refine W.cast (htm▸AAc9 _ tm 0) (Zby _) ?_
 exact W.rounds (BWj9 (Q:=fun e s=>K e s.tm s.hp s.b) l fr hl (fun h i=>hK1 i (AAy9 h)) fun j h=>by have:=hK2 j (by rw [AAi9 h];omega);rwa [AAi9 h] at this)
theorem BDi9 (l:List GraT) (fr:Int):wpFn prog ⟨[], [],BAu9,y,false⟩ 100 f54 [.d (.sl 5 (rowsG l)), .fn (.func 132) [] [.rptr [.fn (.func 96) [.pt [i64 fr]]], .rptr [.fn (.func 95) []]]] b R=(∃(l0:List GraT) (fr1:Int) (q2:Int),Zax AQy9=Zax AQy9∧(Zac (Zaf 5 (rowsG l))::Zaw (Fn.func 132) [] [Zag [Zcs (Fn.func 96) [Zdp [i64 fr]]],Zag [Zcs (Fn.func 95) []]]::Zab::Zab::Zac (i64 0)::Zab::Zab::Zac (i64 ((Zaa (rowsG l):Nat):Int))::Zac (i64 0)::bds 10 [])=(Zac (Zaf 5 (rowsG l0))::Zaw (Fn.func 132) [] [Zag [Zcs (Fn.func 96) [Zdp [i64 fr1]]],Zag [Zcs (Fn.func 95) []]]::Zab::Zab::Zac (i64 0)::Zab::Zab::Zac (i64 ((Zaa l0:Nat):Int))::Zac (i64 0)::bds 10 [])∧([]:List Blk)= []∧(Zaa l0≤9223372036854775807∧q2=idxS (fun (x3:GraT)=>decide (Zdx x3<fr1)) l0)∧(∀(i:Int),q2=(-1:Int)→R (.d (i64 (-1))) b)∧∀(i:Int),(0:Int)≤q2→R (.d (i64 q2)) b):=by kernel_rfl
theorem BJb9 (l:List GraT) (fr:Int) (hl:l.length≤9223372036854775807):PCall prog 54 [.d (.sl 5 (rowsG l)), .fn (.func 132) [] [.rptr [.fn (.func 96) [.pt [i64 fr]]], .rptr [.fn (.func 95) []]]] (.d (i64 (idxS (fun x:GraT=>decide (x.un<fr)) l))):=by
 refine Zdl (n:=100) (u:=false) (fun _=>BAu9) mixed Zak Zah (fun Ev=>BAt9) func54 (by rfl) (by rfl) fun Ev bb=> ?_
 rw [BDi9,AAg9]
 exact ⟨l,fr,_,rfl,rfl,rfl,⟨hl,rfl⟩,fun i h=>by rw [h],fun i h=>rfl⟩
def BFn9 (args:List AV) (K:AV→Prop):Prop:=∃(l:List GraT) (fr:Int) (q:Int),args= [.d (.sl 5 (rowsG l)), .fn (.func 132) [] [.rptr [.fn (.func 96) [.pt [i64 fr]]], .rptr [.fn (.func 95) []]]]∧(l.length≤9223372036854775807∧q=idxS (fun x:GraT=>decide (x.un<fr)) l)∧K (.d (i64 q))
theorem AYz9:∀args K,BFn9 args K→∃x,PCall prog 54 args x∧K x:=by
 rintro _ K ⟨l,fr,_,rfl,⟨hl,rfl⟩,hk⟩;exact ⟨_,BJb9 l fr hl,hk⟩
theorem BKu9 (x:AskT) (sl:Int):wpFn prog ⟨TOutA, [],wl,y,false⟩ 100 f148 ([askA x]++ [.rptr [.fn (.func 138) [.pt [i64 sl]]], .rptr [.fn (.func 118) []]]) b R=(∃(u0:AskT), [Zar (Qz13 x)]= [Zar (Qz13 u0)]∧∃(x1:AskT) (sl2:Int) (q3:Bool), [Zar (Qz13 u0),Zag [i64 sl]]= [Zar (Qz13 x1),Zag [i64 sl2]]∧q3=(Zda x1==sl2)∧R (.d (bo q3)) b):=by kernel_rfl
theorem BRu9 (x:AskT) (sl:Int):PCall prog 148 ([askA x]++ [.rptr [.fn (.func 138) [.pt [i64 sl]]], .rptr [.fn (.func 118) []]]) (.d (bo ((fun x:AskT=>x.sl==sl) x))):=by
 refine Zbg (n:=100) (u:=false) mixed BVk9 Zah func148 (by rfl) (by rfl) fun Ev bb=> ?_
 rw [BKu9]
 exact ⟨x,rfl,x,sl,_,rfl,rfl,rfl⟩
def BGk9 (args:List AV) (K:AV→Prop):Prop:=∃(x:AskT) (sl:Int) (q:Bool),args= [askA x]++ [.rptr [.fn (.func 138) [.pt [i64 sl]]], .rptr [.fn (.func 118) []]]∧(q=(fun x:AskT=>x.sl==sl) x)∧K (.d (bo q))
theorem ARv9:∀args K,BGk9 args K→∃x,PCall prog 148 args x∧K x:=by
 rintro _ K ⟨x,sl,_,rfl,rfl,hk⟩;exact ⟨_,BRu9 x sl,hk⟩
def BVt9:List (Nat×(List AV→(AV→Prop)→Prop)):= [(148,BGk9)]
theorem BMo9:AAb9 prog BVt9:=Zaj ARv9 Zak
noncomputable def AQz9:Code:=sub [1,0,1,2,3] (code f90)
def AHk9 (l:List AskT) (sl:Int) (q i:Int):List AV:= [.d (.sl 3 (rowsA l)), .fn (.func 148) [] [.rptr [.fn (.func 138) [.pt [i64 sl]]], .rptr [.fn (.func 118) []]], .bad, .bad, .d (i64 q), .bad, .bad, .d (i64 l.length), .d (i64 i)]++Zap 10 .bad
theorem BYq9 (l:List AskT) (sl:Int) (i:Int):wpc prog ⟨BVt9, [],wl,y,false⟩ 100 AQz9 (AHk9 l sl 0 i) [] b (maskK 0 [0,1,4,7,8] K)=(BIf (decide (i<((Zaa l:Nat):Int))) (BIf (true&&decide (0≤i)) (∃(x0:Int) (x1:Int) (x2:Int),(rowsA l)[Zao i]? =some [i64 x0,i64 x1,i64 x2]∧∃(x5:AskT) (sl6:Int) (q7:Bool), [Zar (Qz29 x0 x1 x2),Zag [Zcs (Fn.func 138) [Zdp [i64 sl]]],Zag [Zcs (Fn.func 118) []]]= [Zar (Qz13 x5),Zag [Zcs (Fn.func 138) [Zdp [i64 sl6]]],Zag [Zcs (Fn.func 118) []]]∧q7=(Zda x5==sl6)∧BIf q7 (K .ret (Zac (Zaf 3 (rowsA l))::Zaw (Fn.func 148) [] [Zag [Zcs (Fn.func 138) [Zdp [i64 sl]]],Zag [Zcs (Fn.func 118) []]]::Zab::Zab::Zac (i64 i)::Zab::Zab::Zac (i64 ((Zaa l:Nat):Int))::Zac (i64 i)::bds 10 []) [] b) (K .normal (Zac (Zaf 3 (rowsA l))::Zaw (Fn.func 148) [] [Zag [Zcs (Fn.func 138) [Zdp [i64 sl]]],Zag [Zcs (Fn.func 118) []]]::Zab::Zab::Zac (i64 0)::Zab::Zab::Zac (i64 ((Zaa l:Nat):Int))::Zac (i64 (Zae .i64 (i+1)))::bds 10 []) [] b)) False) (K (Zbn 0) (Zac (Zaf 3 (rowsA l))::Zaw (Fn.func 148) [] [Zag [Zcs (Fn.func 138) [Zdp [i64 sl]]],Zag [Zcs (Fn.func 118) []]]::Zab::Zab::Zac (i64 0)::Zab::Zab::Zac (i64 ((Zaa l:Nat):Int))::Zac (i64 i)::bds 10 []) [] b)):=by kernel_rfl
theorem BWk9 {Ev:Env prog} {b:Ev.β} {Q:Exit→St Ev.β→Prop} (l:List AskT) (sl:Int) (hl:l.length≤9223372036854775807) (h1:l.findIdx? (fun x:AskT=>x.sl==sl)=none→∀i:Int,Q (.exit 0) ⟨AHk9 l sl 0 i, [],b⟩) (h2:∀j:Nat,l.findIdx? (fun x:AskT=>x.sl==sl)=some j→Q .ret ⟨AHk9 l sl j j, [],b⟩):
   WR Ev AQz9 (l.length+1) ⟨AHk9 l sl 0 (0:Nat), [],b⟩ Q:=by
 refine WR.findL (X:=⟨BVt9, [],wlW Ev,Ev.Y,false⟩) (k:=100) [0,1,4,7,8] mixed (CX.Ok.of BMo9 Zah) l (fun x:AskT=>x.sl==sl) (fun i=>AHk9 l sl 0 (i:Nat)) (fun i=>AHk9 l sl (i:Nat) (i:Nat)) [] 0 (fun i x hi hxi K k1 k2=> ?_) (fun K k1=> ?_) (fun h=>h1 h _) h2
 · refine Eq.mpr (BYq9 _ _ _ K l sl i) ?_
   rw [ABp9 hxi]
   refine Zba (by simp;omega) (Zba (natI i) ⟨_,_,_,rfl,x,sl,_,rfl,rfl,Zbd (fun g=>k1 g) fun g=> ?_⟩)
   rw [wrapN (by omega)];exact k2 g
 · refine Eq.mpr (BYq9 _ _ _ K l sl _) ?_
   exact Zde (by simp) k1
def BAw9 {β:Type}:WLT β:=fun cd tm hp b K=>∃(l:List AskT) (sl:Int) (q:Int),cd= .loop AQz9∧AAz9 [0,1,4,7,8] 0 tm=AHk9 l sl 0 0∧hp= []∧(l.length≤9223372036854775807∧q=idxS (fun x:AskT=>x.sl==sl) l)∧(∀i:Int,q= -1→K (.exit 0) (AHk9 l sl 0 i) [] b)∧(∀i:Int,0≤q→K .ret (AHk9 l sl q i) [] b)
theorem BAv9 {Ev:Env prog} (c:Code) (tm:List AV) (hp:List Blk) (b:Ev.β) (K:Exit→List AV→List Blk→Ev.β→Prop) (h:BAw9 c tm hp b K):W Ev c ⟨tm,hp,b⟩ (fun e s=>K e s.tm s.hp s.b):=by
 obtain ⟨l,sl,q,rfl,htm,rfl,⟨hl,rfl⟩,hK1,hK2⟩:=h
 refine W.cast (htm▸AAc9 _ tm 0) (Zby _) ?_
 exact W.rounds (BWk9 (Q:=fun e s=>K e s.tm s.hp s.b) l sl hl (fun h i=>hK1 i (AAy9 h)) fun j h=>by have:=hK2 j (by rw [AAi9 h];omega);rwa [AAi9 h] at this)
theorem BDj9 (l:List AskT) (sl:Int):wpFn prog ⟨[], [],BAw9,y,false⟩ 100 f90 [.d (.sl 3 (rowsA l)), .fn (.func 148) [] [.rptr [.fn (.func 138) [.pt [i64 sl]]], .rptr [.fn (.func 118) []]]] b R=(∃(l0:List AskT) (sl1:Int) (q2:Int),Zax AQz9=Zax AQz9∧(Zac (Zaf 3 (rowsA l))::Zaw (Fn.func 148) [] [Zag [Zcs (Fn.func 138) [Zdp [i64 sl]]],Zag [Zcs (Fn.func 118) []]]::Zab::Zab::Zac (i64 0)::Zab::Zab::Zac (i64 ((Zaa (rowsA l):Nat):Int))::Zac (i64 0)::bds 10 [])=(Zac (Zaf 3 (rowsA l0))::Zaw (Fn.func 148) [] [Zag [Zcs (Fn.func 138) [Zdp [i64 sl1]]],Zag [Zcs (Fn.func 118) []]]::Zab::Zab::Zac (i64 0)::Zab::Zab::Zac (i64 ((Zaa l0:Nat):Int))::Zac (i64 0)::bds 10 [])∧([]:List Blk)= []∧(Zaa l0≤9223372036854775807∧q2=idxS (fun (x3:AskT)=>Zda x3==sl1) l0)∧(∀(i:Int),q2=(-1:Int)→R (.d (i64 (-1))) b)∧∀(i:Int),(0:Int)≤q2→R (.d (i64 q2)) b):=by kernel_rfl
theorem BJc9 (l:List AskT) (sl:Int) (hl:l.length≤9223372036854775807):PCall prog 90 [.d (.sl 3 (rowsA l)), .fn (.func 148) [] [.rptr [.fn (.func 138) [.pt [i64 sl]]], .rptr [.fn (.func 118) []]]] (.d (i64 (idxS (fun x:AskT=>x.sl==sl) l))):=by
 refine Zdl (n:=100) (u:=false) (fun _=>BAw9) mixed Zak Zah (fun Ev=>BAv9) func90 (by rfl) (by rfl) fun Ev bb=> ?_
 rw [BDj9,AAp9]
 exact ⟨l,sl,_,rfl,rfl,rfl,⟨hl,rfl⟩,fun i h=>by rw [h],fun i h=>rfl⟩
def BFo9 (args:List AV) (K:AV→Prop):Prop:=∃(l:List AskT) (sl:Int) (q:Int),args= [.d (.sl 3 (rowsA l)), .fn (.func 148) [] [.rptr [.fn (.func 138) [.pt [i64 sl]]], .rptr [.fn (.func 118) []]]]∧(l.length≤9223372036854775807∧q=idxS (fun x:AskT=>x.sl==sl) l)∧K (.d (i64 q))
theorem AZa9:∀args K,BFo9 args K→∃x,PCall prog 90 args x∧K x:=by
 rintro _ K ⟨l,sl,_,rfl,⟨hl,rfl⟩,hk⟩;exact ⟨_,BJc9 l sl hl,hk⟩
theorem BKz9 (x:GraT) (g:GraT):wpFn prog ⟨TInsG, [],wl,y,false⟩ 100 f135 ([graA x]++ [.rptr [.fn (.func 95) []], .rptr (graR g)]) b R=(∃(u0:GraT), [Zar (Qz7 x)]= [Zar (Qz7 u0)]∧∃(u1:GraT), [Zar (Qz7 u0)]= [Zar (Qz7 u1)]∧∃(u2:GraT), [Zar (Qz7 g)]= [Zar (Qz7 u2)]∧∃(u3:GraT), [Zar (Qz7 u2)]= [Zar (Qz7 u3)]∧R (.d (bo (decide (Zfd u1>Zfd u3)))) b):=by kernel_rfl
theorem BRz9 (x:GraT) (g:GraT):PCall prog 135 ([graA x]++ [.rptr [.fn (.func 95) []], .rptr (graR g)]) (.d (bo ((fun x:GraT=>decide (x.sl>g.sl)) x))):=by
 refine Zbg (n:=100) (u:=false) mixed BVq9 Zah func135 (by rfl) (by rfl) fun Ev bb=> ?_
 rw [BKz9]
 exact ⟨x,rfl,x,rfl,g,rfl,g,rfl,rfl⟩
def BOq9 (args:List AV) (K:AV→Prop):Prop:=∃(x:GraT) (g:GraT) (q:Bool),args= [graA x]++ [.rptr [.fn (.func 95) []], .rptr (graR g)]∧(q=(fun x:GraT=>decide (x.sl>g.sl)) x)∧K (.d (bo q))
theorem BGp9:∀args K,BOq9 args K→∃x,PCall prog 135 args x∧K x:=by
 rintro _ K ⟨x,g,_,rfl,rfl,hk⟩;exact ⟨_,BRz9 x g,hk⟩
def BVv9:List (Nat×(List AV→(AV→Prop)→Prop)):= [(135,BOq9)]
theorem BMq9:AAb9 prog BVv9:=Zaj BGp9 Zak
noncomputable def ARb9:Code:=sub [1,0,1,2,3] (code f54)
def AHm9 (l:List GraT) (g:GraT) (q i:Int):List AV:= [.d (.sl 5 (rowsG l)), .fn (.func 135) [] [.rptr [.fn (.func 95) []], .rptr (graR g)], .bad, .bad, .d (i64 q), .bad, .bad, .d (i64 l.length), .d (i64 i)]++Zap 10 .bad
theorem BYs9 (l:List GraT) (g:GraT) (i:Int):wpc prog ⟨BVv9, [],wl,y,false⟩ 100 ARb9 (AHm9 l g 0 i) [] b (maskK 0 [0,1,4,7,8] K)=(BIf (decide (i<((Zaa l:Nat):Int))) (BIf (true&&decide (0≤i)) (∃(x0:Int) (x1:Int) (x2:Int) (x3:Int) (x4:Int),(rowsG l)[Zao i]? =some (Qz40 x0 x1 x2 x3 x4)∧∃(x7:GraT) (g8:GraT) (q9:Bool), [Zar (Qz25 x0 x1 x2 x3 x4),Zag [Zcs (Fn.func 95) []],Zag (Qz19 g)]= [Zar (Qz7 x7),Zag [Zcs (Fn.func 95) []],Zag (Qz19 g8)]∧q9=decide (Zfd x7>Zfd g8)∧BIf q9 (K .ret (Zac (Zaf 5 (rowsG l))::Zaw (Fn.func 135) [] [Zag [Zcs (Fn.func 95) []],Zag (Qz19 g)]::Zab::Zab::Zac (i64 i)::Zab::Zab::Zac (i64 ((Zaa l:Nat):Int))::Zac (i64 i)::bds 10 []) [] b) (K .normal (Zac (Zaf 5 (rowsG l))::Zaw (Fn.func 135) [] [Zag [Zcs (Fn.func 95) []],Zag (Qz19 g)]::Zab::Zab::Zac (i64 0)::Zab::Zab::Zac (i64 ((Zaa l:Nat):Int))::Zac (i64 (Zae .i64 (i+1)))::bds 10 []) [] b)) False) (K (Zbn 0) (Zac (Zaf 5 (rowsG l))::Zaw (Fn.func 135) [] [Zag [Zcs (Fn.func 95) []],Zag (Qz19 g)]::Zab::Zab::Zac (i64 0)::Zab::Zab::Zac (i64 ((Zaa l:Nat):Int))::Zac (i64 i)::bds 10 []) [] b)):=by kernel_rfl
theorem BWm9 {Ev:Env prog} {b:Ev.β} {Q:Exit→St Ev.β→Prop} (l:List GraT) (g:GraT) (hl:l.length≤9223372036854775807) (h1:l.findIdx? (fun x:GraT=>decide (x.sl>g.sl))=none→∀i:Int,Q (.exit 0) ⟨AHm9 l g 0 i, [],b⟩) (h2:∀j:Nat,l.findIdx? (fun x:GraT=>decide (x.sl>g.sl))=some j→Q .ret ⟨AHm9 l g j j, [],b⟩):
   WR Ev ARb9 (l.length+1) ⟨AHm9 l g 0 (0:Nat), [],b⟩ Q:=by
 refine WR.findL (X:=⟨BVv9, [],wlW Ev,Ev.Y,false⟩) (k:=100) [0,1,4,7,8] mixed (CX.Ok.of BMq9 Zah) l (fun x:GraT=>decide (x.sl>g.sl)) (fun i=>AHm9 l g 0 (i:Nat)) (fun i=>AHm9 l g (i:Nat) (i:Nat)) [] 0 (fun i x hi hxi K k1 k2=> ?_) (fun K k1=> ?_) (fun h=>h1 h _) h2
 · refine Eq.mpr (BYs9 _ _ _ K l g i) ?_
   rw [ABu9 hxi]
   refine Zba (by simp;omega) (Zba (natI i) ⟨_,_,_,_,_,rfl,x,g,_,rfl,rfl,Zbd (fun g=>k1 g) fun g=> ?_⟩)
   rw [wrapN (by omega)];exact k2 g
 · refine Eq.mpr (BYs9 _ _ _ K l g _) ?_
   exact Zde (by simp) k1
def BBa9 {β:Type}:WLT β:=fun cd tm hp b K=>∃(l:List GraT) (g:GraT) (q:Int),cd= .loop ARb9∧AAz9 [0,1,4,7,8] 0 tm=AHm9 l g 0 0∧hp= []∧(l.length≤9223372036854775807∧q=idxS (fun x:GraT=>decide (x.sl>g.sl)) l)∧(∀i:Int,q= -1→K (.exit 0) (AHm9 l g 0 i) [] b)∧(∀i:Int,0≤q→K .ret (AHm9 l g q i) [] b)
theorem BAz9 {Ev:Env prog} (c:Code) (tm:List AV) (hp:List Blk) (b:Ev.β) (K:Exit→List AV→List Blk→Ev.β→Prop) (h:BBa9 c tm hp b K):W Ev c ⟨tm,hp,b⟩ (fun e s=>K e s.tm s.hp s.b):=by
 obtain ⟨l,g,q,rfl,htm,rfl,⟨hl,rfl⟩,hK1,hK2⟩:=h
 refine W.cast (htm▸AAc9 _ tm 0) (Zby _) ?_
 exact W.rounds (BWm9 (Q:=fun e s=>K e s.tm s.hp s.b) l g hl (fun h i=>hK1 i (AAy9 h)) fun j h=>by have:=hK2 j (by rw [AAi9 h];omega);rwa [AAi9 h] at this)
theorem BDl9 (l:List GraT) (g:GraT):wpFn prog ⟨[], [],BBa9,y,false⟩ 100 f54 [.d (.sl 5 (rowsG l)), .fn (.func 135) [] [.rptr [.fn (.func 95) []], .rptr (graR g)]] b R=(∃(l0:List GraT) (g1:GraT) (q2:Int),Zax ARb9=Zax ARb9∧(Zac (Zaf 5 (rowsG l))::Zaw (Fn.func 135) [] [Zag [Zcs (Fn.func 95) []],Zag (Qz19 g)]::Zab::Zab::Zac (i64 0)::Zab::Zab::Zac (i64 ((Zaa (rowsG l):Nat):Int))::Zac (i64 0)::bds 10 [])=(Zac (Zaf 5 (rowsG l0))::Zaw (Fn.func 135) [] [Zag [Zcs (Fn.func 95) []],Zag (Qz19 g1)]::Zab::Zab::Zac (i64 0)::Zab::Zab::Zac (i64 ((Zaa l0:Nat):Int))::Zac (i64 0)::bds 10 [])∧([]:List Blk)= []∧(Zaa l0≤9223372036854775807∧q2=idxS (fun (x3:GraT)=>decide (Zfd x3>Zfd g1)) l0)∧(∀(i:Int),q2=(-1:Int)→R (.d (i64 (-1))) b)∧∀(i:Int),(0:Int)≤q2→R (.d (i64 q2)) b):=by kernel_rfl
theorem BJe9 (l:List GraT) (g:GraT) (hl:l.length≤9223372036854775807):PCall prog 54 [.d (.sl 5 (rowsG l)), .fn (.func 135) [] [.rptr [.fn (.func 95) []], .rptr (graR g)]] (.d (i64 (idxS (fun x:GraT=>decide (x.sl>g.sl)) l))):=by
 refine Zdl (n:=100) (u:=false) (fun _=>BBa9) mixed Zak Zah (fun Ev=>BAz9) func54 (by rfl) (by rfl) fun Ev bb=> ?_
 rw [BDl9,AAg9]
 exact ⟨l,g,_,rfl,rfl,rfl,⟨hl,rfl⟩,fun i h=>by rw [h],fun i h=>rfl⟩
def BFq9 (args:List AV) (K:AV→Prop):Prop:=∃(l:List GraT) (g:GraT) (q:Int),args= [.d (.sl 5 (rowsG l)), .fn (.func 135) [] [.rptr [.fn (.func 95) []], .rptr (graR g)]]∧(l.length≤9223372036854775807∧q=idxS (fun x:GraT=>decide (x.sl>g.sl)) l)∧K (.d (i64 q))
theorem AZc9:∀args K,BFq9 args K→∃x,PCall prog 54 args x∧K x:=by
 rintro _ K ⟨l,g,_,rfl,⟨hl,rfl⟩,hk⟩;exact ⟨_,BJe9 l g hl,hk⟩
theorem BKy9 (x:UseT) (g:UseT):wpFn prog ⟨TInsU, [],wl,y,false⟩ 100 f139 ([useA x]++ [.rptr [.fn (.func 108) []], .rptr (useR g)]) b R=(∃(u0:UseT), [Zar (Qz9 x)]= [Zar (Qz9 u0)]∧∃(u1:UseT), [Zar (Qz9 u0)]= [Zar (Qz9 u1)]∧∃(u2:UseT), [Zar (Qz9 g)]= [Zar (Qz9 u2)]∧∃(u3:UseT), [Zar (Qz9 u2)]= [Zar (Qz9 u3)]∧R (.d (bo (decide (Zfe u1>Zfe u3)))) b):=by kernel_rfl
theorem BRy9 (x:UseT) (g:UseT):PCall prog 139 ([useA x]++ [.rptr [.fn (.func 108) []], .rptr (useR g)]) (.d (bo ((fun x:UseT=>decide (x.sl>g.sl)) x))):=by
 refine Zbg (n:=100) (u:=false) mixed BVp9 Zah func139 (by rfl) (by rfl) fun Ev bb=> ?_
 rw [BKy9]
 exact ⟨x,rfl,x,rfl,g,rfl,g,rfl,rfl⟩
def BOp9 (args:List AV) (K:AV→Prop):Prop:=∃(x:UseT) (g:UseT) (q:Bool),args= [useA x]++ [.rptr [.fn (.func 108) []], .rptr (useR g)]∧(q=(fun x:UseT=>decide (x.sl>g.sl)) x)∧K (.d (bo q))
theorem BGo9:∀args K,BOp9 args K→∃x,PCall prog 139 args x∧K x:=by
 rintro _ K ⟨x,g,_,rfl,rfl,hk⟩;exact ⟨_,BRy9 x g,hk⟩
def BVu9:List (Nat×(List AV→(AV→Prop)→Prop)):= [(139,BOp9)]
theorem BMp9:AAb9 prog BVu9:=Zaj BGo9 Zak
noncomputable def ARa9:Code:=sub [1,0,1,2,3] (code f133)
def AHl9 (l:List UseT) (g:UseT) (q i:Int):List AV:= [.d (.sl 4 (rowsU l)), .fn (.func 139) [] [.rptr [.fn (.func 108) []], .rptr (useR g)], .bad, .bad, .d (i64 q), .bad, .bad, .d (i64 l.length), .d (i64 i)]++Zap 10 .bad
theorem BYr9 (l:List UseT) (g:UseT) (i:Int):wpc prog ⟨BVu9, [],wl,y,false⟩ 100 ARa9 (AHl9 l g 0 i) [] b (maskK 0 [0,1,4,7,8] K)=(BIf (decide (i<((Zaa l:Nat):Int))) (BIf (true&&decide (0≤i)) (∃(x0:Int) (x1:Int) (x2:Int) (x3:Int),(rowsU l)[Zao i]? =some [i64 x0,i64 x1,i64 x2,i64 x3]∧∃(x6:UseT) (g7:UseT) (q8:Bool), [Zar (Qz38 x0 x1 x2 x3),Zag [Zcs (Fn.func 108) []],Zag (Qz15 g)]= [Zar (Qz9 x6),Zag [Zcs (Fn.func 108) []],Zag (Qz15 g7)]∧q8=decide (Zfe x6>Zfe g7)∧BIf q8 (K .ret (Zac (Zaf 4 (rowsU l))::Zaw (Fn.func 139) [] [Zag [Zcs (Fn.func 108) []],Zag (Qz15 g)]::Zab::Zab::Zac (i64 i)::Zab::Zab::Zac (i64 ((Zaa l:Nat):Int))::Zac (i64 i)::bds 10 []) [] b) (K .normal (Zac (Zaf 4 (rowsU l))::Zaw (Fn.func 139) [] [Zag [Zcs (Fn.func 108) []],Zag (Qz15 g)]::Zab::Zab::Zac (i64 0)::Zab::Zab::Zac (i64 ((Zaa l:Nat):Int))::Zac (i64 (Zae .i64 (i+1)))::bds 10 []) [] b)) False) (K (Zbn 0) (Zac (Zaf 4 (rowsU l))::Zaw (Fn.func 139) [] [Zag [Zcs (Fn.func 108) []],Zag (Qz15 g)]::Zab::Zab::Zac (i64 0)::Zab::Zab::Zac (i64 ((Zaa l:Nat):Int))::Zac (i64 i)::bds 10 []) [] b)):=by kernel_rfl
theorem BWl9 {Ev:Env prog} {b:Ev.β} {Q:Exit→St Ev.β→Prop} (l:List UseT) (g:UseT) (hl:l.length≤9223372036854775807) (h1:l.findIdx? (fun x:UseT=>decide (x.sl>g.sl))=none→∀i:Int,Q (.exit 0) ⟨AHl9 l g 0 i, [],b⟩) (h2:∀j:Nat,l.findIdx? (fun x:UseT=>decide (x.sl>g.sl))=some j→Q .ret ⟨AHl9 l g j j, [],b⟩):
   WR Ev ARa9 (l.length+1) ⟨AHl9 l g 0 (0:Nat), [],b⟩ Q:=by
 refine WR.findL (X:=⟨BVu9, [],wlW Ev,Ev.Y,false⟩) (k:=100) [0,1,4,7,8] mixed (CX.Ok.of BMp9 Zah) l (fun x:UseT=>decide (x.sl>g.sl)) (fun i=>AHl9 l g 0 (i:Nat)) (fun i=>AHl9 l g (i:Nat) (i:Nat)) [] 0 (fun i x hi hxi K k1 k2=> ?_) (fun K k1=> ?_) (fun h=>h1 h _) h2
 · refine Eq.mpr (BYr9 _ _ _ K l g i) ?_
   rw [ABy9 hxi]
   refine Zba (by simp;omega) (Zba (natI i) ⟨_,_,_,_,rfl,x,g,_,rfl,rfl,Zbd (fun g=>k1 g) fun g=> ?_⟩)
   rw [wrapN (by omega)];exact k2 g
 · refine Eq.mpr (BYr9 _ _ _ K l g _) ?_
   exact Zde (by simp) k1
def BAy9 {β:Type}:WLT β:=fun cd tm hp b K=>∃(l:List UseT) (g:UseT) (q:Int),cd= .loop ARa9∧AAz9 [0,1,4,7,8] 0 tm=AHl9 l g 0 0∧hp= []∧(l.length≤9223372036854775807∧q=idxS (fun x:UseT=>decide (x.sl>g.sl)) l)∧(∀i:Int,q= -1→K (.exit 0) (AHl9 l g 0 i) [] b)∧(∀i:Int,0≤q→K .ret (AHl9 l g q i) [] b)
theorem BAx9 {Ev:Env prog} (c:Code) (tm:List AV) (hp:List Blk) (b:Ev.β) (K:Exit→List AV→List Blk→Ev.β→Prop) (h:BAy9 c tm hp b K):W Ev c ⟨tm,hp,b⟩ (fun e s=>K e s.tm s.hp s.b):=by
 obtain ⟨l,g,q,rfl,htm,rfl,⟨hl,rfl⟩,hK1,hK2⟩:=h
 refine W.cast (htm▸AAc9 _ tm 0) (Zby _) ?_
 exact W.rounds (BWl9 (Q:=fun e s=>K e s.tm s.hp s.b) l g hl (fun h i=>hK1 i (AAy9 h)) fun j h=>by have:=hK2 j (by rw [AAi9 h];omega);rwa [AAi9 h] at this)
theorem BDk9 (l:List UseT) (g:UseT):wpFn prog ⟨[], [],BAy9,y,false⟩ 100 f133 [.d (.sl 4 (rowsU l)), .fn (.func 139) [] [.rptr [.fn (.func 108) []], .rptr (useR g)]] b R=(∃(l0:List UseT) (g1:UseT) (q2:Int),Zax ARa9=Zax ARa9∧(Zac (Zaf 4 (rowsU l))::Zaw (Fn.func 139) [] [Zag [Zcs (Fn.func 108) []],Zag (Qz15 g)]::Zab::Zab::Zac (i64 0)::Zab::Zab::Zac (i64 ((Zaa (rowsU l):Nat):Int))::Zac (i64 0)::bds 10 [])=(Zac (Zaf 4 (rowsU l0))::Zaw (Fn.func 139) [] [Zag [Zcs (Fn.func 108) []],Zag (Qz15 g1)]::Zab::Zab::Zac (i64 0)::Zab::Zab::Zac (i64 ((Zaa l0:Nat):Int))::Zac (i64 0)::bds 10 [])∧([]:List Blk)= []∧(Zaa l0≤9223372036854775807∧q2=idxS (fun (x3:UseT)=>decide (Zfe x3>Zfe g1)) l0)∧(∀(i:Int),q2=(-1:Int)→R (.d (i64 (-1))) b)∧∀(i:Int),(0:Int)≤q2→R (.d (i64 q2)) b):=by kernel_rfl
theorem BJd9 (l:List UseT) (g:UseT) (hl:l.length≤9223372036854775807):PCall prog 133 [.d (.sl 4 (rowsU l)), .fn (.func 139) [] [.rptr [.fn (.func 108) []], .rptr (useR g)]] (.d (i64 (idxS (fun x:UseT=>decide (x.sl>g.sl)) l))):=by
 refine Zdl (n:=100) (u:=false) (fun _=>BAy9) mixed Zak Zah (fun Ev=>BAx9) func133 (by rfl) (by rfl) fun Ev bb=> ?_
 rw [BDk9,AAj9]
 exact ⟨l,g,_,rfl,rfl,rfl,⟨hl,rfl⟩,fun i h=>by rw [h],fun i h=>rfl⟩
def BFp9 (args:List AV) (K:AV→Prop):Prop:=∃(l:List UseT) (g:UseT) (q:Int),args= [.d (.sl 4 (rowsU l)), .fn (.func 139) [] [.rptr [.fn (.func 108) []], .rptr (useR g)]]∧(l.length≤9223372036854775807∧q=idxS (fun x:UseT=>decide (x.sl>g.sl)) l)∧K (.d (i64 q))
theorem AZb9:∀args K,BFp9 args K→∃x,PCall prog 133 args x∧K x:=by
 rintro _ K ⟨l,g,_,rfl,⟨hl,rfl⟩,hk⟩;exact ⟨_,BJd9 l g hl,hk⟩
section
variable {α:Type} {row:α→List Dv} {k:Nat} (hk:∀x,(row x).length=k)
theorem ANc9 (x:α) (hs:List α):flatA ((x::hs).map row)=(row x).map .d++flatA (hs.map row):=by rw [Zdy,AFx9]
theorem ATk9 (a b:List α):flatA ((a++b).map row)=flatA (a.map row)++flatA (b.map row):=by simp [flatA]
include hk
theorem AYl9:∀hs:List α,(flatA (hs.map row)).length=hs.length*k
 | []=>by simp [flatA]
 |h::hs=>by rw [ANc9,Zcg,AYl9 hs,List.length_map,hk,List.length_cons,Zcw];omega
theorem ARm9:∀(hs:List α) (i:Nat),(flatA (hs.map row)).take (i*k)=flatA ((hs.take i).map row)
 | [],i=>by simp [flatA]
 |h::hs,0=>by simp [flatA]
 | h::hs,i+1=>by
   rw [ANc9,List.take_succ_cons,ANc9,←ARm9 hs i,List.take_append]
   have e:((row h).map Zac).length=k:=by rw [List.length_map,hk]
   rw [e,List.take_of_length_le (by rw [e,Zcw];omega)]
   congr 2;rw [Zcw];omega
theorem BDy9:∀(hs:List α) (i:Nat),(flatA (hs.map row)).drop (i*k)=flatA ((hs.drop i).map row)
 | [],i=>by simp [flatA]
 |h::hs,0=>by simp
 | h::hs,i+1=>by
   rw [ANc9,List.drop_succ_cons,←BDy9 hs i,List.drop_append]
   have e:((row h).map Zac).length=k:=by rw [List.length_map,hk]
   rw [e,List.drop_eq_nil_of_le (by rw [e,Zcw];omega),List.nil_append]
   congr 1;rw [Zcw];omega
theorem fl_at {hs:List α} {j:Nat} {x:α} (h:hs[j]? =some x):((flatA (hs.map row)).drop (j*k)).take k=(row x).map .d:=by
 obtain ⟨hj,rfl⟩:=Zad.1 h
 rw [BDy9 hk,List.drop_eq_getElem_cons hj,ANc9]
 have e:((row hs[j]).map Zac).length=k:=by rw [List.length_map,hk]
 rw [Zer (by rw [e];exact Zav _),List.take_of_length_le (by rw [e];exact Zav _)]
theorem BTk9 {hs:List α} {i:Nat} (hi:i<hs.length) (x:α):(flatA (hs.map row)).take (i*k)++(row x).map .d++(flatA (hs.map row)).drop (i*k+k)=flatA ((hs.set i x).map row):=by
 have e:i*k+k=(i+1)*k:=by rw [Zcw];omega
 rw [e,ARm9 hk,BDy9 hk,List.set_eq_take_append_cons_drop,if_pos hi,ATk9,ANc9,Zbl]
end
theorem WR.delL {α:Type} {P:Program} {Ev:Env P} {X:CX Ev.β} {lp:Code} {b:Ev.β} {Q:Exit→St Ev.β→Prop} {k L:Nat} (keep:List Nat) (hm:P.follows .mixedOrders=true) (hX:X.Ok) (hs:List α) (p:α→Bool) (tmOf:Nat→Nat→List AV) (hpOf:List α→List Blk) (hL:∀c,(hpOf c).length=L) (id:Nat)
   (hr:∀(i j:Nat) (cur:List α) (x:α),cur[j]? =some x→i≤j→j<hs.length→cur.length=hs.length→∀K:Exit→List AV→List Blk→Ev.β→Prop,(p x=true→K .normal (tmOf i (j+1)) (hpOf cur) b)→(p x=false→K .normal (tmOf (i+1) (j+1)) (hpOf (cur.set i x)) b)→wpc P X k lp (tmOf i j) (hpOf cur) b (maskK L keep K))
   (he:∀(i:Nat) (cur:List α) (K:Exit→List AV→List Blk→Ev.β→Prop),cur.length=hs.length→K (.exit id) (tmOf i hs.length) (hpOf cur) b→wpc P X k lp (tmOf i hs.length) (hpOf cur) b (maskK L keep K))
   (hQ:∀cur:List α,cur.length=hs.length→cur.take (hs.filter fun x=> !p x).length=(hs.filter fun x=> !p x)→Q (.exit id) ⟨tmOf (hs.filter fun x=> !p x).length hs.length,hpOf cur,b⟩):
   ∀ (rest:List α) (j i:Nat) (cur:List α),hs.drop j=rest→j≤hs.length→i≤j→cur.length=hs.length→cur.take i=(hs.take j).filter (fun x=> !p x)→cur.drop j=rest→
     WR Ev lp (rest.length+1) ⟨tmOf i j,hpOf cur,b⟩ Q
 | [],j,i,cur,hd,hj,hi,hcl,ht,hcd=>by
   have hjl:j=hs.length:=by have:=List.drop_eq_nil_iff.1 hd;omega
   subst hjl
   rw [Zdc] at ht
   have hil:i=(hs.filter fun x=> !p x).length:=by rw [←ht,Zcb];omega
   refine Zdj keep hm hX (k:=k) (by rw [hL];exact he i cur _ hcl (by rw [hil] at ht ⊢;exact hQ cur hcl ht))
 | h::rest,j,i,cur,hd,hj,hi,hcl,ht,hcd=>by
   have hj1:j<hs.length:=by
     apply Classical.byContradiction
     intro hn
     rw [List.drop_eq_nil_of_le (by omega)] at hd;cases hd
   rw [List.drop_eq_getElem_cons hj1] at hd
   rw [List.drop_eq_getElem_cons (by omega:j<cur.length)] at hcd
   injection hd with hh1 hd1
   injection hcd with hh2 hd2
   have htake:hs.take (j+1)=hs.take j++ [h]:=by rw [List.take_succ_eq_append_getElem hj1,hh1]
   have hx:cur[j]? =some h:=by rw [Zaz (by omega),hh2]
   refine Zdj keep hm hX (k:=k) (by
     rw [hL]
     refine hr i j cur h hx hi hj1 hcl _ (fun hp=> ?_) fun hp=> ?_
     · refine WR.delL keep hm hX hs p tmOf hpOf hL id hr he hQ rest (j+1) i cur hd1 hj1 (by omega) hcl ?_ hd2
       rw [htake,List.filter_append,ht]
       simp [hp]
     · refine WR.delL keep hm hX hs p tmOf hpOf hL id hr he hQ rest (j+1) (i+1) (cur.set i h) hd1 hj1 (by omega) (by simpa using hcl) ?_ ?_
       · rw [htake,List.filter_append,←ht,List.take_succ_eq_append_getElem (by simp;omega)]
         simp [hp,List.take_set_of_le]
       · rw [List.drop_set_of_lt (by omega)];exact hd2)
theorem AFl9 {α:Type} {p:α→Bool}:∀ {hs:List α} {j:Nat},hs.findIdx? p=some j→j<hs.length∧hs.take j=(hs.take (j+1)).filter (fun x=> !p x)
 | [],j,h=>by simp at h
 | x::r,j,h=>by
   rw [Zeu] at h
   cases hp:p x with
   |true=>rw [hp] at h;simp at h;subst h;simp [hp]
   | false=>
     rw [hp] at h
     simp only [Zdb,if_false,Zan] at h
     obtain ⟨j',h1,rfl⟩:=h
     obtain ⟨h2,h3⟩:=AFl9 h1
     exact ⟨by simp;omega,by simp [hp,h3]⟩
theorem BDz9 {α:Type} {p:α→Bool} {hs:List α} (h:hs.findIdx? p=none):hs.filter (fun x=> !p x)=hs:=by
 have:=List.findIdx?_eq_none_iff.1 h
 exact List.filter_eq_self.2 fun x hx=>by rw [this x hx];rfl
def boxA (x:AV):Blk:=⟨[x],false,false,0⟩
theorem SCall.toSl {P:Program} {f k:Nat} {args:List AV} {hp hp':List Blk} {xs:List (List Dv)} (h:SCall P f args hp (.full k xs) hp'):SCall P f args hp (.d (.sl k xs)) hp':=by
 refine ⟨h.1,fun S X yv w m B hv vs hl hr=>CallsIn.mono (h.2 S X yv w m B hv vs hl hr) ?_⟩
 rintro e w' ⟨v,S',m',hv',he,h1,h2⟩
 have hrv:=h2.rv _ (Zbt ..)
 refine ⟨v,S',m',hv',he,h1,(h2.sub (List.sublist_cons_self _ _)).cons ?_ rfl⟩
 cases hrv with|full h=>exact .d h
theorem ASc9.pc {P:Program} {f k:Nat} (hc:ASc9 P f k) (xs:List (List Dv)) (hl:xs.length≤1000000) (hk:∀r∈xs,r.length=k):PCall P f [.d (.sl k xs)] (.d (.sl k xs)):=by
 have h:=hc xs hl
 cases xs with
 |nil=>exact PCall.semRes (x:= .full k []) (y:= .d (.sl k [])) (SemV.rows .nil) (h.toP (y:= .full k []) (.r (.v rfl)))
 |cons a r=>exact h.toP (.r (.gref rfl rfl rfl rfl rfl hk))
def GCG:List (Nat×(List AV→List Blk→(AV→List Blk→Prop)→Prop)):= [(1000000+59,fun _ _ _=>False)]
theorem AZu9:AAm9 prog GCG:=Zbs (fun _ _ _ h=>h.elim) Zah
theorem BKq9 (xs:List (List Dv)):wpFnS prog ⟨[],GCG,wl,y,false⟩ 100 f48 [.d (.sl 5 xs)] b Kr=(∀(t:Bool),(t=true→xs= [])→BIf t (Kr (Zac (Zdo (.slice none 0 0))) [] b) (BIf (true&&decide (Zaa xs*40≤140737488355328)) (BIf (decide (0<Zaa xs)) (Kr (Zbi 0 0 (Zaa xs) 5) [Blk.mk (flatA xs) false true 0] b) (Kr (Zez 5 []) [] b)) False)):=by kernel_rfl
theorem BEc9:ASc9 prog 48 5:=fun xs hl=>by
 refine Zgm (n:=100) (u:=false) (fun _=>fun _ _ _ _ _=>False) mixed Zak AZu9 (fun Ev _ _ _ _ _ h=>h.elim) func48 (by rfl) (by rfl) (by split<;>rfl) fun Ev bb=> ?_
 rw [BKq9]
 refine fun t ht=>Zbd (fun h=>by rw [ht h];exact ⟨.nilFull rfl,rfl⟩) fun h=>Zba (by simp<;>omega) ?_
 cases xs with
 |nil=>exact Zde rfl ⟨.rfl,rfl⟩
 |cons a xs=>exact Zba (by simp) ⟨.rfl,rfl⟩
theorem AFi9 (x:GraT):(graR x).length=5:=rfl
theorem AQg9 (l:List GraT):∀r∈rowsG l,r.length=5:=by
 intro r hr
 simp only [rowsG,Zbj] at hr
 obtain ⟨x,_,rfl⟩:=hr;rfl
def BOj9 (args:List AV) (K:AV→Prop):Prop:=∃l:List GraT,args= [.d (.sl 5 (rowsG l))]∧l.length≤1000000∧K (.d (.sl 5 (rowsG l)))
theorem BGd9:∀args K,BOj9 args K→∃x,PCall prog 48 args x∧K x:=by
 rintro _ K ⟨l,rfl,hl,hk⟩;exact ⟨_,ASc9.pc BEc9 (rowsG l) (by rw [AAg9];exact hl) (AQg9 l),hk⟩
def BBw9 (args:List AV) (hp:List Blk) (K:AV→List Blk→Prop):Prop:=∃(hs:List GraT),args= [.d (.sl 5 (rowsG hs))]∧hs.length≤1000000∧BIf hs.isEmpty (K (.d (.sl 5 [])) hp) (K (.gref hp.length 0 hs.length 5) (hp++ [growB 0 (flatA (rowsG hs))]))
theorem AQe9:∀args hp K,BBw9 args hp K→∃x hp',SCall prog 48 args hp x hp'∧K x hp':=by
 rintro _ hp K ⟨hs,rfl,hl,hK⟩
 have h1:=(BEc9 (rowsG hs) (by rw [AAg9];omega)).toS rfl hp
 cases hs with
 |nil=>exact ⟨_,_,SCall.toSl h1,by simpa [rowsG,AFt9,BIf] using hK⟩
 | cons a r=>
   refine ⟨_,_,h1, ?_⟩
   simpa [rowsG,shift,AFt9,AQb9,blkG,AGv9,BIf,growB] using hK
noncomputable def lpDfG:Code:=sub [1,1,1,0,1,2,3] (code f131)
def tmDfG (v n:Nat) (i j:Int):List AV:= [.gref 2 v n 5, .fn (.func 132) [] [.ptr 1 0, .ptr 0 0], .bad, .bad, .bad, .d (i64 i), .d (i64 j)]++Zap 35 .bad
def UDrG:List (Nat×(List AV→List Blk→(AV→List Blk→Prop)→Prop)):= [(1000000+59,fun _ _ _=>False),(132,lendC BGj9)]
theorem CCf9:AAm9 prog UDrG:=Zbs (fun _ _ _ h=>h.elim) (Zbs (AFe9 ARu9) Zah)
def hpDfG (fr:Int) (v':Nat) (cs:List AV):List Blk:= [boxA (.fn (.func 95) [] []),boxA (.fn (.func 96) [] [.rptr [i64 fr]]),growB v' cs]
abbrev Qz55 (v0:Int) (v1:Int):=Zac (i64 v0)::Zac (i64 v1)::bds 35 []
theorem rDfG (v' n:Nat) (i j fr:Int) (cs:List AV):wpc prog ⟨[],UDrG,wl,y,false⟩ 100 lpDfG (tmDfG v' n i j) (hpDfG fr v' cs) b (maskK 3 [0,1,5,6] K)=(v'=v'∧BIf (decide (j<(n:Int))) (v'=v'∧BIf (decide (0≤j)&&decide (j<(n:Int))) (v'=v'∧∃(x0:Int) (x1:Int) (x2:Int) (x3:Int) (x4:Int),Zbq 5 (Zcf (Zao j*5) cs)=(Qz25 x0 x1 x2 x3 x4)∧∃(x5:GraT) (fr6:Int) (q7:Bool), [Zar (Qz25 x0 x1 x2 x3 x4),Zag [Zcs (Fn.func 96) [Zdp [i64 fr]]],Zag [Zcs (Fn.func 95) []]]= [Zar (Qz7 x5),Zag [Zcs (Fn.func 96) [Zdp [i64 fr6]]],Zag [Zcs (Fn.func 95) []]]∧q7=decide (Zdx x5<fr6)∧BIf (!q7) (v'=v'∧BIf (decide (0≤i)&&decide (i<(n:Int))) (v'=v'∧BIf (decide (Zao i*5+5≤Zaa cs)) (BIf (Zbk [Blk.mk [Zaw (Fn.func 95) [] []] false false 0,Blk.mk [Zaw (Fn.func 96) [] [Zag [i64 fr]]] false false 0,Blk.mk (Zbq (Zao i*5) cs++(Qz25 x0 x1 x2 x3 x4)++Zcf (Zao i*5+5) cs) false true v'] fun (blk8:Blk)=>lows 3 blk8.1) (K .normal (Zbi 2 v' n 5::Zaw (Fn.func 132) [] [Zai 1 0,Zai 0 0]::bds 3 (Zac (i64 (Zae .i64 (i+1)))::Zac (i64 (Zae .i64 (j+1)))::bds 35 [])) [Blk.mk [Zaw (Fn.func 95) [] []] false false 0,Blk.mk [Zaw (Fn.func 96) [] [Zag [i64 fr]]] false false 0,Blk.mk (Zbq (Zao i*5) cs++(Qz25 x0 x1 x2 x3 x4)++Zcf (Zao i*5+5) cs) false true v'] b) False) False) False) (BIf (Zbk [Blk.mk [Zaw (Fn.func 95) [] []] false false 0,Blk.mk [Zaw (Fn.func 96) [] [Zag [i64 fr]]] false false 0,Blk.mk cs false true v'] fun (blk9:Blk)=>lows 3 blk9.1) (K .normal (Zbi 2 v' n 5::Zaw (Fn.func 132) [] [Zai 1 0,Zai 0 0]::bds 3 (Zac (i64 i)::Zac (i64 (Zae .i64 (j+1)))::bds 35 [])) [Blk.mk [Zaw (Fn.func 95) [] []] false false 0,Blk.mk [Zaw (Fn.func 96) [] [Zag [i64 fr]]] false false 0,Blk.mk cs false true v'] b) False)) False) (BIf (Zbk [Blk.mk [Zaw (Fn.func 95) [] []] false false 0,Blk.mk [Zaw (Fn.func 96) [] [Zag [i64 fr]]] false false 0,Blk.mk cs false true v'] fun (blk10:Blk)=>lows 3 blk10.1) (K (Zbn 0) (Zbi 2 v' n 5::Zaw (Fn.func 132) [] [Zai 1 0,Zai 0 0]::bds 3 (Qz55 i j)) [Blk.mk [Zaw (Fn.func 95) [] []] false false 0,Blk.mk [Zaw (Fn.func 96) [] [Zag [i64 fr]]] false false 0,Blk.mk cs false true v'] b) False)):=by kernel_rfl
theorem BEl9 (fr:Int) (v':Nat) (hs:List GraT):Zbk (hpDfG fr v' (flatA (rowsG hs))) (fun blk=>lows 3 blk.1)=true:=by
 simp only [hpDfG,List.all_cons,List.all_nil,Zfz,Zal]
 exact ⟨rfl,rfl,ACt9 3 _⟩
theorem wrDfG {Ev:Env prog} {b:Ev.β} {Q:Exit→St Ev.β→Prop} (v':Nat) (fr:Int) (hs:List GraT) (hl:hs.length<1000000)
   (hQ:∀cur:List GraT,cur.length=hs.length→cur.take (hs.filter fun x=> !(fun x:GraT=>decide (x.un<fr)) x).length=(hs.filter fun x=> !(fun x:GraT=>decide (x.un<fr)) x)→Q (.exit 0) ⟨tmDfG v' hs.length ((hs.filter fun x=> !(fun x:GraT=>decide (x.un<fr)) x).length:Nat) hs.length,hpDfG fr v' (flatA (rowsG cur)),b⟩)
   (j:Nat) (hj:hs.findIdx? (fun x:GraT=>decide (x.un<fr))=some j):WR Ev lpDfG ((hs.drop (j+1)).length+1) ⟨tmDfG v' hs.length (j:Nat) ((j+1:Nat):Int),hpDfG fr v' (flatA (rowsG hs)),b⟩ Q:=by
 obtain ⟨hj1,hj2⟩:=AFl9 hj
 refine WR.delL (X:=⟨[],UDrG,wlW Ev,Ev.Y,false⟩) (k:=100) (L:=3) [0,1,5,6] mixed (CX.Ok.of Zak CCf9) hs (fun x:GraT=>decide (x.un<fr)) (fun i j=>tmDfG v' hs.length (i:Nat) (j:Nat)) (fun c=>hpDfG fr v' (flatA (rowsG c))) (fun _=>rfl) 0 (fun i j cur x hx hi hj hcl K k1 k2=> ?_) (fun i cur K hcl k1=> ?_) hQ (hs.drop (j+1)) (j+1) j hs rfl hj1 (by omega) rfl hj2 rfl
 · refine Eq.mpr (rDfG _ _ _ K v' hs.length i j fr _) ?_
   refine ⟨rfl,Zba (by simp;omega) ⟨rfl,Zba (by simp;omega) ⟨rfl,_,_,_,_,_,by rw [Zcm];exact fl_at AFi9 hx,x,fr,_,rfl,rfl,Zbd (fun h1=> ?_) fun h1=> ?_⟩⟩⟩
   · rw [Zct] at h1
     have hk2:=k2 h1
     have e:=BTk9 AFi9 (hs:=cur) (i:=i) (by omega) x
     refine ⟨rfl,Zba (by simp;omega) ⟨rfl,Zba (by rw [Zcm];have:=AYl9 AFi9 cur;rw [show flatA (rowsG cur)=flatA (cur.map graR) from rfl,this];simp;omega) ?_⟩⟩
     rw [Zcm,wrapN (by omega),wrapN (by omega)]
     have hlow:=BEl9 fr v' (cur.set i x)
     simp only [hpDfG,rowsG] at hk2 hlow
     rw [←e] at hk2 hlow
     exact Zba hlow hk2
   · rw [Zee] at h1
     rw [wrapN (by omega)]
     exact Zba (BEl9 fr v' cur) (k1 h1)
 · refine Eq.mpr (rDfG _ _ _ K v' hs.length i hs.length fr _) ?_
   exact ⟨rfl,Zde (by simp) (Zba (BEl9 fr v' cur) k1)⟩
def BXj9 {β:Type}:WLT β:=fun c tm hp b K=>∃(v':Nat) (fr i j:Int) (hs out:List GraT),c= .loop lpDfG∧AAz9 [0,1,5,6] 0 tm=tmDfG v' hs.length i j∧hp=hpDfG fr v' (flatA (rowsG hs))∧(hs.length<1000000∧0≤i∧i=idxS (fun x:GraT=>decide (x.un<fr)) hs∧j=Zae Zbb (i+1)∧out=hs.filter fun x=> !(fun x:GraT=>decide (x.un<fr)) x)∧
 ∀(cur:List GraT),cur.length=hs.length→cur.take out.length=out→K (.exit 0) (tmDfG v' hs.length (out.length:Nat) hs.length) (hpDfG fr v' (flatA (rowsG cur))) b
theorem BIc9 {Ev:Env prog} (c:Code) (tm:List AV) (hp:List Blk) (b:Ev.β) (K:Exit→List AV→List Blk→Ev.β→Prop) (h:BXj9 c tm hp b K):W Ev c ⟨tm,hp,b⟩ (fun e s=>K e s.tm s.hp s.b):=by
 obtain ⟨v',fr,i,j,hs,_,rfl,htm,rfl,⟨hl,h0,hi,rfl,rfl⟩,hK⟩:=h
 cases hf:hs.findIdx? (fun x:GraT=>decide (x.un<fr)) with
 |none=>rw [AAy9 hf] at hi;omega
 | some j0=>
   rw [AAi9 hf] at hi
   subst hi
   have hj1:=(AFl9 hf).1
   rw [wrapN (by omega)] at htm
   refine W.cast (htm▸AAc9 _ tm 0) (Zby _) ?_
   exact W.rounds (wrDfG (Q:=fun e s=>K e s.tm s.hp s.b) v' fr hs hl hK j0 hf)
def TDfG:List (Nat×(List AV→(AV→Prop)→Prop)):= [(4000011,cNone)]
theorem BPd9:AAb9 prog TDfG:=Zaj (ABw9 _) Zak
def UDfG:List (Nat×(List AV→List Blk→(AV→List Blk→Prop)→Prop)):= [(1000000+59,fun _ _ _=>False),(54,lendC BFn9)]
theorem BPb9:AAm9 prog UDfG:=Zbs (fun _ _ _ h=>h.elim) (Zbs (AFe9 AYz9) Zah)
def wlDfG {β:Type} (y:ACw9 β):WLT β:=wlZ prog ⟨TDfG,UDfG,fun _ _ _ _ _=>False,y,false⟩ BXj9
theorem CAy9 (v' n:Nat) (fr:Int) (cs:List AV):wpc prog ⟨TDfG,UDfG,wlDfG y,y,false⟩ 100 (code f131) (ACd9 f131 [.gref 2 v' n 5, .fn (.func 132) [] [.ptr 1 0, .ptr 0 0]]) (hpDfG fr v' cs) b (fnKS prog f131 Kr)=(v'=v'∧∃(xs0:List (List Dv)),cs=flatA xs0∧Zaa xs0=n∧(∀(r:List Dv),r∈xs0→Zaa r=5)∧∃(l1:List GraT) (fr2:Int) (q3:Int), [Zac (Zaf 5 xs0),Zaw (Fn.func 132) [] [Zag [Zcs (Fn.func 96) [Zdp [i64 fr]]],Zag [Zcs (Fn.func 95) []]]]= [Zac (Zaf 5 (rowsG l1)),Zaw (Fn.func 132) [] [Zag [Zcs (Fn.func 96) [Zdp [i64 fr2]]],Zag [Zcs (Fn.func 95) []]]]∧(Zaa l1≤9223372036854775807∧q3=idxS (fun (x4:GraT)=>decide (Zdx x4<fr2)) l1)∧BIf (q3==(-1:Int)) (Kr (Zbi 2 v' n 5) [Blk.mk [Zaw (Fn.func 95) [] []] false false 0,Blk.mk [Zaw (Fn.func 96) [] [Zag [i64 fr]]] false false 0,Blk.mk cs false true v'] b) (∃(v5:Nat) (fr6:Int) (i7:Int) (j8:Int) (hs9:List GraT) (out10:List GraT),Zax lpDfG=Zax lpDfG∧(Zbi 2 v' n 5::Zaw (Fn.func 132) [] [Zai 1 0,Zai 0 0]::bds 3 (Zac (i64 q3)::Zac (i64 (Zae .i64 (q3+1)))::bds 35 []))=(Zbi 2 v5 (Zaa hs9) 5::Zaw (Fn.func 132) [] [Zai 1 0,Zai 0 0]::bds 3 (Qz55 i7 j8))∧ [Blk.mk [Zaw (Fn.func 95) [] []] false false 0,Blk.mk [Zaw (Fn.func 96) [] [Zag [i64 fr]]] false false 0,Blk.mk cs false true v']= [Blk.mk [Zaw (Fn.func 95) [] []] false false 0,Blk.mk [Zaw (Fn.func 96) [] [Zag [i64 fr6]]] false false 0,Blk.mk (flatA (rowsG hs9)) false true v5]∧(Zaa hs9<1000000∧(0:Int)≤i7∧i7=idxS (fun (x11:GraT)=>decide (Zdx x11<fr6)) hs9∧j8=Zae .i64 (i7+1)∧out10=Zcl (fun (x12:GraT)=> !decide (Zdx x12<fr6)) hs9)∧∀(cur:List GraT),Zaa cur=Zaa hs9→Zbq (Zaa out10) cur=out10→v5=v5∧BIf (true&&decide (((Zaa out10:Nat):Int)≤((Zaa hs9:Nat):Int))) (BIf (true&&decide (((Zaa out10:Nat):Int)≤((Zaa hs9:Nat):Int))) (v5=v5∧Kr (Zbi 2 (v5+1) (Zao ((Zaa out10:Nat):Int)) 5) [Blk.mk [Zaw (Fn.func 95) [] []] false false 0,Blk.mk [Zaw (Fn.func 96) [] [Zag [i64 fr6]]] false false 0,Blk.mk (Zbq (Zao ((Zaa out10:Nat):Int)*5) (Zbq (Zao ((Zaa out10:Nat):Int)*5) (flatA (rowsG cur))++flatA (Zap (Zaa hs9 - Zao ((Zaa out10:Nat):Int)) [i64 0,i64 0,i64 0,i64 0,i64 0]))) false true (v5+1)] b) False) False)):=by kernel_rfl
theorem BTy9 (fr:Int):wpc prog ⟨TDfG,UDfG,wlDfG y,y,false⟩ 100 (code f131) (ACd9 f131 [.d (.sl 5 []), .fn (.func 132) [] [.ptr 1 0, .ptr 0 0]]) [boxA (.fn (.func 95) [] []),boxA (.fn (.func 96) [] [.rptr [i64 fr]])] b (fnKS prog f131 Kr)=(∃(l0:List GraT) (fr1:Int) (q2:Int), [Zac (Zaf 5 []),Zaw (Fn.func 132) [] [Zag [Zcs (Fn.func 96) [Zdp [i64 fr]]],Zag [Zcs (Fn.func 95) []]]]= [Zac (Zaf 5 (rowsG l0)),Zaw (Fn.func 132) [] [Zag [Zcs (Fn.func 96) [Zdp [i64 fr1]]],Zag [Zcs (Fn.func 95) []]]]∧(Zaa l0≤9223372036854775807∧q2=idxS (fun (x3:GraT)=>decide (Zdx x3<fr1)) l0)∧BIf (q2==(-1:Int)) (Kr (Zac (Zaf 5 [])) [Blk.mk [Zaw (Fn.func 95) [] []] false false 0,Blk.mk [Zaw (Fn.func 96) [] [Zag [i64 fr]]] false false 0] b) (∃(v4:Nat) (fr5:Int) (i6:Int) (j7:Int) (hs8:List GraT) (out9:List GraT),Zax lpDfG=Zax lpDfG∧(Zac (Zaf 5 [])::Zaw (Fn.func 132) [] [Zai 1 0,Zai 0 0]::bds 3 (Zac (i64 q2)::Zac (i64 (Zae .i64 (q2+1)))::bds 35 []))=(Zbi 2 v4 (Zaa hs8) 5::Zaw (Fn.func 132) [] [Zai 1 0,Zai 0 0]::bds 3 (Qz55 i6 j7))∧ [Blk.mk [Zaw (Fn.func 95) [] []] false false 0,Blk.mk [Zaw (Fn.func 96) [] [Zag [i64 fr]]] false false 0]= [Blk.mk [Zaw (Fn.func 95) [] []] false false 0,Blk.mk [Zaw (Fn.func 96) [] [Zag [i64 fr5]]] false false 0,Blk.mk (flatA (rowsG hs8)) false true v4]∧(Zaa hs8<1000000∧(0:Int)≤i6∧i6=idxS (fun (x10:GraT)=>decide (Zdx x10<fr5)) hs8∧j7=Zae .i64 (i6+1)∧out9=Zcl (fun (x11:GraT)=> !decide (Zdx x11<fr5)) hs8)∧∀(cur:List GraT),Zaa cur=Zaa hs8→Zbq (Zaa out9) cur=out9→v4=v4∧BIf (true&&decide (((Zaa out9:Nat):Int)≤((Zaa hs8:Nat):Int))) (BIf (true&&decide (((Zaa out9:Nat):Int)≤((Zaa hs8:Nat):Int))) (v4=v4∧Kr (Zbi 2 (v4+1) (Zao ((Zaa out9:Nat):Int)) 5) [Blk.mk [Zaw (Fn.func 95) [] []] false false 0,Blk.mk [Zaw (Fn.func 96) [] [Zag [i64 fr5]]] false false 0,Blk.mk (Zbq (Zao ((Zaa out9:Nat):Int)*5) (Zbq (Zao ((Zaa out9:Nat):Int)*5) (flatA (rowsG cur))++flatA (Zap (Zaa hs8 - Zao ((Zaa out9:Nat):Int)) [i64 0,i64 0,i64 0,i64 0,i64 0]))) false true (v4+1)] b) False) False)):=by kernel_rfl
def GCA:List (Nat×(List AV→List Blk→(AV→List Blk→Prop)→Prop)):= [(1000000+63,fun _ _ _=>False)]
theorem AUk9:AAm9 prog GCA:=Zbs (fun _ _ _ h=>h.elim) Zah
theorem BKr9 (xs:List (List Dv)):wpFnS prog ⟨[],GCA,wl,y,false⟩ 100 f97 [.d (.sl 3 xs)] b Kr=(∀(t:Bool),(t=true→xs= [])→BIf t (Kr (Zac (Zdo (.slice none 0 0))) [] b) (BIf (true&&decide (Zaa xs*24≤140737488355328)) (BIf (decide (0<Zaa xs)) (Kr (Zbi 0 0 (Zaa xs) 3) [Blk.mk (flatA xs) false true 0] b) (Kr (Zez 3 []) [] b)) False)):=by kernel_rfl
theorem BEd9:ASc9 prog 97 3:=fun xs hl=>by
 refine Zgm (n:=100) (u:=false) (fun _=>fun _ _ _ _ _=>False) mixed Zak AUk9 (fun Ev _ _ _ _ _ h=>h.elim) func97 (by rfl) (by rfl) (by split<;>rfl) fun Ev bb=> ?_
 rw [BKr9]
 refine fun t ht=>Zbd (fun h=>by rw [ht h];exact ⟨.nilFull rfl,rfl⟩) fun h=>Zba (by simp<;>omega) ?_
 cases xs with
 |nil=>exact Zde rfl ⟨.rfl,rfl⟩
 |cons a xs=>exact Zba (by simp) ⟨.rfl,rfl⟩
theorem ALv9 (x:AskT):(askR x).length=3:=rfl
theorem AMq9 (l:List AskT):∀r∈rowsA l,r.length=3:=by
 intro r hr
 simp only [rowsA,Zbj] at hr
 obtain ⟨x,_,rfl⟩:=hr;rfl
def BOk9 (args:List AV) (K:AV→Prop):Prop:=∃l:List AskT,args= [.d (.sl 3 (rowsA l))]∧l.length≤1000000∧K (.d (.sl 3 (rowsA l)))
theorem BGe9:∀args K,BOk9 args K→∃x,PCall prog 97 args x∧K x:=by
 rintro _ K ⟨l,rfl,hl,hk⟩;exact ⟨_,ASc9.pc BEd9 (rowsA l) (by rw [AAp9];exact hl) (AMq9 l),hk⟩
def BMy9 (args:List AV) (hp:List Blk) (K:AV→List Blk→Prop):Prop:=∃(hs:List AskT),args= [.d (.sl 3 (rowsA hs))]∧hs.length≤1000000∧BIf hs.isEmpty (K (.d (.sl 3 [])) hp) (K (.gref hp.length 0 hs.length 3) (hp++ [growB 0 (flatA (rowsA hs))]))
theorem BBx9:∀args hp K,BMy9 args hp K→∃x hp',SCall prog 97 args hp x hp'∧K x hp':=by
 rintro _ hp K ⟨hs,rfl,hl,hK⟩
 have h1:=(BEd9 (rowsA hs) (by rw [AAp9];omega)).toS rfl hp
 cases hs with
 |nil=>exact ⟨_,_,SCall.toSl h1,by simpa [rowsA,AFt9,BIf] using hK⟩
 | cons a r=>
   refine ⟨_,_,h1, ?_⟩
   simpa [rowsA,shift,AFt9,AQb9,blkG,AGv9,BIf,growB] using hK
noncomputable def lpDfA:Code:=sub [1,1,1,0,1,2,3] (code f147)
def tmDfA (v n:Nat) (i j:Int):List AV:= [.gref 2 v n 3, .fn (.func 148) [] [.ptr 1 0, .ptr 0 0], .bad, .bad, .bad, .d (i64 i), .d (i64 j)]++Zap 35 .bad
def UDrA:List (Nat×(List AV→List Blk→(AV→List Blk→Prop)→Prop)):= [(1000000+63,fun _ _ _=>False),(148,lendC BGk9)]
theorem CCg9:AAm9 prog UDrA:=Zbs (fun _ _ _ h=>h.elim) (Zbs (AFe9 ARv9) Zah)
def hpDfA (sl:Int) (v':Nat) (cs:List AV):List Blk:= [boxA (.fn (.func 118) [] []),boxA (.fn (.func 138) [] [.rptr [i64 sl]]),growB v' cs]
theorem rDfA (v' n:Nat) (i j sl:Int) (cs:List AV):wpc prog ⟨[],UDrA,wl,y,false⟩ 100 lpDfA (tmDfA v' n i j) (hpDfA sl v' cs) b (maskK 3 [0,1,5,6] K)=(v'=v'∧BIf (decide (j<(n:Int))) (v'=v'∧BIf (decide (0≤j)&&decide (j<(n:Int))) (v'=v'∧∃(x0:Int) (x1:Int) (x2:Int),Zbq 3 (Zcf (Zao j*3) cs)=(Qz29 x0 x1 x2)∧∃(x3:AskT) (sl4:Int) (q5:Bool), [Zar (Qz29 x0 x1 x2),Zag [Zcs (Fn.func 138) [Zdp [i64 sl]]],Zag [Zcs (Fn.func 118) []]]= [Zar (Qz13 x3),Zag [Zcs (Fn.func 138) [Zdp [i64 sl4]]],Zag [Zcs (Fn.func 118) []]]∧q5=(Zda x3==sl4)∧BIf (!q5) (v'=v'∧BIf (decide (0≤i)&&decide (i<(n:Int))) (v'=v'∧BIf (decide (Zao i*3+3≤Zaa cs)) (BIf (Zbk [Blk.mk [Zaw (Fn.func 118) [] []] false false 0,Blk.mk [Zaw (Fn.func 138) [] [Zag [i64 sl]]] false false 0,Blk.mk (Zbq (Zao i*3) cs++(Qz29 x0 x1 x2)++Zcf (Zao i*3+3) cs) false true v'] fun (blk6:Blk)=>lows 3 blk6.1) (K .normal (Zbi 2 v' n 3::Zaw (Fn.func 148) [] [Zai 1 0,Zai 0 0]::bds 3 (Zac (i64 (Zae .i64 (i+1)))::Zac (i64 (Zae .i64 (j+1)))::bds 35 [])) [Blk.mk [Zaw (Fn.func 118) [] []] false false 0,Blk.mk [Zaw (Fn.func 138) [] [Zag [i64 sl]]] false false 0,Blk.mk (Zbq (Zao i*3) cs++(Qz29 x0 x1 x2)++Zcf (Zao i*3+3) cs) false true v'] b) False) False) False) (BIf (Zbk [Blk.mk [Zaw (Fn.func 118) [] []] false false 0,Blk.mk [Zaw (Fn.func 138) [] [Zag [i64 sl]]] false false 0,Blk.mk cs false true v'] fun (blk7:Blk)=>lows 3 blk7.1) (K .normal (Zbi 2 v' n 3::Zaw (Fn.func 148) [] [Zai 1 0,Zai 0 0]::bds 3 (Zac (i64 i)::Zac (i64 (Zae .i64 (j+1)))::bds 35 [])) [Blk.mk [Zaw (Fn.func 118) [] []] false false 0,Blk.mk [Zaw (Fn.func 138) [] [Zag [i64 sl]]] false false 0,Blk.mk cs false true v'] b) False)) False) (BIf (Zbk [Blk.mk [Zaw (Fn.func 118) [] []] false false 0,Blk.mk [Zaw (Fn.func 138) [] [Zag [i64 sl]]] false false 0,Blk.mk cs false true v'] fun (blk8:Blk)=>lows 3 blk8.1) (K (Zbn 0) (Zbi 2 v' n 3::Zaw (Fn.func 148) [] [Zai 1 0,Zai 0 0]::bds 3 (Qz55 i j)) [Blk.mk [Zaw (Fn.func 118) [] []] false false 0,Blk.mk [Zaw (Fn.func 138) [] [Zag [i64 sl]]] false false 0,Blk.mk cs false true v'] b) False)):=by kernel_rfl
theorem BEm9 (sl:Int) (v':Nat) (hs:List AskT):Zbk (hpDfA sl v' (flatA (rowsA hs))) (fun blk=>lows 3 blk.1)=true:=by
 simp only [hpDfA,List.all_cons,List.all_nil,Zfz,Zal]
 exact ⟨rfl,rfl,ACt9 3 _⟩
theorem wrDfA {Ev:Env prog} {b:Ev.β} {Q:Exit→St Ev.β→Prop} (v':Nat) (sl:Int) (hs:List AskT) (hl:hs.length<1000000)
   (hQ:∀cur:List AskT,cur.length=hs.length→cur.take (hs.filter fun x=> !(fun x:AskT=>x.sl==sl) x).length=(hs.filter fun x=> !(fun x:AskT=>x.sl==sl) x)→Q (.exit 0) ⟨tmDfA v' hs.length ((hs.filter fun x=> !(fun x:AskT=>x.sl==sl) x).length:Nat) hs.length,hpDfA sl v' (flatA (rowsA cur)),b⟩)
   (j:Nat) (hj:hs.findIdx? (fun x:AskT=>x.sl==sl)=some j):WR Ev lpDfA ((hs.drop (j+1)).length+1) ⟨tmDfA v' hs.length (j:Nat) ((j+1:Nat):Int),hpDfA sl v' (flatA (rowsA hs)),b⟩ Q:=by
 obtain ⟨hj1,hj2⟩:=AFl9 hj
 refine WR.delL (X:=⟨[],UDrA,wlW Ev,Ev.Y,false⟩) (k:=100) (L:=3) [0,1,5,6] mixed (CX.Ok.of Zak CCg9) hs (fun x:AskT=>x.sl==sl) (fun i j=>tmDfA v' hs.length (i:Nat) (j:Nat)) (fun c=>hpDfA sl v' (flatA (rowsA c))) (fun _=>rfl) 0 (fun i j cur x hx hi hj hcl K k1 k2=> ?_) (fun i cur K hcl k1=> ?_) hQ (hs.drop (j+1)) (j+1) j hs rfl hj1 (by omega) rfl hj2 rfl
 · refine Eq.mpr (rDfA _ _ _ K v' hs.length i j sl _) ?_
   refine ⟨rfl,Zba (by simp;omega) ⟨rfl,Zba (by simp;omega) ⟨rfl,_,_,_,by rw [Zcm];exact fl_at ALv9 hx,x,sl,_,rfl,rfl,Zbd (fun h1=> ?_) fun h1=> ?_⟩⟩⟩
   · rw [Zct] at h1
     have hk2:=k2 h1
     have e:=BTk9 ALv9 (hs:=cur) (i:=i) (by omega) x
     refine ⟨rfl,Zba (by simp;omega) ⟨rfl,Zba (by rw [Zcm];have:=AYl9 ALv9 cur;rw [show flatA (rowsA cur)=flatA (cur.map askR) from rfl,this];simp;omega) ?_⟩⟩
     rw [Zcm,wrapN (by omega),wrapN (by omega)]
     have hlow:=BEm9 sl v' (cur.set i x)
     simp only [hpDfA,rowsA] at hk2 hlow
     rw [←e] at hk2 hlow
     exact Zba hlow hk2
   · rw [Zee] at h1
     rw [wrapN (by omega)]
     exact Zba (BEm9 sl v' cur) (k1 h1)
 · refine Eq.mpr (rDfA _ _ _ K v' hs.length i hs.length sl _) ?_
   exact ⟨rfl,Zde (by simp) (Zba (BEm9 sl v' cur) k1)⟩
def BXk9 {β:Type}:WLT β:=fun c tm hp b K=>∃(v':Nat) (sl i j:Int) (hs out:List AskT),c= .loop lpDfA∧AAz9 [0,1,5,6] 0 tm=tmDfA v' hs.length i j∧hp=hpDfA sl v' (flatA (rowsA hs))∧(hs.length<1000000∧0≤i∧i=idxS (fun x:AskT=>x.sl==sl) hs∧j=Zae Zbb (i+1)∧out=hs.filter fun x=> !(fun x:AskT=>x.sl==sl) x)∧
 ∀(cur:List AskT),cur.length=hs.length→cur.take out.length=out→K (.exit 0) (tmDfA v' hs.length (out.length:Nat) hs.length) (hpDfA sl v' (flatA (rowsA cur))) b
theorem BId9 {Ev:Env prog} (c:Code) (tm:List AV) (hp:List Blk) (b:Ev.β) (K:Exit→List AV→List Blk→Ev.β→Prop) (h:BXk9 c tm hp b K):W Ev c ⟨tm,hp,b⟩ (fun e s=>K e s.tm s.hp s.b):=by
 obtain ⟨v',sl,i,j,hs,_,rfl,htm,rfl,⟨hl,h0,hi,rfl,rfl⟩,hK⟩:=h
 cases hf:hs.findIdx? (fun x:AskT=>x.sl==sl) with
 |none=>rw [AAy9 hf] at hi;omega
 | some j0=>
   rw [AAi9 hf] at hi
   subst hi
   have hj1:=(AFl9 hf).1
   rw [wrapN (by omega)] at htm
   refine W.cast (htm▸AAc9 _ tm 0) (Zby _) ?_
   exact W.rounds (wrDfA (Q:=fun e s=>K e s.tm s.hp s.b) v' sl hs hl hK j0 hf)
def TDfA:List (Nat×(List AV→(AV→Prop)→Prop)):= [(4000011,cNone)]
theorem BPe9:AAb9 prog TDfA:=Zaj (ABw9 _) Zak
def UDfA:List (Nat×(List AV→List Blk→(AV→List Blk→Prop)→Prop)):= [(1000000+63,fun _ _ _=>False),(90,lendC BFo9)]
theorem BPc9:AAm9 prog UDfA:=Zbs (fun _ _ _ h=>h.elim) (Zbs (AFe9 AZa9) Zah)
def wlDfA {β:Type} (y:ACw9 β):WLT β:=wlZ prog ⟨TDfA,UDfA,fun _ _ _ _ _=>False,y,false⟩ BXk9
theorem CBa9 (v' n:Nat) (sl:Int) (cs:List AV):wpc prog ⟨TDfA,UDfA,wlDfA y,y,false⟩ 100 (code f147) (ACd9 f147 [.gref 2 v' n 3, .fn (.func 148) [] [.ptr 1 0, .ptr 0 0]]) (hpDfA sl v' cs) b (fnKS prog f147 Kr)=(v'=v'∧∃(xs0:List (List Dv)),cs=flatA xs0∧Zaa xs0=n∧(∀(r:List Dv),r∈xs0→Zaa r=3)∧∃(l1:List AskT) (sl2:Int) (q3:Int), [Zac (Zaf 3 xs0),Zaw (Fn.func 148) [] [Zag [Zcs (Fn.func 138) [Zdp [i64 sl]]],Zag [Zcs (Fn.func 118) []]]]= [Zac (Zaf 3 (rowsA l1)),Zaw (Fn.func 148) [] [Zag [Zcs (Fn.func 138) [Zdp [i64 sl2]]],Zag [Zcs (Fn.func 118) []]]]∧(Zaa l1≤9223372036854775807∧q3=idxS (fun (x4:AskT)=>Zda x4==sl2) l1)∧BIf (q3==(-1:Int)) (Kr (Zbi 2 v' n 3) [Blk.mk [Zaw (Fn.func 118) [] []] false false 0,Blk.mk [Zaw (Fn.func 138) [] [Zag [i64 sl]]] false false 0,Blk.mk cs false true v'] b) (∃(v5:Nat) (sl6:Int) (i7:Int) (j8:Int) (hs9:List AskT) (out10:List AskT),Zax lpDfA=Zax lpDfA∧(Zbi 2 v' n 3::Zaw (Fn.func 148) [] [Zai 1 0,Zai 0 0]::bds 3 (Zac (i64 q3)::Zac (i64 (Zae .i64 (q3+1)))::bds 35 []))=(Zbi 2 v5 (Zaa hs9) 3::Zaw (Fn.func 148) [] [Zai 1 0,Zai 0 0]::bds 3 (Qz55 i7 j8))∧ [Blk.mk [Zaw (Fn.func 118) [] []] false false 0,Blk.mk [Zaw (Fn.func 138) [] [Zag [i64 sl]]] false false 0,Blk.mk cs false true v']= [Blk.mk [Zaw (Fn.func 118) [] []] false false 0,Blk.mk [Zaw (Fn.func 138) [] [Zag [i64 sl6]]] false false 0,Blk.mk (flatA (rowsA hs9)) false true v5]∧(Zaa hs9<1000000∧(0:Int)≤i7∧i7=idxS (fun (x11:AskT)=>Zda x11==sl6) hs9∧j8=Zae .i64 (i7+1)∧out10=Zcl (fun (x12:AskT)=> !AskT.sl x12==sl6) hs9)∧∀(cur:List AskT),Zaa cur=Zaa hs9→Zbq (Zaa out10) cur=out10→v5=v5∧BIf (true&&decide (((Zaa out10:Nat):Int)≤((Zaa hs9:Nat):Int))) (BIf (true&&decide (((Zaa out10:Nat):Int)≤((Zaa hs9:Nat):Int))) (v5=v5∧Kr (Zbi 2 (v5+1) (Zao ((Zaa out10:Nat):Int)) 3) [Blk.mk [Zaw (Fn.func 118) [] []] false false 0,Blk.mk [Zaw (Fn.func 138) [] [Zag [i64 sl6]]] false false 0,Blk.mk (Zbq (Zao ((Zaa out10:Nat):Int)*3) (Zbq (Zao ((Zaa out10:Nat):Int)*3) (flatA (rowsA cur))++flatA (Zap (Zaa hs9 - Zao ((Zaa out10:Nat):Int)) [i64 0,i64 0,i64 0]))) false true (v5+1)] b) False) False)):=by kernel_rfl
theorem BTz9 (sl:Int):wpc prog ⟨TDfA,UDfA,wlDfA y,y,false⟩ 100 (code f147) (ACd9 f147 [.d (.sl 3 []), .fn (.func 148) [] [.ptr 1 0, .ptr 0 0]]) [boxA (.fn (.func 118) [] []),boxA (.fn (.func 138) [] [.rptr [i64 sl]])] b (fnKS prog f147 Kr)=(∃(l0:List AskT) (sl1:Int) (q2:Int), [Zac (Zaf 3 []),Zaw (Fn.func 148) [] [Zag [Zcs (Fn.func 138) [Zdp [i64 sl]]],Zag [Zcs (Fn.func 118) []]]]= [Zac (Zaf 3 (rowsA l0)),Zaw (Fn.func 148) [] [Zag [Zcs (Fn.func 138) [Zdp [i64 sl1]]],Zag [Zcs (Fn.func 118) []]]]∧(Zaa l0≤9223372036854775807∧q2=idxS (fun (x3:AskT)=>Zda x3==sl1) l0)∧BIf (q2==(-1:Int)) (Kr (Zac (Zaf 3 [])) [Blk.mk [Zaw (Fn.func 118) [] []] false false 0,Blk.mk [Zaw (Fn.func 138) [] [Zag [i64 sl]]] false false 0] b) (∃(v4:Nat) (sl5:Int) (i6:Int) (j7:Int) (hs8:List AskT) (out9:List AskT),Zax lpDfA=Zax lpDfA∧(Zac (Zaf 3 [])::Zaw (Fn.func 148) [] [Zai 1 0,Zai 0 0]::bds 3 (Zac (i64 q2)::Zac (i64 (Zae .i64 (q2+1)))::bds 35 []))=(Zbi 2 v4 (Zaa hs8) 3::Zaw (Fn.func 148) [] [Zai 1 0,Zai 0 0]::bds 3 (Qz55 i6 j7))∧ [Blk.mk [Zaw (Fn.func 118) [] []] false false 0,Blk.mk [Zaw (Fn.func 138) [] [Zag [i64 sl]]] false false 0]= [Blk.mk [Zaw (Fn.func 118) [] []] false false 0,Blk.mk [Zaw (Fn.func 138) [] [Zag [i64 sl5]]] false false 0,Blk.mk (flatA (rowsA hs8)) false true v4]∧(Zaa hs8<1000000∧(0:Int)≤i6∧i6=idxS (fun (x10:AskT)=>Zda x10==sl5) hs8∧j7=Zae .i64 (i6+1)∧out9=Zcl (fun (x11:AskT)=> !AskT.sl x11==sl5) hs8)∧∀(cur:List AskT),Zaa cur=Zaa hs8→Zbq (Zaa out9) cur=out9→v4=v4∧BIf (true&&decide (((Zaa out9:Nat):Int)≤((Zaa hs8:Nat):Int))) (BIf (true&&decide (((Zaa out9:Nat):Int)≤((Zaa hs8:Nat):Int))) (v4=v4∧Kr (Zbi 2 (v4+1) (Zao ((Zaa out9:Nat):Int)) 3) [Blk.mk [Zaw (Fn.func 118) [] []] false false 0,Blk.mk [Zaw (Fn.func 138) [] [Zag [i64 sl5]]] false false 0,Blk.mk (Zbq (Zao ((Zaa out9:Nat):Int)*3) (Zbq (Zao ((Zaa out9:Nat):Int)*3) (flatA (rowsA cur))++flatA (Zap (Zaa hs8 - Zao ((Zaa out9:Nat):Int)) [i64 0,i64 0,i64 0]))) false true (v4+1)] b) False) False)):=by kernel_rfl
def GCU:List (Nat×(List AV→List Blk→(AV→List Blk→Prop)→Prop)):= [(1000000+61,fun _ _ _=>False)]
theorem BWb9:AAm9 prog GCU:=Zbs (fun _ _ _ h=>h.elim) Zah
theorem BKp9 (xs:List (List Dv)):wpFnS prog ⟨[],GCU,wl,y,false⟩ 100 f93 [.d (.sl 4 xs)] b Kr=(∀(t:Bool),(t=true→xs= [])→BIf t (Kr (Zac (Zdo (.slice none 0 0))) [] b) (BIf (true&&decide (Zaa xs*32≤140737488355328)) (BIf (decide (0<Zaa xs)) (Kr (Zbi 0 0 (Zaa xs) 4) [Blk.mk (flatA xs) false true 0] b) (Kr (Zez 4 []) [] b)) False)):=by kernel_rfl
theorem BTn9:ASc9 prog 93 4:=fun xs hl=>by
 refine Zgm (n:=100) (u:=false) (fun _=>fun _ _ _ _ _=>False) mixed Zak BWb9 (fun Ev _ _ _ _ _ h=>h.elim) func93 (by rfl) (by rfl) (by split<;>rfl) fun Ev bb=> ?_
 rw [BKp9]
 refine fun t ht=>Zbd (fun h=>by rw [ht h];exact ⟨.nilFull rfl,rfl⟩) fun h=>Zba (by simp<;>omega) ?_
 cases xs with
 |nil=>exact Zde rfl ⟨.rfl,rfl⟩
 |cons a xs=>exact Zba (by simp) ⟨.rfl,rfl⟩
theorem BMz9 (l:List UseT):∀r∈rowsU l,r.length=4:=by
 intro r hr
 simp only [rowsU,Zbj] at hr
 obtain ⟨x,_,rfl⟩:=hr;rfl
def BGc9 (args:List AV) (K:AV→Prop):Prop:=∃l:List UseT,args= [.d (.sl 4 (rowsU l))]∧l.length≤1000000∧K (.d (.sl 4 (rowsU l)))
theorem ARt9:∀args K,BGc9 args K→∃x,PCall prog 93 args x∧K x:=by
 rintro _ K ⟨l,rfl,hl,hk⟩;exact ⟨_,ASc9.pc BTn9 (rowsU l) (by rw [AAj9];exact hl) (BMz9 l),hk⟩
theorem AVq9:Tryz.f131.body=some (code f131):=by rfl
def delVG (v':Nat) (fr:Int) (hs:List GraT):Nat:=if (hs.findIdx? (fun x:GraT=>decide (x.un<fr))).isSome then v'+1 else v'
theorem CAz9 (Ev:Env prog):CX.Ok Ev ⟨TDfG,UDfG,wlDfG Ev.Y,Ev.Y,false⟩:=
 CX.Ok.ofWl BPd9 BPb9 (BWp9 (X:=⟨TDfG,UDfG,fun _ _ _ _ _=>False,Ev.Y,false⟩) (CX.Ok.ofWl BPd9 BPb9 fun _ _ _ _ _ h=>h.elim) BIc9)
theorem BYa9 (fr:Int):SCall prog 131 [.d (.sl 5 []), .fn (.func 132) [] [.ptr 1 0, .ptr 0 0]] [boxA (.fn (.func 95) [] []),boxA (.fn (.func 96) [] [.rptr [i64 fr]])] (.d (.sl 5 [])) [boxA (.fn (.func 95) [] []),boxA (.fn (.func 96) [] [.rptr [i64 fr]])]:=by
 refine Zgd func131 AVq9 (by rfl) fun Ev b=> ?_
 refine AAu9 (X:=⟨TDfG,UDfG,wlDfG Ev.Y,Ev.Y,false⟩) (n:=100) mixed (CAz9 Ev) ?_ fun e tm hp b hK=>AEp9 hK
 rw [BTy9]
 exact ⟨[],fr, -1,rfl,⟨by simp,rfl⟩,Zba (by decide) ⟨rfl,rfl⟩⟩
theorem CDg9 (v':Nat) (fr:Int) (hs:List GraT) (hl:hs.length<1000000):
   SCall prog 131 [.gref 2 v' hs.length 5, .fn (.func 132) [] [.ptr 1 0, .ptr 0 0]] (hpDfG fr v' (flatA (rowsG hs))) (.gref 2 (delVG v' fr hs) (hs.filter (fun x:GraT=> !(fun x:GraT=>decide (x.un<fr)) x)).length 5) (hpDfG fr (delVG v' fr hs) (flatA (rowsG (hs.filter (fun x:GraT=> !(fun x:GraT=>decide (x.un<fr)) x))))):=by
 refine Zgd func131 AVq9 (by rfl) fun Ev b=> ?_
 refine AAu9 (X:=⟨TDfG,UDfG,wlDfG Ev.Y,Ev.Y,false⟩) (n:=100) mixed (CAz9 Ev) ?_ fun e tm hp b hK=>AEp9 hK
 refine Eq.mpr (CAy9 _ _ _ v' hs.length fr _) ?_
 refine ⟨rfl,rowsG hs,rfl,AAg9 hs,AQg9 hs,hs,fr,_,rfl,⟨by omega,rfl⟩,Zbd (fun h1=> ?_) fun h1=> ?_⟩
 · have hn:hs.findIdx? (fun x:GraT=>decide (x.un<fr))=none:=by
     cases hf:hs.findIdx? (fun x:GraT=>decide (x.un<fr)) with
     |none=>rfl
     |some j=>rw [AAi9 hf] at h1;simp at h1
   rw [delVG,hn,BDz9 hn]
   exact ⟨rfl,rfl⟩
 · cases hf:hs.findIdx? (fun x:GraT=>decide (x.un<fr)) with
   |none=>rw [AAy9 hf] at h1;simp at h1
   | some j=>
     have hle:(hs.filter (fun x:GraT=> !(fun x:GraT=>decide (x.un<fr)) x)).length≤hs.length:=Zep _ _
     refine ⟨v',fr,_,_,hs,_,rfl,rfl,rfl,⟨hl,by rw [AAi9 hf];omega,rfl,rfl,rfl⟩,fun cur hcl hct=>⟨rfl,Zba (by simp;exact hle) (Zba (by simp;exact hle) ⟨rfl, ?_⟩)⟩⟩
     rw [Zcm,delVG,hf]
     refine ⟨rfl, ?_⟩
     have hcur:flatA (rowsG cur)=flatA (cur.map graR):=rfl
     have e:((flatA (rowsG cur)).take ((hs.filter (fun x:GraT=> !(fun x:GraT=>decide (x.un<fr)) x)).length*5)).length=(hs.filter (fun x:GraT=> !(fun x:GraT=>decide (x.un<fr)) x)).length*5:=by
       rw [Zcb,hcur,AYl9 AFi9,hcl];omega
     rw [Zer (by rw [e];exact Zav _),List.take_take,Nat.min_self,hcur,ARm9 AFi9,hct]
     rfl
def sDelG (args:List AV) (hp:List Blk) (K:AV→List Blk→Prop):Prop:=match hp with
 | [b0,b1]=>∃(fr:Int),args= [.d (.sl 5 []), .fn (.func 132) [] [.ptr 1 0, .ptr 0 0]]∧b0=boxA (.fn (.func 95) [] [])∧b1=boxA (.fn (.func 96) [] [.rptr [i64 fr]])∧K (.d (.sl 5 [])) [boxA (.fn (.func 95) [] []),boxA (.fn (.func 96) [] [.rptr [i64 fr]])]
 | [b0,b1,b2]=>∃(v' n:Nat) (fr:Int) (hs out:List GraT),args= [.gref 2 v' n 5, .fn (.func 132) [] [.ptr 1 0, .ptr 0 0]]∧b0=boxA (.fn (.func 95) [] [])∧b1=boxA (.fn (.func 96) [] [.rptr [i64 fr]])∧b2=growB v' (flatA (rowsG hs))∧(n=hs.length∧hs.length<1000000∧out=hs.filter (fun x:GraT=> !(fun x:GraT=>decide (x.un<fr)) x))∧
   ∀v',K (.gref 2 v' out.length 5) [boxA (.fn (.func 95) [] []),boxA (.fn (.func 96) [] [.rptr [i64 fr]]),growB v' (flatA (rowsG out))]
 |_=>False
theorem BQy9:∀args hp K,sDelG args hp K→∃x hp',SCall prog 131 args hp x hp'∧K x hp':=by
 intro args hp K h
 unfold sDelG at h
 split at h
 · obtain ⟨fr,rfl,rfl,rfl,h⟩:=h
   exact ⟨_,_,BYa9 fr,h⟩
 · obtain ⟨v',_,fr,hs,_,rfl,rfl,rfl,rfl,⟨rfl,hl,rfl⟩,h⟩:=h
   exact ⟨_,_,CDg9 v' fr hs hl,h _⟩
 · exact h.elim
def UWoG:List (Nat×(List AV→List Blk→(AV→List Blk→Prop)→Prop)):= [(1000000+59,fun _ _ _=>False),(48,BBw9),(131,sDelG)]
theorem CCb9:AAm9 prog UWoG:=Zbs (fun _ _ _ h=>h.elim) (Zbs AQe9 (Zbs BQy9 Zah))
theorem CDb9 (hs:List GraT) (fr:Int):wpFn prog ⟨[],UWoG,wl,y,false⟩ 100 f94 [.d (.sl 5 (rowsG hs)), .fn (.func 95) [] [], .fn (.func 96) [] [.rptr [i64 fr]]] b R=(∃(hs0:List GraT), [Zac (Zaf 5 (rowsG hs))]= [Zac (Zaf 5 (rowsG hs0))]∧Zaa hs0≤1000000∧BIf (Zfp hs0) (∃(fr1:Int), [Zac (Zaf 5 []),Zaw (Fn.func 132) [] [Zai 1 0,Zai 0 0]]= [Zac (Zaf 5 []),Zaw (Fn.func 132) [] [Zai 1 0,Zai 0 0]]∧Blk.mk [Zaw (Fn.func 95) [] []] false false 0=Blk.mk [Zaw (Fn.func 95) [] []] false false 0∧Blk.mk [Zaw (Fn.func 96) [] [Zag [i64 fr]]] false false 0=Blk.mk [Zaw (Fn.func 96) [] [Zag [i64 fr1]]] false false 0∧R (.d (Zaf 5 [])) b) (∃(v2:Nat) (n3:Nat) (fr4:Int) (hs5:List GraT) (out6:List GraT), [Zbi 2 0 (Zaa hs0) 5,Zaw (Fn.func 132) [] [Zai 1 0,Zai 0 0]]= [Zbi 2 v2 n3 5,Zaw (Fn.func 132) [] [Zai 1 0,Zai 0 0]]∧Blk.mk [Zaw (Fn.func 95) [] []] false false 0=Blk.mk [Zaw (Fn.func 95) [] []] false false 0∧Blk.mk [Zaw (Fn.func 96) [] [Zag [i64 fr]]] false false 0=Blk.mk [Zaw (Fn.func 96) [] [Zag [i64 fr4]]] false false 0∧Blk.mk (flatA (rowsG hs0)) false true 0=Blk.mk (flatA (rowsG hs5)) false true v2∧(n3=Zaa hs5∧Zaa hs5<1000000∧out6=Zcl (fun (x7:GraT)=> !decide (Zdx x7<fr4)) hs5)∧∀(v':Nat),v'=v'∧∃(xs8:List (List Dv)),flatA (rowsG out6)=flatA xs8∧Zaa xs8=Zaa out6∧(∀(r:List Dv),r∈xs8→Zaa r=5)∧R (.d (Zaf 5 xs8)) b)):=by kernel_rfl
theorem pcWoG (hs:List GraT) (fr:Int) (hl:hs.length<1000000):PCall prog 94 [.d (.sl 5 (rowsG hs)), .fn (.func 95) [] [], .fn (.func 96) [] [.rptr [i64 fr]]] (.d (.sl 5 (rowsG (hs.filter (fun x:GraT=> !(fun x:GraT=>decide (x.un<fr)) x))))):=by
 refine Zbg (n:=100) (u:=false) mixed Zak CCb9 func94 (by rfl) (by rfl) fun Ev bb=> ?_
 rw [CDb9]
 refine ⟨hs,rfl,by omega,Zbd (fun h1=> ?_) fun h1=> ?_⟩
 · have h2:hs= []:=List.isEmpty_iff.1 h1
   subst h2
   exact ⟨fr,rfl,rfl,rfl,rfl⟩
 · refine ⟨0,_,fr,hs,_,rfl,rfl,rfl,rfl,⟨rfl,hl,rfl⟩,fun v'=>⟨rfl,rowsG (hs.filter (fun x:GraT=> !(fun x:GraT=>decide (x.un<fr)) x)),rfl,AAg9 _,AQg9 _,rfl⟩⟩
def cWoG (args:List AV) (K:AV→Prop):Prop:=∃(hs z:List GraT) (fr:Int),args= [.d (.sl 5 (rowsG hs)), .fn (.func 95) [] [], .fn (.func 96) [] [.rptr [i64 fr]]]∧(hs.length<1000000∧z=hs.filter (fun x:GraT=> !(fun x:GraT=>decide (x.un<fr)) x))∧K (.d (.sl 5 (rowsG z)))
theorem CBe9:∀args K,cWoG args K→∃x,PCall prog 94 args x∧K x:=by
 rintro _ K ⟨hs,_,fr,rfl,⟨hl,rfl⟩,hk⟩;exact ⟨_,pcWoG hs fr hl,hk⟩
theorem AVr9:Tryz.f147.body=some (code f147):=by rfl
def delVA (v':Nat) (sl:Int) (hs:List AskT):Nat:=if (hs.findIdx? (fun x:AskT=>x.sl==sl)).isSome then v'+1 else v'
theorem CBb9 (Ev:Env prog):CX.Ok Ev ⟨TDfA,UDfA,wlDfA Ev.Y,Ev.Y,false⟩:=
 CX.Ok.ofWl BPe9 BPc9 (BWp9 (X:=⟨TDfA,UDfA,fun _ _ _ _ _=>False,Ev.Y,false⟩) (CX.Ok.ofWl BPe9 BPc9 fun _ _ _ _ _ h=>h.elim) BId9)
theorem BYb9 (sl:Int):SCall prog 147 [.d (.sl 3 []), .fn (.func 148) [] [.ptr 1 0, .ptr 0 0]] [boxA (.fn (.func 118) [] []),boxA (.fn (.func 138) [] [.rptr [i64 sl]])] (.d (.sl 3 [])) [boxA (.fn (.func 118) [] []),boxA (.fn (.func 138) [] [.rptr [i64 sl]])]:=by
 refine Zgd func147 AVr9 (by rfl) fun Ev b=> ?_
 refine AAu9 (X:=⟨TDfA,UDfA,wlDfA Ev.Y,Ev.Y,false⟩) (n:=100) mixed (CBb9 Ev) ?_ fun e tm hp b hK=>AEp9 hK
 rw [BTz9]
 exact ⟨[],sl, -1,rfl,⟨by simp,rfl⟩,Zba (by decide) ⟨rfl,rfl⟩⟩
theorem CDh9 (v':Nat) (sl:Int) (hs:List AskT) (hl:hs.length<1000000):
   SCall prog 147 [.gref 2 v' hs.length 3, .fn (.func 148) [] [.ptr 1 0, .ptr 0 0]] (hpDfA sl v' (flatA (rowsA hs))) (.gref 2 (delVA v' sl hs) (hs.filter (fun x:AskT=> !(fun x:AskT=>x.sl==sl) x)).length 3) (hpDfA sl (delVA v' sl hs) (flatA (rowsA (hs.filter (fun x:AskT=> !(fun x:AskT=>x.sl==sl) x))))):=by
 refine Zgd func147 AVr9 (by rfl) fun Ev b=> ?_
 refine AAu9 (X:=⟨TDfA,UDfA,wlDfA Ev.Y,Ev.Y,false⟩) (n:=100) mixed (CBb9 Ev) ?_ fun e tm hp b hK=>AEp9 hK
 refine Eq.mpr (CBa9 _ _ _ v' hs.length sl _) ?_
 refine ⟨rfl,rowsA hs,rfl,AAp9 hs,AMq9 hs,hs,sl,_,rfl,⟨by omega,rfl⟩,Zbd (fun h1=> ?_) fun h1=> ?_⟩
 · have hn:hs.findIdx? (fun x:AskT=>x.sl==sl)=none:=by
     cases hf:hs.findIdx? (fun x:AskT=>x.sl==sl) with
     |none=>rfl
     |some j=>rw [AAi9 hf] at h1;simp at h1
   rw [delVA,hn,BDz9 hn]
   exact ⟨rfl,rfl⟩
 · cases hf:hs.findIdx? (fun x:AskT=>x.sl==sl) with
   |none=>rw [AAy9 hf] at h1;simp at h1
   | some j=>
     have hle:(hs.filter (fun x:AskT=> !(fun x:AskT=>x.sl==sl) x)).length≤hs.length:=Zep _ _
     refine ⟨v',sl,_,_,hs,_,rfl,rfl,rfl,⟨hl,by rw [AAi9 hf];omega,rfl,rfl,rfl⟩,fun cur hcl hct=>⟨rfl,Zba (by simp;exact hle) (Zba (by simp;exact hle) ⟨rfl, ?_⟩)⟩⟩
     rw [Zcm,delVA,hf]
     refine ⟨rfl, ?_⟩
     have hcur:flatA (rowsA cur)=flatA (cur.map askR):=rfl
     have e:((flatA (rowsA cur)).take ((hs.filter (fun x:AskT=> !(fun x:AskT=>x.sl==sl) x)).length*3)).length=(hs.filter (fun x:AskT=> !(fun x:AskT=>x.sl==sl) x)).length*3:=by
       rw [Zcb,hcur,AYl9 ALv9,hcl];omega
     rw [Zer (by rw [e];exact Zav _),List.take_take,Nat.min_self,hcur,ARm9 ALv9,hct]
     rfl
def sDelA (args:List AV) (hp:List Blk) (K:AV→List Blk→Prop):Prop:=match hp with
 | [b0,b1]=>∃(sl:Int),args= [.d (.sl 3 []), .fn (.func 148) [] [.ptr 1 0, .ptr 0 0]]∧b0=boxA (.fn (.func 118) [] [])∧b1=boxA (.fn (.func 138) [] [.rptr [i64 sl]])∧K (.d (.sl 3 [])) [boxA (.fn (.func 118) [] []),boxA (.fn (.func 138) [] [.rptr [i64 sl]])]
 | [b0,b1,b2]=>∃(v' n:Nat) (sl:Int) (hs out:List AskT),args= [.gref 2 v' n 3, .fn (.func 148) [] [.ptr 1 0, .ptr 0 0]]∧b0=boxA (.fn (.func 118) [] [])∧b1=boxA (.fn (.func 138) [] [.rptr [i64 sl]])∧b2=growB v' (flatA (rowsA hs))∧(n=hs.length∧hs.length<1000000∧out=hs.filter (fun x:AskT=> !(fun x:AskT=>x.sl==sl) x))∧
   ∀v',K (.gref 2 v' out.length 3) [boxA (.fn (.func 118) [] []),boxA (.fn (.func 138) [] [.rptr [i64 sl]]),growB v' (flatA (rowsA out))]
 |_=>False
theorem BQz9:∀args hp K,sDelA args hp K→∃x hp',SCall prog 147 args hp x hp'∧K x hp':=by
 intro args hp K h
 unfold sDelA at h
 split at h
 · obtain ⟨sl,rfl,rfl,rfl,h⟩:=h
   exact ⟨_,_,BYb9 sl,h⟩
 · obtain ⟨v',_,sl,hs,_,rfl,rfl,rfl,rfl,⟨rfl,hl,rfl⟩,h⟩:=h
   exact ⟨_,_,CDh9 v' sl hs hl,h _⟩
 · exact h.elim
def UWoA:List (Nat×(List AV→List Blk→(AV→List Blk→Prop)→Prop)):= [(1000000+63,fun _ _ _=>False),(97,BMy9),(147,sDelA)]
theorem CCc9:AAm9 prog UWoA:=Zbs (fun _ _ _ h=>h.elim) (Zbs BBx9 (Zbs BQz9 Zah))
theorem CDc9 (hs:List AskT) (sl:Int):wpFn prog ⟨[],UWoA,wl,y,false⟩ 100 f137 [.d (.sl 3 (rowsA hs)), .fn (.func 118) [] [], .fn (.func 138) [] [.rptr [i64 sl]]] b R=(∃(hs0:List AskT), [Zac (Zaf 3 (rowsA hs))]= [Zac (Zaf 3 (rowsA hs0))]∧Zaa hs0≤1000000∧BIf (Zfp hs0) (∃(sl1:Int), [Zac (Zaf 3 []),Zaw (Fn.func 148) [] [Zai 1 0,Zai 0 0]]= [Zac (Zaf 3 []),Zaw (Fn.func 148) [] [Zai 1 0,Zai 0 0]]∧Blk.mk [Zaw (Fn.func 118) [] []] false false 0=Blk.mk [Zaw (Fn.func 118) [] []] false false 0∧Blk.mk [Zaw (Fn.func 138) [] [Zag [i64 sl]]] false false 0=Blk.mk [Zaw (Fn.func 138) [] [Zag [i64 sl1]]] false false 0∧R (.d (Zaf 3 [])) b) (∃(v2:Nat) (n3:Nat) (sl4:Int) (hs5:List AskT) (out6:List AskT), [Zbi 2 0 (Zaa hs0) 3,Zaw (Fn.func 148) [] [Zai 1 0,Zai 0 0]]= [Zbi 2 v2 n3 3,Zaw (Fn.func 148) [] [Zai 1 0,Zai 0 0]]∧Blk.mk [Zaw (Fn.func 118) [] []] false false 0=Blk.mk [Zaw (Fn.func 118) [] []] false false 0∧Blk.mk [Zaw (Fn.func 138) [] [Zag [i64 sl]]] false false 0=Blk.mk [Zaw (Fn.func 138) [] [Zag [i64 sl4]]] false false 0∧Blk.mk (flatA (rowsA hs0)) false true 0=Blk.mk (flatA (rowsA hs5)) false true v2∧(n3=Zaa hs5∧Zaa hs5<1000000∧out6=Zcl (fun (x7:AskT)=> !AskT.sl x7==sl4) hs5)∧∀(v':Nat),v'=v'∧∃(xs8:List (List Dv)),flatA (rowsA out6)=flatA xs8∧Zaa xs8=Zaa out6∧(∀(r:List Dv),r∈xs8→Zaa r=3)∧R (.d (Zaf 3 xs8)) b)):=by kernel_rfl
theorem pcWoA (hs:List AskT) (sl:Int) (hl:hs.length<1000000):PCall prog 137 [.d (.sl 3 (rowsA hs)), .fn (.func 118) [] [], .fn (.func 138) [] [.rptr [i64 sl]]] (.d (.sl 3 (rowsA (hs.filter (fun x:AskT=> !(fun x:AskT=>x.sl==sl) x))))):=by
 refine Zbg (n:=100) (u:=false) mixed Zak CCc9 func137 (by rfl) (by rfl) fun Ev bb=> ?_
 rw [CDc9]
 refine ⟨hs,rfl,by omega,Zbd (fun h1=> ?_) fun h1=> ?_⟩
 · have h2:hs= []:=List.isEmpty_iff.1 h1
   subst h2
   exact ⟨sl,rfl,rfl,rfl,rfl⟩
 · refine ⟨0,_,sl,hs,_,rfl,rfl,rfl,rfl,⟨rfl,hl,rfl⟩,fun v'=>⟨rfl,rowsA (hs.filter (fun x:AskT=> !(fun x:AskT=>x.sl==sl) x)),rfl,AAp9 _,AMq9 _,rfl⟩⟩
def cWoA (args:List AV) (K:AV→Prop):Prop:=∃(hs z:List AskT) (sl:Int),args= [.d (.sl 3 (rowsA hs)), .fn (.func 118) [] [], .fn (.func 138) [] [.rptr [i64 sl]]]∧(hs.length<1000000∧z=hs.filter (fun x:AskT=> !(fun x:AskT=>x.sl==sl) x))∧K (.d (.sl 3 (rowsA z)))
theorem CBf9:∀args K,cWoA args K→∃x,PCall prog 137 args x∧K x:=by
 rintro _ K ⟨hs,_,sl,rfl,⟨hl,rfl⟩,hk⟩;exact ⟨_,pcWoA hs sl hl,hk⟩
def TEx:List (Nat×(List AV→(AV→Prop)→Prop)):= [(93,BGc9),(97,BOk9),(94,cWoG)]
theorem CFl9:AAb9 prog TEx:=Zaj ARt9 (Zaj BGe9 (Zaj CBe9 Zak))
def TUa:List (Nat×(List AV→(AV→Prop)→Prop)):= [(137,cWoA)]
theorem CEu9:AAb9 prog TUa:=Zaj CBf9 Zak
abbrev Qz70 (v0:List UseT) (v1:List GraT) (v2:List AskT):List AV:= [Zac (Zaf 4 (rowsU v0)),Zac (Zaf 5 (rowsG v1)),Zac (Zaf 3 (rowsA v2))]
theorem BKl9 (t:TabT) (fr:Int):wpFn prog ⟨TEx, [],wl,y,false⟩ 100 f47 [tabA t, .d (i64 fr)] b R=(∃(l0:List UseT), [Zac (Zaf 4 (rowsU (Zbo t)))]= [Zac (Zaf 4 (rowsU l0))]∧Zaa l0≤1000000∧∃(hs1:List GraT) (z2:List GraT) (fr3:Int), [Zac (Zaf 5 (rowsG (Zbu t))),Zaw (Fn.func 95) [] [],Zaw (Fn.func 96) [] [Zag [i64 fr]]]= [Zac (Zaf 5 (rowsG hs1)),Zaw (Fn.func 95) [] [],Zaw (Fn.func 96) [] [Zag [i64 fr3]]]∧(Zaa hs1<1000000∧z2=Zcl (fun (x4:GraT)=> !decide (Zdx x4<fr3)) hs1)∧∃(l5:List AskT), [Zac (Zaf 3 (rowsA (Zbw t)))]= [Zac (Zaf 3 (rowsA l5))]∧Zaa l5≤1000000∧R (.agg (Qz70 l0 z2 l5)) b):=by kernel_rfl
theorem BBj9 (t:TabT) (sl:Int):wpFn prog ⟨TUa, [],wl,y,false⟩ 100 f105 [tabA t, .d (i64 sl)] b R=(∃(hs0:List AskT) (z1:List AskT) (sl2:Int), [Zac (Zaf 3 (rowsA (Zbw t))),Zaw (Fn.func 118) [] [],Zaw (Fn.func 138) [] [Zag [i64 sl]]]= [Zac (Zaf 3 (rowsA hs0)),Zaw (Fn.func 118) [] [],Zaw (Fn.func 138) [] [Zag [i64 sl2]]]∧(Zaa hs0<1000000∧z1=Zcl (fun (x3:AskT)=> !AskT.sl x3==sl2) hs0)∧R (.d (Zaf 3 (rowsA z1))) b):=by kernel_rfl
def TabLt (t:TabT):Prop:=t.us.length<1000000∧t.gs.length<1000000∧t.ak.length<1000000
def AIa9 (t:TabT) (fr:Int):TabT:=⟨t.us,t.gs.filter fun x=> !decide (x.un<fr),t.ak⟩
theorem BRp9 (t:TabT) (fr:Int) (h:TabLt t):PCall prog 47 [tabA t, .d (i64 fr)] (tabA (AIa9 t fr)):=by
 refine Zbg (n:=100) (u:=false) mixed CFl9 Zah func47 (by rfl) (by rfl) fun Ev bb=> ?_
 rw [BKl9]
 exact ⟨t.us,rfl,by have:=h.1;omega,t.gs,_,fr,rfl,⟨h.2.1,rfl⟩,t.ak,rfl,by have:=h.2.2;omega,rfl⟩
def BOg9 (args:List AV) (K:AV→Prop):Prop:=∃(t z:TabT) (fr:Int),args= [tabA t, .d (i64 fr)]∧(TabLt t∧z=AIa9 t fr)∧K (tabA z)
theorem BFx9:∀args K,BOg9 args K→∃x,PCall prog 47 args x∧K x:=by
 rintro _ K ⟨t,_,fr,rfl,⟨h,rfl⟩,hk⟩;exact ⟨_,BRp9 t fr h,hk⟩
def AJd9 (t:TabT) (sl:Int):List AskT:=t.ak.filter fun x=> !(x.sl==sl)
theorem BZb9 (t:TabT) (sl:Int) (h:TabLt t):PCall prog 105 [tabA t, .d (i64 sl)] (.d (.sl 3 (rowsA (AJd9 t sl)))):=by
 refine Zbg (n:=100) (u:=false) mixed CEu9 Zah func105 (by rfl) (by rfl) fun Ev bb=> ?_
 rw [BBj9]
 exact ⟨t.ak,_,sl,rfl,⟨h.2.2,rfl⟩,rfl⟩
def BUk9 (args:List AV) (K:AV→Prop):Prop:=∃(t:TabT) (z:List AskT) (sl:Int),args= [tabA t, .d (i64 sl)]∧(TabLt t∧z=AJd9 t sl)∧K (.d (.sl 3 (rowsA z)))
theorem AVu9:∀args K,BUk9 args K→∃x,PCall prog 105 args x∧K x:=by
 rintro _ K ⟨t,_,sl,rfl,⟨h,rfl⟩,hk⟩;exact ⟨_,BZb9 t sl h,hk⟩
def nilSl:AV:= .d (.s (.slice none 0 0))
theorem BTd9 (n:Int):wpFnS prog ⟨[],GCG,wl,y,false⟩ 100 f146 [nilSl, .d (i64 n)] b Kr=(BIf (decide (n<(0:Int))) False (BIf (decide (Zae .i64 (n - 0)>(0:Int))) (BIf (true&&decide ((0:Int)<Zae .i64 (n - 0))&&decide (Zae .i64 (n - 0)*(40:Int)≤(281474976710656:Int))&&decide (Zae .i64 (n - 0)≤(9223372036854775807:Int))&&true&&true&&true&&true) (0=0∧Kr (Zbi 0 1 0 5) [Blk.mk [] false true 1] b) False) (Kr (Zac (Zdo (.slice none 0 0))) [] b))):=by kernel_rfl
theorem BTc9 (n:Int):wpFnS prog ⟨[],GCU,wl,y,false⟩ 100 f149 [nilSl, .d (i64 n)] b Kr=(BIf (decide (n<(0:Int))) False (BIf (decide (Zae .i64 (n - 0)>(0:Int))) (BIf (true&&decide ((0:Int)<Zae .i64 (n - 0))&&decide (Zae .i64 (n - 0)*(32:Int)≤(281474976710656:Int))&&decide (Zae .i64 (n - 0)≤(9223372036854775807:Int))&&true&&true&&true&&true) (0=0∧Kr (Zbi 0 1 0 4) [Blk.mk [] false true 1] b) False) (Kr (Zac (Zdo (.slice none 0 0))) [] b))):=by kernel_rfl
theorem CAs9 (n:Int) (h0:0<n) (hn:n≤1000000):FCall prog 146 [nilSl, .d (i64 n)] (.gref 0 1 0 5) [growB 1 []]:=by
 refine FCall.ofFnW (n:=100) (u:=false) (fun _=>fun _ _ _ _ _=>False) mixed Zak AZu9 (fun Ev _ _ _ _ _ h=>h.elim) func146 (by rfl) (by rfl) (by rfl) fun Ev bb=> ?_
 rw [BTd9]
 have e:Zae Zbb (n - 0)=n:=by rw [ABb9 (by omega) (by omega)];omega
 rw [e]
 refine Zde (by simp<;>omega) (Zba (by simp<;>omega) (Zba ?_ ⟨rfl,rfl,rfl⟩))
 simp only [Zfz,Zef,Zal,decide_eq_true_eq];omega
theorem CAr9 (n:Int) (h0:0<n) (hn:n≤1000000):FCall prog 149 [nilSl, .d (i64 n)] (.gref 0 1 0 4) [growB 1 []]:=by
 refine FCall.ofFnW (n:=100) (u:=false) (fun _=>fun _ _ _ _ _=>False) mixed Zak BWb9 (fun Ev _ _ _ _ _ h=>h.elim) func149 (by rfl) (by rfl) (by rfl) fun Ev bb=> ?_
 rw [BTc9]
 have e:Zae Zbb (n - 0)=n:=by rw [ABb9 (by omega) (by omega)];omega
 rw [e]
 refine Zde (by simp<;>omega) (Zba (by simp<;>omega) (Zba ?_ ⟨rfl,rfl,rfl⟩))
 simp only [Zfz,Zef,Zal,decide_eq_true_eq];omega
def BYe9 (args:List AV) (hp:List Blk) (K:AV→List Blk→Prop):Prop:=∃(n:Int),args= [nilSl, .d (i64 n)]∧(0<n∧n≤1000000)∧K (.gref hp.length 1 0 5) (hp++ [growB 1 []])
theorem BIq9:∀args hp K,BYe9 args hp K→∃x hp',SCall prog 146 args hp x hp'∧K x hp':=by
 rintro _ hp K ⟨n,rfl,⟨h0,hn⟩,h⟩
 exact ⟨_,_,(CAs9 n h0 hn).toS rfl hp,by simpa [shift,AJe9,AFt9,AQb9,growB] using h⟩
def BYd9 (args:List AV) (hp:List Blk) (K:AV→List Blk→Prop):Prop:=∃(n:Int),args= [nilSl, .d (i64 n)]∧(0<n∧n≤1000000)∧K (.gref hp.length 1 0 4) (hp++ [growB 1 []])
theorem BIp9:∀args hp K,BYd9 args hp K→∃x hp',SCall prog 149 args hp x hp'∧K x hp':=by
 rintro _ hp K ⟨n,rfl,⟨h0,hn⟩,h⟩
 exact ⟨_,_,(CAr9 n h0 hn).toS rfl hp,by simpa [shift,AJe9,AFt9,AQb9,growB] using h⟩
def UCoG:List (Nat×(List AV→List Blk→(AV→List Blk→Prop)→Prop)):= [(146,BYe9),(1000059,fun _ _ _=>False)]
theorem CCi9:AAm9 prog UCoG:=Zbs BIq9 AZu9
def UCoU:List (Nat×(List AV→List Blk→(AV→List Blk→Prop)→Prop)):= [(149,BYd9),(1000061,fun _ _ _=>False)]
theorem CCh9:AAm9 prog UCoU:=Zbs BIp9 BWb9
theorem BUc9 (x z m:List (List Dv)):wpFn prog ⟨[],UCoG,wl,y,true⟩ 1000 f136 [.full 1 [[.sl 5 x], [.sl 5 z], [.sl 5 m]]] b R=(∃(xs0:List (List Dv)),some [Zaf 5 x]=some [Zaf 5 xs0]∧BIf (decide (Zae .i64 ((0:Int)+((Zaa xs0:Nat):Int))<(0:Int))) False (∃(xs1:List (List Dv)),some [Zaf 5 z]=some [Zaf 5 xs1]∧BIf (decide (Zae .i64 (Zae .i64 ((0:Int)+((Zaa xs0:Nat):Int))+((Zaa xs1:Nat):Int))<(0:Int))) False (∃(xs2:List (List Dv)),some [Zaf 5 m]=some [Zaf 5 xs2]∧BIf (decide (Zae .i64 (Zae .i64 (Zae .i64 ((0:Int)+((Zaa xs0:Nat):Int))+((Zaa xs1:Nat):Int))+((Zaa xs2:Nat):Int))<(0:Int))) False (∃(n3:Int), [Zac (Zdo (.slice none 0 0)),Zac (i64 (Zae .i64 (Zae .i64 (Zae .i64 ((0:Int)+((Zaa xs0:Nat):Int))+((Zaa xs1:Nat):Int))+((Zaa xs2:Nat):Int))))]= [Zac (Zdo (.slice none 0 0)),Zac (i64 n3)]∧((0:Int)<n3∧n3≤(1000000:Int))∧∃(xs4:List (List Dv)),some [Zaf 5 x]=some [Zaf 5 xs4]∧1=1∧BIf (decide ((0+Zaa xs4)*40≤140737488355328)) (∃(xs5:List (List Dv)),some [Zaf 5 z]=some [Zaf 5 xs5]∧2=2∧BIf (decide ((0+Zaa xs4+Zaa xs5)*40≤140737488355328)) (∃(xs6:List (List Dv)),some [Zaf 5 m]=some [Zaf 5 xs6]∧3=3∧BIf (decide ((0+Zaa xs4+Zaa xs5+Zaa xs6)*40≤140737488355328)) (4=4∧∃(xs7:List (List Dv)), []++flatA xs4++flatA xs5++flatA xs6=flatA xs7∧Zaa xs7=0+Zaa xs4+Zaa xs5+Zaa xs6∧(∀(r:List Dv),r∈xs7→Zaa r=5)∧R (.d (Zaf 5 xs7)) b) False) False) False)))):=by kernel_rfl
theorem BUb9 (x z m:List (List Dv)):wpFn prog ⟨[],UCoU,wl,y,true⟩ 1000 f140 [.full 1 [[.sl 4 x], [.sl 4 z], [.sl 4 m]]] b R=(∃(xs0:List (List Dv)),some [Zaf 4 x]=some [Zaf 4 xs0]∧BIf (decide (Zae .i64 ((0:Int)+((Zaa xs0:Nat):Int))<(0:Int))) False (∃(xs1:List (List Dv)),some [Zaf 4 z]=some [Zaf 4 xs1]∧BIf (decide (Zae .i64 (Zae .i64 ((0:Int)+((Zaa xs0:Nat):Int))+((Zaa xs1:Nat):Int))<(0:Int))) False (∃(xs2:List (List Dv)),some [Zaf 4 m]=some [Zaf 4 xs2]∧BIf (decide (Zae .i64 (Zae .i64 (Zae .i64 ((0:Int)+((Zaa xs0:Nat):Int))+((Zaa xs1:Nat):Int))+((Zaa xs2:Nat):Int))<(0:Int))) False (∃(n3:Int), [Zac (Zdo (.slice none 0 0)),Zac (i64 (Zae .i64 (Zae .i64 (Zae .i64 ((0:Int)+((Zaa xs0:Nat):Int))+((Zaa xs1:Nat):Int))+((Zaa xs2:Nat):Int))))]= [Zac (Zdo (.slice none 0 0)),Zac (i64 n3)]∧((0:Int)<n3∧n3≤(1000000:Int))∧∃(xs4:List (List Dv)),some [Zaf 4 x]=some [Zaf 4 xs4]∧1=1∧BIf (decide ((0+Zaa xs4)*32≤140737488355328)) (∃(xs5:List (List Dv)),some [Zaf 4 z]=some [Zaf 4 xs5]∧2=2∧BIf (decide ((0+Zaa xs4+Zaa xs5)*32≤140737488355328)) (∃(xs6:List (List Dv)),some [Zaf 4 m]=some [Zaf 4 xs6]∧3=3∧BIf (decide ((0+Zaa xs4+Zaa xs5+Zaa xs6)*32≤140737488355328)) (4=4∧∃(xs7:List (List Dv)), []++flatA xs4++flatA xs5++flatA xs6=flatA xs7∧Zaa xs7=0+Zaa xs4+Zaa xs5+Zaa xs6∧(∀(r:List Dv),r∈xs7→Zaa r=4)∧R (.d (Zaf 4 xs7)) b) False) False) False)))):=by kernel_rfl
theorem BZq9 (x z m:List GraT) (h0:0<x.length+z.length+m.length) (hl:x.length+z.length+m.length≤1000000):
   PCall prog 136 [.full 1 [[.sl 5 (rowsG x)], [.sl 5 (rowsG z)], [.sl 5 (rowsG m)]]] (.d (.sl 5 (rowsG (x++z++m)))):=by
 refine Zbg (n:=1000) (u:=true) mixed Zak CCi9 func136 (by rfl) (by rfl) fun Ev bb=> ?_
 rw [BUc9]
 have e1:Zae Zbb ((0:Int)+(((rowsG x).length:Nat):Int))=((x.length:Nat):Int):=by rw [AAg9,ABb9 (by omega) (by omega)];omega
 have e2:Zae Zbb (((x.length:Nat):Int)+(((rowsG z).length:Nat):Int))=((x.length+z.length:Nat):Int):=by rw [AAg9,ABb9 (by omega) (by omega)];omega
 have e3:Zae Zbb (((x.length+z.length:Nat):Int)+(((rowsG m).length:Nat):Int))=((x.length+z.length+m.length:Nat):Int):=by rw [AAg9,ABb9 (by omega) (by omega)];omega
 refine ⟨rowsG x,rfl, ?_⟩
 rw [e1]
 refine Zde (by simp) ⟨rowsG z,rfl, ?_⟩
 rw [e2]
 refine Zde (by simp;omega) ⟨rowsG m,rfl, ?_⟩
 rw [e3]
 refine Zde (by simp;omega) ⟨_,rfl,⟨by omega,by omega⟩,rowsG x,rfl,rfl,Zba (by rw [AAg9];simp;omega) ⟨rowsG z,rfl,rfl,Zba (by rw [AAg9,AAg9];simp;omega) ⟨rowsG m,rfl,rfl,Zba (by rw [AAg9,AAg9,AAg9];simp;omega) ⟨rfl,rowsG (x++z++m), ?_, ?_,AQg9 _,rfl⟩⟩⟩⟩
 · have f:∀l:List GraT,flatA (rowsG l)=flatA (l.map graR):=fun _=>rfl
   rw [f,f,f,f,ATk9,ATk9,List.nil_append]
 · rw [AAg9,AAg9,AAg9,AAg9,Zcg,Zcg];omega
def CBs9 (args:List AV) (K:AV→Prop):Prop:=∃(x m q:List GraT) (g:GraT),args= [.full 1 [[.sl 5 (rowsG x)], [.sl 5 [graR g]], [.sl 5 (rowsG m)]]]∧(x.length+m.length<1000000∧q=x++ [g]++m)∧K (.d (.sl 5 (rowsG q)))
theorem BLy9:∀args K,CBs9 args K→∃x,PCall prog 136 args x∧K x:=by
 rintro _ K ⟨x,m,_,g,rfl,⟨hl,rfl⟩,hk⟩;exact ⟨_,BZq9 x [g] m (by simp;omega) (by simp;omega),hk⟩
def TInG:List (Nat×(List AV→(AV→Prop)→Prop)):= [(136,CBs9),(54,BFq9)]
theorem CCo9:AAb9 prog TInG:=Zaj BLy9 (Zaj AZc9 Zak)
theorem CAh9 (l:List GraT) (g:GraT):wpFn prog ⟨TInG, [],wl,y,false⟩ 100 f104 [.d (.sl 5 (rowsG l)),graA g, .fn (.func 95) [] []] b R=(∃(l0:List GraT) (g1:GraT) (q2:Int), [Zac (Zaf 5 (rowsG l)),Zaw (Fn.func 135) [] [Zag [Zcs (Fn.func 95) []],Zag (Qz19 g)]]= [Zac (Zaf 5 (rowsG l0)),Zaw (Fn.func 135) [] [Zag [Zcs (Fn.func 95) []],Zag (Qz19 g1)]]∧(Zaa l0≤9223372036854775807∧q2=idxS (fun (x3:GraT)=>decide (Zfd x3>Zfd g1)) l0)∧BIf (decide (q2<(0:Int))) (BIf (true&&decide ((0:Int)≤(0:Int)∧(0:Int)≤((Zaa (rowsG l):Nat):Int)∧((Zaa (rowsG l):Nat):Int)≤((Zaa (rowsG l):Nat):Int)∧((Zaa (rowsG l):Nat):Int)≤((Zaa (rowsG l):Nat):Int))) (BIf (true&&decide ((0:Int)≤((Zaa (rowsG l):Nat):Int)∧((Zaa (rowsG l):Nat):Int)≤((Zaa (rowsG l):Nat):Int)∧((Zaa (rowsG l):Nat):Int)≤((Zaa (rowsG l):Nat):Int)∧((Zaa (rowsG l):Nat):Int)≤((Zaa (rowsG l):Nat):Int))) (∃(x4:List GraT) (m5:List GraT) (q6:List GraT) (g7:GraT), [Zez 1 [[Zaf 5 (Zbq (Zao ((Zaa (rowsG l):Nat):Int) - Zao (0:Int)) (Zcf (Zao (0:Int)) (rowsG l)))], [Zaf 5 [Qz19 g]], [Zaf 5 (Zbq (Zao ((Zaa (rowsG l):Nat):Int) - Zao ((Zaa (rowsG l):Nat):Int)) (Zcf (Zao ((Zaa (rowsG l):Nat):Int)) (rowsG l)))]]]= [Zez 1 [[Zaf 5 (rowsG x4)], [Zaf 5 [Qz19 g7]], [Zaf 5 (rowsG m5)]]]∧(Zaa x4+Zaa m5<1000000∧q6=x4++ [g7]++m5)∧R (.d (Zaf 5 (rowsG q6))) b) False) False) (BIf (true&&decide ((0:Int)≤(0:Int)∧(0:Int)≤q2∧q2≤((Zaa (rowsG l):Nat):Int)∧((Zaa (rowsG l):Nat):Int)≤((Zaa (rowsG l):Nat):Int))) (BIf (true&&decide ((0:Int)≤q2∧q2≤((Zaa (rowsG l):Nat):Int)∧((Zaa (rowsG l):Nat):Int)≤((Zaa (rowsG l):Nat):Int)∧((Zaa (rowsG l):Nat):Int)≤((Zaa (rowsG l):Nat):Int))) (∃(x8:List GraT) (m9:List GraT) (q10:List GraT) (g11:GraT), [Zez 1 [[Zaf 5 (Zbq (Zao q2 - Zao (0:Int)) (Zcf (Zao (0:Int)) (rowsG l)))], [Zaf 5 [Qz19 g]], [Zaf 5 (Zbq (Zao ((Zaa (rowsG l):Nat):Int) - Zao q2) (Zcf (Zao q2) (rowsG l)))]]]= [Zez 1 [[Zaf 5 (rowsG x8)], [Zaf 5 [Qz19 g11]], [Zaf 5 (rowsG m9)]]]∧(Zaa x8+Zaa m9<1000000∧q10=x8++ [g11]++m9)∧R (.d (Zaf 5 (rowsG q10))) b) False) False)):=by kernel_rfl
theorem BZp9 (x z m:List UseT) (h0:0<x.length+z.length+m.length) (hl:x.length+z.length+m.length≤1000000):
   PCall prog 140 [.full 1 [[.sl 4 (rowsU x)], [.sl 4 (rowsU z)], [.sl 4 (rowsU m)]]] (.d (.sl 4 (rowsU (x++z++m)))):=by
 refine Zbg (n:=1000) (u:=true) mixed Zak CCh9 func140 (by rfl) (by rfl) fun Ev bb=> ?_
 rw [BUb9]
 have e1:Zae Zbb ((0:Int)+(((rowsU x).length:Nat):Int))=((x.length:Nat):Int):=by rw [AAj9,ABb9 (by omega) (by omega)];omega
 have e2:Zae Zbb (((x.length:Nat):Int)+(((rowsU z).length:Nat):Int))=((x.length+z.length:Nat):Int):=by rw [AAj9,ABb9 (by omega) (by omega)];omega
 have e3:Zae Zbb (((x.length+z.length:Nat):Int)+(((rowsU m).length:Nat):Int))=((x.length+z.length+m.length:Nat):Int):=by rw [AAj9,ABb9 (by omega) (by omega)];omega
 refine ⟨rowsU x,rfl, ?_⟩
 rw [e1]
 refine Zde (by simp) ⟨rowsU z,rfl, ?_⟩
 rw [e2]
 refine Zde (by simp;omega) ⟨rowsU m,rfl, ?_⟩
 rw [e3]
 refine Zde (by simp;omega) ⟨_,rfl,⟨by omega,by omega⟩,rowsU x,rfl,rfl,Zba (by rw [AAj9];simp;omega) ⟨rowsU z,rfl,rfl,Zba (by rw [AAj9,AAj9];simp;omega) ⟨rowsU m,rfl,rfl,Zba (by rw [AAj9,AAj9,AAj9];simp;omega) ⟨rfl,rowsU (x++z++m), ?_, ?_,BMz9 _,rfl⟩⟩⟩⟩
 · have f:∀l:List UseT,flatA (rowsU l)=flatA (l.map useR):=fun _=>rfl
   rw [f,f,f,f,ATk9,ATk9,List.nil_append]
 · rw [AAj9,AAj9,AAj9,AAj9,Zcg,Zcg];omega
def CBr9 (args:List AV) (K:AV→Prop):Prop:=∃(x m q:List UseT) (g:UseT),args= [.full 1 [[.sl 4 (rowsU x)], [.sl 4 [useR g]], [.sl 4 (rowsU m)]]]∧(x.length+m.length<1000000∧q=x++ [g]++m)∧K (.d (.sl 4 (rowsU q)))
theorem BLx9:∀args K,CBr9 args K→∃x,PCall prog 140 args x∧K x:=by
 rintro _ K ⟨x,m,_,g,rfl,⟨hl,rfl⟩,hk⟩;exact ⟨_,BZp9 x [g] m (by simp;omega) (by simp;omega),hk⟩
def TInU:List (Nat×(List AV→(AV→Prop)→Prop)):= [(140,CBr9),(133,BFp9)]
theorem CCn9:AAb9 prog TInU:=Zaj BLx9 (Zaj AZb9 Zak)
theorem CAg9 (l:List UseT) (g:UseT):wpFn prog ⟨TInU, [],wl,y,false⟩ 100 f107 [.d (.sl 4 (rowsU l)),useA g, .fn (.func 108) [] []] b R=(∃(l0:List UseT) (g1:UseT) (q2:Int), [Zac (Zaf 4 (rowsU l)),Zaw (Fn.func 139) [] [Zag [Zcs (Fn.func 108) []],Zag (Qz15 g)]]= [Zac (Zaf 4 (rowsU l0)),Zaw (Fn.func 139) [] [Zag [Zcs (Fn.func 108) []],Zag (Qz15 g1)]]∧(Zaa l0≤9223372036854775807∧q2=idxS (fun (x3:UseT)=>decide (Zfe x3>Zfe g1)) l0)∧BIf (decide (q2<(0:Int))) (BIf (true&&decide ((0:Int)≤(0:Int)∧(0:Int)≤((Zaa (rowsU l):Nat):Int)∧((Zaa (rowsU l):Nat):Int)≤((Zaa (rowsU l):Nat):Int)∧((Zaa (rowsU l):Nat):Int)≤((Zaa (rowsU l):Nat):Int))) (BIf (true&&decide ((0:Int)≤((Zaa (rowsU l):Nat):Int)∧((Zaa (rowsU l):Nat):Int)≤((Zaa (rowsU l):Nat):Int)∧((Zaa (rowsU l):Nat):Int)≤((Zaa (rowsU l):Nat):Int)∧((Zaa (rowsU l):Nat):Int)≤((Zaa (rowsU l):Nat):Int))) (∃(x4:List UseT) (m5:List UseT) (q6:List UseT) (g7:UseT), [Zez 1 [[Zaf 4 (Zbq (Zao ((Zaa (rowsU l):Nat):Int) - Zao (0:Int)) (Zcf (Zao (0:Int)) (rowsU l)))], [Zaf 4 [Qz15 g]], [Zaf 4 (Zbq (Zao ((Zaa (rowsU l):Nat):Int) - Zao ((Zaa (rowsU l):Nat):Int)) (Zcf (Zao ((Zaa (rowsU l):Nat):Int)) (rowsU l)))]]]= [Zez 1 [[Zaf 4 (rowsU x4)], [Zaf 4 [Qz15 g7]], [Zaf 4 (rowsU m5)]]]∧(Zaa x4+Zaa m5<1000000∧q6=x4++ [g7]++m5)∧R (.d (Zaf 4 (rowsU q6))) b) False) False) (BIf (true&&decide ((0:Int)≤(0:Int)∧(0:Int)≤q2∧q2≤((Zaa (rowsU l):Nat):Int)∧((Zaa (rowsU l):Nat):Int)≤((Zaa (rowsU l):Nat):Int))) (BIf (true&&decide ((0:Int)≤q2∧q2≤((Zaa (rowsU l):Nat):Int)∧((Zaa (rowsU l):Nat):Int)≤((Zaa (rowsU l):Nat):Int)∧((Zaa (rowsU l):Nat):Int)≤((Zaa (rowsU l):Nat):Int))) (∃(x8:List UseT) (m9:List UseT) (q10:List UseT) (g11:UseT), [Zez 1 [[Zaf 4 (Zbq (Zao q2 - Zao (0:Int)) (Zcf (Zao (0:Int)) (rowsU l)))], [Zaf 4 [Qz15 g]], [Zaf 4 (Zbq (Zao ((Zaa (rowsU l):Nat):Int) - Zao q2) (Zcf (Zao q2) (rowsU l)))]]]= [Zez 1 [[Zaf 4 (rowsU x8)], [Zaf 4 [Qz15 g11]], [Zaf 4 (rowsU m9)]]]∧(Zaa x8+Zaa m9<1000000∧q10=x8++ [g11]++m9)∧R (.d (Zaf 4 (rowsU q10))) b) False) False)):=by kernel_rfl
def insP {α:Type} (p:α→Bool) (g:α):List α→List α
 | []=> [g]
 |x::r=>if p x=true then g::x::r else x::insP p g r
theorem AOj9 {α:Type} {p:α→Bool} {g:α}:∀ {l:List α},l.findIdx? p=none→insP p g l=l++ [g]
 | [],_=>rfl
 | x::r,h=>by
   rw [Zeu] at h
   cases hp:p x with
   |true=>rw [hp] at h;simp at h
   | false=>
     rw [hp] at h
     simp only [Zdb,if_false,Option.map_eq_none_iff] at h
     rw [insP,hp,if_neg (by decide),AOj9 h];rfl
theorem AOi9 {α:Type} {p:α→Bool} {g:α}:∀ {l:List α} {j:Nat},l.findIdx? p=some j→insP p g l=l.take j++ [g]++l.drop j
 | [],j,h=>by simp at h
 | x::r,j,h=>by
   rw [Zeu] at h
   cases hp:p x with
   |true=>rw [hp] at h;simp at h;subst h;rw [insP,hp,if_pos rfl];rfl
   | false=>
     rw [hp] at h
     simp only [Zdb,if_false,Zan] at h
     obtain ⟨j',h1,rfl⟩:=h
     rw [insP,hp,if_neg (by decide),AOi9 h1];rfl
theorem AUx9 {α:Type} (row:α→List Dv) (l:List α) (i:Nat):((l.map row).take i)=(l.take i).map row:=by simp
theorem AUy9 {α:Type} (row:α→List Dv) (l:List α) (i:Nat):((l.map row).drop i)=(l.drop i).map row:=by simp
def insSG (g:GraT) (l:List GraT):List GraT:=insP (fun x:GraT=>decide (x.sl>g.sl)) g l
theorem CDv9 (l:List GraT) (g:GraT) (hl:l.length<1000000):PCall prog 104 [.d (.sl 5 (rowsG l)),graA g, .fn (.func 95) [] []] (.d (.sl 5 (rowsG (insSG g l)))):=by
 refine Zbg (n:=100) (u:=false) mixed CCo9 Zah func104 (by rfl) (by rfl) fun Ev bb=> ?_
 rw [CAh9,AAg9]
 refine ⟨l,g,_,rfl,⟨by omega,rfl⟩, ?_⟩
 cases hf:l.findIdx? (fun x:GraT=>decide (x.sl>g.sl)) with
 | none=>
   rw [AAy9 hf]
   refine Zba (by decide) (Zba (by simp) (Zba (by simp) ⟨l, [],_,g, ?_,⟨by simpa using hl,rfl⟩, ?_⟩))
   · simp only [rowsG,Zcm,Zfh,Zfi,Nat.sub_zero,Nat.sub_self,List.take_zero,List.map_nil]
     rw [show (l.map graR).take l.length=l.map graR by rw [List.take_of_length_le (by simp)]]
   · rw [insSG,AOj9 hf,Zdr]
 | some j=>
   have hj:=(AFl9 hf).1
   rw [AAi9 hf]
   refine Zde (by simp) (Zba (by simp;omega) (Zba (by simp;omega) ⟨l.take j,l.drop j,_,g, ?_,⟨by rw [Zcb,List.length_drop];omega,rfl⟩, ?_⟩))
   · simp only [rowsG,Zcm,Zfh,Zfi,Nat.sub_zero]
     rw [show ((l.map graR).drop j).take (l.length - j)=(l.drop j).map graR by rw [AUy9,List.take_of_length_le (by simp)],AUx9]
   · rw [insSG,AOi9 hf]
def cInsG (args:List AV) (K:AV→Prop):Prop:=∃(l z:List GraT) (g:GraT),args= [.d (.sl 5 (rowsG l)),graA g, .fn (.func 95) [] []]∧(l.length<1000000∧z=insSG g l)∧K (.d (.sl 5 (rowsG z)))
theorem BUv9:∀args K,cInsG args K→∃x,PCall prog 104 args x∧K x:=by
 rintro _ K ⟨l,_,g,rfl,⟨hl,rfl⟩,hk⟩;exact ⟨_,CDv9 l g hl,hk⟩
def insSU (g:UseT) (l:List UseT):List UseT:=insP (fun x:UseT=>decide (x.sl>g.sl)) g l
theorem CDu9 (l:List UseT) (g:UseT) (hl:l.length<1000000):PCall prog 107 [.d (.sl 4 (rowsU l)),useA g, .fn (.func 108) [] []] (.d (.sl 4 (rowsU (insSU g l)))):=by
 refine Zbg (n:=100) (u:=false) mixed CCn9 Zah func107 (by rfl) (by rfl) fun Ev bb=> ?_
 rw [CAg9,AAj9]
 refine ⟨l,g,_,rfl,⟨by omega,rfl⟩, ?_⟩
 cases hf:l.findIdx? (fun x:UseT=>decide (x.sl>g.sl)) with
 | none=>
   rw [AAy9 hf]
   refine Zba (by decide) (Zba (by simp) (Zba (by simp) ⟨l, [],_,g, ?_,⟨by simpa using hl,rfl⟩, ?_⟩))
   · simp only [rowsU,Zcm,Zfh,Zfi,Nat.sub_zero,Nat.sub_self,List.take_zero,List.map_nil]
     rw [show (l.map useR).take l.length=l.map useR by rw [List.take_of_length_le (by simp)]]
   · rw [insSU,AOj9 hf,Zdr]
 | some j=>
   have hj:=(AFl9 hf).1
   rw [AAi9 hf]
   refine Zde (by simp) (Zba (by simp;omega) (Zba (by simp;omega) ⟨l.take j,l.drop j,_,g, ?_,⟨by rw [Zcb,List.length_drop];omega,rfl⟩, ?_⟩))
   · simp only [rowsU,Zcm,Zfh,Zfi,Nat.sub_zero]
     rw [show ((l.map useR).drop j).take (l.length - j)=(l.drop j).map useR by rw [AUy9,List.take_of_length_le (by simp)],AUx9]
   · rw [insSU,AOi9 hf]
def cInsU (args:List AV) (K:AV→Prop):Prop:=∃(l z:List UseT) (g:UseT),args= [.d (.sl 4 (rowsU l)),useA g, .fn (.func 108) [] []]∧(l.length<1000000∧z=insSU g l)∧K (.d (.sl 4 (rowsU z)))
theorem BUu9:∀args K,cInsU args K→∃x,PCall prog 107 args x∧K x:=by
 rintro _ K ⟨l,_,g,rfl,⟨hl,rfl⟩,hk⟩;exact ⟨_,CDu9 l g hl,hk⟩
def useI (u:UseT):AV:= .d (.s (.iface 149 (.agg #[.int .i64 u.sl, .int .i64 u.of, .int .i64 u.pe, .int .i64 u.st])))
def graI (g:GraT):AV:= .d (.s (.iface 140 (.agg #[.int .i64 g.sl, .int .i64 g.of, .int .i64 g.pe, .int .i64 g.st, .int .i64 g.un])))
def TRfd:List (Nat×(List AV→(AV→Prop)→Prop)):= [(4000001,cNone),(73,BLh9),(84,BUy9),(170,BMa9),(167,BMb9)]
theorem AWs9:AAb9 prog TRfd:=Zaj (ABw9 _) (Zaj AOx9 (Zaj AWo9 (Zaj AOz9 (Zaj APa9 Zak))))
def wlRfd {β:Type} (y:ACw9 β):WLT β:=wlI prog TRfd IVa y (fun _ _ _ _ _=>False)
theorem BYi9 (t:TabT) (ly:LayT) (u:UseT):wpFn prog ⟨TRfd, [],wlRfd y,y,false⟩ 100 f103 [tabA t,layA ly,useI u] b R=(∃(t0:TabT) (l1:LayT) (q2:Bool), [Zar (Qz2 t),Zar (Qz5 ly)]= [Zar (Qz2 t0),Zar (Qz5 l1)]∧((Zaa (Zbo t0)<10000∧Zaa (Zbu t0)<10000∧Zaa (Zbw t0)<10000)∧q2=ACn9 t0 l1)∧BIf (!q2) (R (.d (i64 1)) b) (true=true∧∃(u3:UseT) (l4:LayT) (z5:Bool), [Zar (Qz9 u),Zar (Qz5 ly)]= [Zar (Qz9 u3),Zar (Qz5 l4)]∧z5=useOk u3 l4∧BIf (!z5) (R (.d (i64 1)) b) (∃(u6:UseT), [Zar (Qz9 u)]= [Zar (Qz9 u6)]∧∃(t7:TabT) (s8:Int) (q9:Bool), [Zar (Qz2 t),Zac (i64 (Zfe u6))]= [Zar (Qz2 t7),Zac (i64 s8)]∧((Zaa (Zbo t7)<10000∧Zaa (Zbu t7)<10000∧Zaa (Zbw t7)<10000)∧q9=busyT t7 s8)∧BIf q9 (R (.d (i64 5)) b) (BIf (decide (Zae .i64 (((Zaa (rowsU (Zbo t)):Nat):Int)+((Zaa (rowsG (Zbu t)):Nat):Int))≥(24:Int))) (R (.d (i64 10)) b) (R (.d (i64 0)) b))))):=by kernel_rfl
theorem BYj9 (t:TabT) (ly:LayT) (u:GraT):wpFn prog ⟨TRfd, [],wlRfd y,y,false⟩ 100 f103 [tabA t,layA ly,graI u] b R=(∃(t0:TabT) (l1:LayT) (q2:Bool), [Zar (Qz2 t),Zar (Qz5 ly)]= [Zar (Qz2 t0),Zar (Qz5 l1)]∧((Zaa (Zbo t0)<10000∧Zaa (Zbu t0)<10000∧Zaa (Zbw t0)<10000)∧q2=ACn9 t0 l1)∧BIf (!q2) (R (.d (i64 1)) b) (true=true∧∃(u3:GraT) (l4:LayT) (z5:Bool), [Zar (Qz7 u),Zar (Qz5 ly)]= [Zar (Qz7 u3),Zar (Qz5 l4)]∧z5=graOk u3 l4∧BIf (!z5) (R (.d (i64 1)) b) (∃(u6:GraT), [Zar (Qz7 u)]= [Zar (Qz7 u6)]∧∃(t7:TabT) (s8:Int) (q9:Bool), [Zar (Qz2 t),Zac (i64 (Zfd u6))]= [Zar (Qz2 t7),Zac (i64 s8)]∧((Zaa (Zbo t7)<10000∧Zaa (Zbu t7)<10000∧Zaa (Zbw t7)<10000)∧q9=busyT t7 s8)∧BIf q9 (R (.d (i64 5)) b) (BIf (decide (Zae .i64 (((Zaa (rowsU (Zbo t)):Nat):Int)+((Zaa (rowsG (Zbu t)):Nat):Int))≥(24:Int))) (R (.d (i64 10)) b) (R (.d (i64 0)) b))))):=by kernel_rfl
def refS (t:TabT) (ly:LayT) (sl:Int) (ok:Bool):Int:=if ACn9 t ly&&ok then (if busyT t sl then 5 else if (t.us.length:Int)+(t.gs.length:Int)≥24 then 10 else 0) else 1
theorem CDn9 (t:TabT) (ly:LayT) (u:UseT) (ht:TabOk t):PCall prog 103 [tabA t,layA ly,useI u] (.d (i64 (refS t ly u.sl (useOk u ly)))):=by
 refine PCall.ofFnE (n:=100) (u:=false) (fun Ev=>wlRfd Ev.Y) mixed AWs9 Zah (fun Ev=>BXb9 mixed AWs9 ASb9 fun _ _ _ _ _ h=>h.elim) func103 (by rfl) (by rfl) fun Ev bb=> ?_
 rw [BYi9,AAj9,AAg9]
 have hw:Zae Zbb ((t.us.length:Int)+(t.gs.length:Int))=(t.us.length:Int)+(t.gs.length:Int):=ABb9 (by have:=ht.1;have:=ht.2.1;omega) (by have:=ht.1;have:=ht.2.1;omega)
 rw [hw]
 refine ⟨t,ly,_,rfl,⟨ht,rfl⟩,Zbd (fun h1=> ?_) fun h1=>⟨rfl,u,ly,_,rfl,rfl,Zbd (fun h2=> ?_) fun h2=>⟨u,rfl,t,u.sl,_,rfl,⟨ht,rfl⟩,Zbd (fun h3=> ?_) fun h3=>Zbd (fun h4=> ?_) fun h4=> ?_⟩⟩⟩
 · rw [Zct] at h1
   rw [refS,h1];rfl
 · rw [Zct] at h2
   rw [refS,h2,Zcx];rfl
 all_goals (rw [Zee] at h1 h2;rw [refS,h1,h2,h3])
 · rfl
 · rw [if_pos (by rfl),if_neg (by decide),if_pos (of_decide_eq_true h4)]
 · rw [if_pos (by rfl),if_neg (by decide),if_neg (of_decide_eq_false h4)]
def cRefU (args:List AV) (K:AV→Prop):Prop:=∃(t:TabT) (ly:LayT) (u:UseT) (q:Int),args= [tabA t,layA ly,useI u]∧(TabOk t∧q=refS t ly u.sl (useOk u ly))∧K (.d (i64 q))
theorem BUp9:∀args K,cRefU args K→∃x,PCall prog 103 args x∧K x:=by
 rintro _ K ⟨t,ly,u,_,rfl,⟨h,rfl⟩,hk⟩;exact ⟨_,CDn9 t ly u h,hk⟩
theorem CDo9 (t:TabT) (ly:LayT) (u:GraT) (ht:TabOk t):PCall prog 103 [tabA t,layA ly,graI u] (.d (i64 (refS t ly u.sl (graOk u ly)))):=by
 refine PCall.ofFnE (n:=100) (u:=false) (fun Ev=>wlRfd Ev.Y) mixed AWs9 Zah (fun Ev=>BXb9 mixed AWs9 ASb9 fun _ _ _ _ _ h=>h.elim) func103 (by rfl) (by rfl) fun Ev bb=> ?_
 rw [BYj9,AAj9,AAg9]
 have hw:Zae Zbb ((t.us.length:Int)+(t.gs.length:Int))=(t.us.length:Int)+(t.gs.length:Int):=ABb9 (by have:=ht.1;have:=ht.2.1;omega) (by have:=ht.1;have:=ht.2.1;omega)
 rw [hw]
 refine ⟨t,ly,_,rfl,⟨ht,rfl⟩,Zbd (fun h1=> ?_) fun h1=>⟨rfl,u,ly,_,rfl,rfl,Zbd (fun h2=> ?_) fun h2=>⟨u,rfl,t,u.sl,_,rfl,⟨ht,rfl⟩,Zbd (fun h3=> ?_) fun h3=>Zbd (fun h4=> ?_) fun h4=> ?_⟩⟩⟩
 · rw [Zct] at h1
   rw [refS,h1];rfl
 · rw [Zct] at h2
   rw [refS,h2,Zcx];rfl
 all_goals (rw [Zee] at h1 h2;rw [refS,h1,h2,h3])
 · rfl
 · rw [if_pos (by rfl),if_neg (by decide),if_pos (of_decide_eq_true h4)]
 · rw [if_pos (by rfl),if_neg (by decide),if_neg (of_decide_eq_false h4)]
def cRefG (args:List AV) (K:AV→Prop):Prop:=∃(t:TabT) (ly:LayT) (u:GraT) (q:Int),args= [tabA t,layA ly,graI u]∧(TabOk t∧q=refS t ly u.sl (graOk u ly))∧K (.d (i64 q))
theorem BUq9:∀args K,cRefG args K→∃x,PCall prog 103 args x∧K x:=by
 rintro _ K ⟨t,ly,u,_,rfl,⟨h,rfl⟩,hk⟩;exact ⟨_,CDo9 t ly u h,hk⟩
def TAu:List (Nat×(List AV→(AV→Prop)→Prop)):= [(103,cRefU),(107,cInsU),(48,BOj9),(105,BUk9)]
theorem CFo9:AAb9 prog TAu:=Zaj BUp9 (Zaj BUu9 (Zaj BGd9 (Zaj AVu9 Zak)))
def TAg:List (Nat×(List AV→(AV→Prop)→Prop)):= [(103,cRefG),(104,cInsG),(93,BGc9),(105,BUk9)]
theorem CFp9:AAb9 prog TAg:=Zaj BUq9 (Zaj BUv9 (Zaj ARt9 (Zaj AVu9 Zak)))
abbrev Qz6:List AV:= [Zac (Zdo (.slice none 0 0)),Zac (Zdo (.slice none 0 0)),Zac (Zdo (.slice none 0 0))]
abbrev Qz46 (v0:TabT) (v1:LayT) (v2:UseT):List AV:= [Zar (Qz2 v0),Zar (Qz5 v1),Zac (Zdo (Value.iface 149 (Value.agg (Array.mk [Zet Zbb (Zfe v2),Zet Zbb (UseT.of v2),Zet Zbb (UseT.pe v2),Zet Zbb (UseT.st v2)]))))]
theorem CBz9 (t:TabT) (ly:LayT) (u:UseT):wpFn prog ⟨TAu, [],wl,y,false⟩ 100 f56 [tabA t,layA ly,useA u] b R=(∃(t0:TabT) (ly1:LayT) (u2:UseT) (q3:Int),(Qz46 t ly u)=(Qz46 t0 ly1 u2)∧((Zaa (Zbo t0)<10000∧Zaa (Zbu t0)<10000∧Zaa (Zbw t0)<10000)∧q3=refS t0 ly1 (Zfe u2) (useOk u2 ly1))∧BIf (q3 !=(0:Int)) (R (.tup [Zar Qz6,Zac (i64 q3)]) b) (∃(l4:List UseT) (z5:List UseT) (g6:UseT), [Zac (Zaf 4 (rowsU (Zbo t))),Zar (Qz9 u),Zaw (Fn.func 108) [] []]= [Zac (Zaf 4 (rowsU l4)),Zar (Qz9 g6),Zaw (Fn.func 108) [] []]∧(Zaa l4<1000000∧z5=insSU g6 l4)∧∃(l7:List GraT), [Zac (Zaf 5 (rowsG (Zbu t)))]= [Zac (Zaf 5 (rowsG l7))]∧Zaa l7≤1000000∧∃(t8:TabT) (z9:List AskT) (sl10:Int), [Zar (Qz2 t),Zac (i64 (Zfe u))]= [Zar (Qz2 t8),Zac (i64 sl10)]∧((Zaa (Zbo t8)<1000000∧Zaa (Zbu t8)<1000000∧Zaa (Zbw t8)<1000000)∧z9=AJd9 t8 sl10)∧R (.tup [Zar (Qz70 z5 l7 z9),Zac (i64 0)]) b)):=by kernel_rfl
abbrev Qz43 (v0:TabT) (v1:LayT) (v2:GraT):List AV:= [Zar (Qz2 v0),Zar (Qz5 v1),Zac (Zdo (Value.iface 140 (Value.agg (Array.mk [Zet Zbb (Zfd v2),Zet Zbb (GraT.of v2),Zet Zbb (Zgb v2),Zet Zbb (GraT.st v2),Zet Zbb (Zdx v2)]))))]
theorem CCa9 (t:TabT) (ly:LayT) (u:GraT):wpFn prog ⟨TAg, [],wl,y,false⟩ 100 f52 [tabA t,layA ly,graA u] b R=(∃(t0:TabT) (ly1:LayT) (u2:GraT) (q3:Int),(Qz43 t ly u)=(Qz43 t0 ly1 u2)∧((Zaa (Zbo t0)<10000∧Zaa (Zbu t0)<10000∧Zaa (Zbw t0)<10000)∧q3=refS t0 ly1 (Zfd u2) (graOk u2 ly1))∧BIf (q3 !=(0:Int)) (R (.tup [Zar Qz6,Zac (i64 q3)]) b) (∃(l4:List UseT), [Zac (Zaf 4 (rowsU (Zbo t)))]= [Zac (Zaf 4 (rowsU l4))]∧Zaa l4≤1000000∧∃(l5:List GraT) (z6:List GraT) (g7:GraT), [Zac (Zaf 5 (rowsG (Zbu t))),Zar (Qz7 u),Zaw (Fn.func 95) [] []]= [Zac (Zaf 5 (rowsG l5)),Zar (Qz7 g7),Zaw (Fn.func 95) [] []]∧(Zaa l5<1000000∧z6=insSG g7 l5)∧∃(t8:TabT) (z9:List AskT) (sl10:Int), [Zar (Qz2 t),Zac (i64 (Zfd u))]= [Zar (Qz2 t8),Zac (i64 sl10)]∧((Zaa (Zbo t8)<1000000∧Zaa (Zbu t8)<1000000∧Zaa (Zbw t8)<1000000)∧z9=AJd9 t8 sl10)∧R (.tup [Zar (Qz70 l4 z6 z9),Zac (i64 0)]) b)):=by kernel_rfl
theorem BBo9 (e:Int):LeV (AV.tup [Zar [Zac (Zdo (Zcy none 0 0)),Zac (Zdo (Zcy none 0 0)),Zac (Zdo (Zcy none 0 0))],Zac (i64 e)]) (AV.tup [tabA ⟨[], [], []⟩,Zac (i64 e)]):=
 LeV.tups (.cons (LeV.aggs (by repeat' (first|exact .nil|refine .cons .rfl ?_|refine .cons (.nil rfl) ?_))) (.cons .rfl .nil))
def refEU (t:TabT) (ly:LayT) (u:UseT):Int:=refS t ly u.sl (useOk u ly)
def addSU (t:TabT) (ly:LayT) (u:UseT):TabT:=if refEU t ly u=0 then ⟨insSU u t.us,t.gs,AJd9 t u.sl⟩ else ⟨[], [], []⟩
theorem CDy9 (t:TabT) (ly:LayT) (u:UseT) (ht:TabOk t):PCall prog 56 [tabA t,layA ly,useA u] (.tup [tabA (addSU t ly u), .d (i64 (refEU t ly u))]):=by
 refine PCall.ofFnV (n:=100) (u:=false) (fun _=>fun _ _ _ _ _=>False) mixed CFo9 Zah (fun Ev _ _ _ _ _ h=>h.elim) func56 (by rfl) (by rfl) fun Ev bb=> ?_
 rw [CBz9]
 refine ⟨t,ly,u,_,rfl,⟨ht,rfl⟩,Zbd (fun h1=> ?_) fun h1=>⟨t.us,_,u,rfl,⟨by have:=ht.1;omega,rfl⟩,t.gs,rfl,by have:=ht.2.1;omega,t,_,u.sl,rfl,⟨⟨by have:=ht.1;omega,by have:=ht.2.1;omega,by have:=ht.2.2;omega⟩,rfl⟩, ?_⟩⟩
 · have h2:¬refEU t ly u=0:=by rw [refEU];simpa using h1
   rw [addSU,if_neg h2]
   exact BBo9 _
 · have h2:refEU t ly u=0:=by rw [refEU];simpa using h1
   rw [addSU,if_pos h2,h2]
   exact .rfl
def cAddU (args:List AV) (K:AV→Prop):Prop:=∃(t z:TabT) (ly:LayT) (u:UseT) (e:Int),args= [tabA t,layA ly,useA u]∧(TabOk t∧z=addSU t ly u∧e=refEU t ly u)∧K (.tup [tabA z, .d (i64 e)])
theorem BVa9:∀args K,cAddU args K→∃x,PCall prog 56 args x∧K x:=by
 rintro _ K ⟨t,_,ly,u,_,rfl,⟨h,rfl,rfl⟩,hk⟩;exact ⟨_,CDy9 t ly u h,hk⟩
def refEG (t:TabT) (ly:LayT) (u:GraT):Int:=refS t ly u.sl (graOk u ly)
def addSG (t:TabT) (ly:LayT) (u:GraT):TabT:=if refEG t ly u=0 then ⟨t.us,insSG u t.gs,AJd9 t u.sl⟩ else ⟨[], [], []⟩
theorem CDz9 (t:TabT) (ly:LayT) (u:GraT) (ht:TabOk t):PCall prog 52 [tabA t,layA ly,graA u] (.tup [tabA (addSG t ly u), .d (i64 (refEG t ly u))]):=by
 refine PCall.ofFnV (n:=100) (u:=false) (fun _=>fun _ _ _ _ _=>False) mixed CFp9 Zah (fun Ev _ _ _ _ _ h=>h.elim) func52 (by rfl) (by rfl) fun Ev bb=> ?_
 rw [CCa9]
 refine ⟨t,ly,u,_,rfl,⟨ht,rfl⟩,Zbd (fun h1=> ?_) fun h1=>⟨t.us,rfl,by have:=ht.1;omega,t.gs,_,u,rfl,⟨by have:=ht.2.1;omega,rfl⟩,t,_,u.sl,rfl,⟨⟨by have:=ht.1;omega,by have:=ht.2.1;omega,by have:=ht.2.2;omega⟩,rfl⟩, ?_⟩⟩
 · have h2:¬refEG t ly u=0:=by rw [refEG];simpa using h1
   rw [addSG,if_neg h2]
   exact BBo9 _
 · have h2:refEG t ly u=0:=by rw [refEG];simpa using h1
   rw [addSG,if_pos h2,h2]
   exact .rfl
def cAddG (args:List AV) (K:AV→Prop):Prop:=∃(t z:TabT) (ly:LayT) (u:GraT) (e:Int),args= [tabA t,layA ly,graA u]∧(TabOk t∧z=addSG t ly u∧e=refEG t ly u)∧K (.tup [tabA z, .d (i64 e)])
theorem BVb9:∀args K,cAddG args K→∃x,PCall prog 52 args x∧K x:=by
 rintro _ K ⟨t,_,ly,u,_,rfl,⟨h,rfl,rfl⟩,hk⟩;exact ⟨_,CDz9 t ly u h,hk⟩
noncomputable def lpG1:Code:=sub [1,8,1,1,1,1,0,1,2,3] (code f13)
def tmG1 (s:SideT) (me fr:Int) (x:AV) (n i:Int):List AV:= [.bad, .bad, .d (i64 me), .bad, .d (i64 fr), .ptr 0 0, .ptr 1 0, .bad, .bad, .bad, .ptr 2 0, .rptr (sideD s)]++Zap 31 .bad++ [x, .d (i64 n), .d (i64 i)]++Zap 90 .bad
def grtB (us:List UseT) (x:AV) (ak:List AskT):Blk:=⟨[.d (.sl 4 (rowsU us)),x, .d (.sl 3 (rowsA ak))],false,false,0⟩
def resB:Blk:=⟨[.d (.s (.slice none 0 0)), .d (.s (.slice none 0 0)), .d (.s (.slice none 0 0))],false,false,0⟩
def TG1:List (Nat×(List AV→(AV→Prop)→Prop)):= [(37,cFind),(49,AOw9),(50,CBi9)]
theorem CCq9:AAb9 prog TG1:=Zaj AUa9 (Zaj ALu9 (Zaj BLm9 Zak))
theorem rG1 (s:SideT) (ly:LayT) (us:List UseT) (ak:List AskT) (me fr:Int) (n:Nat) (i:Int) (cs:List AV):wpc prog ⟨TG1,GCG,wl,y,false⟩ 100 lpG1 (tmG1 s me fr (.gref 3 0 n 5) n i) [layB ly,grtB us (.gref 3 0 n 5) ak,resB,growB 0 cs] b (maskK 4 [2,4,5,6,10,11,43,44,45] K)=(BIf (decide (i<(n:Int))) (0=0∧BIf (decide (0≤i)&&decide (i<(n:Int))) (0=0∧∃(x0:Int) (x1:Int) (x2:Int) (x3:Int) (x4:Int),Zbq 5 (Zcf (Zao i*5) cs)=(Qz25 x0 x1 x2 x3 x4)∧∃(s5:SideT) (pe6:Int) (q7:NearT) (e8:Bool), [Zag (Qz3 s),Zac (i64 x2)]= [Zag (Qz3 s5),Zac (i64 pe6)]∧(Zaa (Zat s5)≤9223372036854775807∧q7=nearO (sFind s5 pe6)∧e8=Option.isSome (sFind s5 pe6))∧BIf e8 (∃(s9:SideT) (n10:NearT) (q11:Bool), [Zag (Qz3 s),Zar (Qz1 q7)]= [Zag (Qz3 s9),Zar (Qz1 n10)]∧q11=ATg9 s9 n10∧BIf q11 (∃(s12:SideT) (n13:NearT) (sl14:Int) (of15:Int) (q16:Bool), [Zag (Qz3 s),Zar (Qz1 q7),Zar [Zac (i64 x0),Zac (i64 x1)]]= [Zag (Qz3 s12),Zar (Qz1 n13),Zar [Zac (i64 sl14),Zac (i64 of15)]]∧((Zaa (Zbz n13)≤9223372036854775807∧Zaa (Zco n13)≤9223372036854775807)∧q16=APq9 s12 n13 sl14 of15)∧BIf q16 (0=0∧BIf (decide (0≤i)&&decide (i<(n:Int))) (0=0∧0=0∧BIf (decide (Zao i*5+4+1≤Zaa cs)) (BIf (Zbk [Blk.mk (Qz5 ly) false false 0,Blk.mk [Zac (Zaf 4 (rowsU us)),Zbi 3 0 n 5,Zac (Zaf 3 (rowsA ak))] false false 0,Blk.mk Qz6 false false 0,Blk.mk (Zbq (Zao i*5+4) cs++ [Zac (i64 (if Zae .i64 (fr+8)>x4 then Zae .i64 (fr+8) else x4))]++Zcf (Zao i*5+4+1) cs) false true 0] fun (blk17:Blk)=>lows 4 blk17.1) (K .normal (Zab::Zab::Zac (i64 me)::Zab::Zac (i64 fr)::Zai 0 0::Zai 1 0::bds 3 (Zai 2 0::Zag (Qz3 s)::bds 31 (Zbi 3 0 n 5::Zac (i64 (n:Int))::Zac (i64 (Zae .i64 (i+1)))::bds 90 []))) [Blk.mk (Qz5 ly) false false 0,Blk.mk [Zac (Zaf 4 (rowsU us)),Zbi 3 0 n 5,Zac (Zaf 3 (rowsA ak))] false false 0,Blk.mk Qz6 false false 0,Blk.mk (Zbq (Zao i*5+4) cs++ [Zac (i64 (if Zae .i64 (fr+8)>x4 then Zae .i64 (fr+8) else x4))]++Zcf (Zao i*5+4+1) cs) false true 0] b) False) False) False) (BIf (Zbk [Blk.mk (Qz5 ly) false false 0,Blk.mk [Zac (Zaf 4 (rowsU us)),Zbi 3 0 n 5,Zac (Zaf 3 (rowsA ak))] false false 0,Blk.mk Qz6 false false 0,Blk.mk cs false true 0] fun (blk18:Blk)=>lows 4 blk18.1) (K .normal (Zab::Zab::Zac (i64 me)::Zab::Zac (i64 fr)::Zai 0 0::Zai 1 0::bds 3 (Zai 2 0::Zag (Qz3 s)::bds 31 (Zbi 3 0 n 5::Zac (i64 (n:Int))::Zac (i64 (Zae .i64 (i+1)))::bds 90 []))) [Blk.mk (Qz5 ly) false false 0,Blk.mk [Zac (Zaf 4 (rowsU us)),Zbi 3 0 n 5,Zac (Zaf 3 (rowsA ak))] false false 0,Blk.mk Qz6 false false 0,Blk.mk cs false true 0] b) False)) (BIf (Zbk [Blk.mk (Qz5 ly) false false 0,Blk.mk [Zac (Zaf 4 (rowsU us)),Zbi 3 0 n 5,Zac (Zaf 3 (rowsA ak))] false false 0,Blk.mk Qz6 false false 0,Blk.mk cs false true 0] fun (blk19:Blk)=>lows 4 blk19.1) (K .normal (Zab::Zab::Zac (i64 me)::Zab::Zac (i64 fr)::Zai 0 0::Zai 1 0::bds 3 (Zai 2 0::Zag (Qz3 s)::bds 31 (Zbi 3 0 n 5::Zac (i64 (n:Int))::Zac (i64 (Zae .i64 (i+1)))::bds 90 []))) [Blk.mk (Qz5 ly) false false 0,Blk.mk [Zac (Zaf 4 (rowsU us)),Zbi 3 0 n 5,Zac (Zaf 3 (rowsA ak))] false false 0,Blk.mk Qz6 false false 0,Blk.mk cs false true 0] b) False)) (BIf (Zbk [Blk.mk (Qz5 ly) false false 0,Blk.mk [Zac (Zaf 4 (rowsU us)),Zbi 3 0 n 5,Zac (Zaf 3 (rowsA ak))] false false 0,Blk.mk Qz6 false false 0,Blk.mk cs false true 0] fun (blk20:Blk)=>lows 4 blk20.1) (K .normal (Zab::Zab::Zac (i64 me)::Zab::Zac (i64 fr)::Zai 0 0::Zai 1 0::bds 3 (Zai 2 0::Zag (Qz3 s)::bds 31 (Zbi 3 0 n 5::Zac (i64 (n:Int))::Zac (i64 (Zae .i64 (i+1)))::bds 90 []))) [Blk.mk (Qz5 ly) false false 0,Blk.mk [Zac (Zaf 4 (rowsU us)),Zbi 3 0 n 5,Zac (Zaf 3 (rowsA ak))] false false 0,Blk.mk Qz6 false false 0,Blk.mk cs false true 0] b) False)) False) (BIf (Zbk [Blk.mk (Qz5 ly) false false 0,Blk.mk [Zac (Zaf 4 (rowsU us)),Zbi 3 0 n 5,Zac (Zaf 3 (rowsA ak))] false false 0,Blk.mk Qz6 false false 0,Blk.mk cs false true 0] fun (blk21:Blk)=>lows 4 blk21.1) (K (Zbn 0) (Zab::Zab::Zac (i64 me)::Zab::Zac (i64 fr)::Zai 0 0::Zai 1 0::bds 3 (Zai 2 0::Zag (Qz3 s)::bds 31 (Zbi 3 0 n 5::Zac (i64 (n:Int))::Zac (i64 i)::bds 90 []))) [Blk.mk (Qz5 ly) false false 0,Blk.mk [Zac (Zaf 4 (rowsU us)),Zbi 3 0 n 5,Zac (Zaf 3 (rowsA ak))] false false 0,Blk.mk Qz6 false false 0,Blk.mk cs false true 0] b) False)):=by kernel_rfl
def AGp9 (s:SideT) (g:GraT):Bool:=(sFind s g.pe).isSome&&(ATg9 s (nearO (sFind s g.pe))&&APq9 s (nearO (sFind s g.pe)) g.sl g.of)
def BSs9 (fr:Int) (g:GraT):GraT:=⟨g.sl,g.of,g.pe,g.st,if Zae Zbb (fr+8)>g.un then Zae Zbb (fr+8) else g.un⟩
def AMf9 (s:SideT) (fr:Int) (g:GraT):GraT:=if AGp9 s g=true then BSs9 fr g else g
def curG (s:SideT) (fr:Int) (gs:List GraT) (i:Nat):List GraT:=(gs.take i).map (AMf9 s fr)++gs.drop i
theorem BUa9 (s:SideT) (fr:Int) (gs:List GraT) (i:Nat):(curG s fr gs i).length=gs.length:=by simp [curG];omega
theorem BNs9 {s:SideT} {fr:Int} {gs:List GraT} {i:Nat} {g:GraT} (h:gs[i]? =some g):(curG s fr gs i)[i]? =some g:=by
 have hi:=(Zad.1 h).1
 rw [curG,List.getElem?_append_right (by simp;omega)]
 simp only [List.length_map,Zcb,Nat.min_eq_left (Nat.le_of_lt hi),Nat.sub_self]
 rw [List.getElem?_drop];simpa using h
theorem AVs9 {s:SideT} {fr:Int} {gs:List GraT} {i:Nat} {g:GraT} (h:gs[i]? =some g):curG s fr gs (i+1)=(curG s fr gs i).set i (AMf9 s fr g):=by
 have hi:=(Zad.1 h).1
 rw [curG,curG,Zgl,h,List.set_append_right _ _ (by simp;omega)]
 simp only [List.length_map,Zcb,Nat.min_eq_left (Nat.le_of_lt hi),Nat.sub_self,Option.toList_some,List.map_append,Zdy,List.map_nil,Zbl,Zex,List.nil_append]
 congr 1
 rw [List.drop_eq_getElem_cons hi,List.set_cons_zero]
theorem AOu9 {s:SideT} {fr:Int} {gs:List GraT} {i:Nat} {g:GraT} (h:gs[i]? =some g) (hr:AGp9 s g=false):curG s fr gs (i+1)=curG s fr gs i:=by
 rw [AVs9 h,AMf9,hr,if_neg (by decide)]
 exact ABj9 (BNs9 h)
theorem CAo9 {cur:List GraT} {i:Nat} {g:GraT} (h:cur[i]? =some g) (z:Int):(flatA (rowsG cur)).take (i*5+4)++ [Zac (i64 z)]++(flatA (rowsG cur)).drop (i*5+4+1)=flatA (rowsG (cur.set i ⟨g.sl,g.of,g.pe,g.st,z⟩)):=by
 have hi:=(Zad.1 h).1
 have e:=BTk9 AFi9 (hs:=cur) (i:=i) hi ⟨g.sl,g.of,g.pe,g.st,z⟩
 have ea:=fl_at AFi9 h
 have f:∀l:List GraT,flatA (rowsG l)=flatA (l.map graR):=fun _=>rfl
 rw [f,f,←e,List.take_add]
 have e4:((flatA (cur.map graR)).drop (i*5)).take 4=((graR g).map Zac).take 4:=by rw [←ea,List.take_take];rfl
 rw [e4]
 simp only [graR,Zdy,List.map_nil,List.take_succ_cons,List.take_zero,Zbl,Zex,List.nil_append]
def g1B (ly:LayT) (us:List UseT) (ak:List AskT) (n:Nat) (gs:List GraT):List Blk:= [layB ly,grtB us (.gref 3 0 n 5) ak,resB,growB 0 (flatA (rowsG gs))]
theorem CEd9 (ly:LayT) (us:List UseT) (ak:List AskT) (n:Nat) (gs:List GraT):Zbk (g1B ly us ak n gs) (fun blk=>lows 4 blk.1)=true:=by
 simp only [g1B,List.all_cons,List.all_nil,Zfz,Zal]
 exact ⟨rfl,rfl,rfl,ACt9 4 _⟩
def AGc9 (s:SideT):Prop:=s.ns.length≤9223372036854775807∧∀x∈s.ns,AEv9 x
theorem BDc9 {s:SideT} (hs:AGc9 s) (pe:Int):AEv9 (nearO (sFind s pe)):=by
 cases h:sFind s pe with
 |none=>exact ⟨by decide,by decide,by decide⟩
 |some n=>exact hs.2 n (List.mem_of_find?_eq_some h)
theorem wrG1 {Ev:Env prog} {b:Ev.β} {Q:Exit→St Ev.β→Prop} (s:SideT) (ly:LayT) (us:List UseT) (ak:List AskT) (me fr:Int) (gs:List GraT) (hs:AGc9 s) (hl:gs.length<1000000)
   (hQ:Q (.exit 0) ⟨tmG1 s me fr (.gref 3 0 gs.length 5) gs.length gs.length,g1B ly us ak gs.length (curG s fr gs gs.length),b⟩):WR Ev lpG1 (gs.length+1) ⟨tmG1 s me fr (.gref 3 0 gs.length 5) gs.length (0:Nat),g1B ly us ak gs.length (curG s fr gs 0),b⟩ Q:=by
 have low:=CEd9 ly us ak gs.length
 refine WR.scanG (X:=⟨TG1,GCG,wlW Ev,Ev.Y,false⟩) (k:=100) (L:=4) [2,4,5,6,10,11,43,44,45] mixed (CX.Ok.of CCq9 AZu9) gs (fun _=>false) (fun i=>tmG1 s me fr (.gref 3 0 gs.length 5) gs.length (i:Nat)) (fun i=>g1B ly us ak gs.length (curG s fr gs i)) (fun _=>rfl) 0 0 (fun i g _ hi hg K _ k2=> ?_) (fun K k1=> ?_) (fun _=>hQ) (fun h=>by simp at h) gs.length 0 (by simp) (Zav _) rfl
 · refine Eq.mpr (rG1 _ _ _ K s ly us ak me fr gs.length i _) ?_
   have hk:=k2 rfl
   have hc:=BNs9 (s:=s) (fr:=fr) hg
   have hn:=BDc9 hs g.pe
   refine Zba (by simp;omega) ⟨rfl,Zba (by simp;omega) ⟨rfl,_,_,_,_,_,by rw [Zcm];exact fl_at AFi9 hc,s,g.pe,_,_,rfl,⟨hs.1,rfl,rfl⟩,Zbd (fun h1=>⟨s,nearO (sFind s g.pe),_,rfl,rfl,Zbd (fun h2=>⟨s,nearO (sFind s g.pe),g.sl,g.of,_,rfl,⟨⟨by have:=hn.1;omega,by have:=hn.2.2;omega⟩,rfl⟩,Zbd (fun h3=> ?_) fun h3=> ?_⟩) fun h2=> ?_⟩) fun h1=> ?_⟩⟩
   · have hr:AGp9 s g=true:=by rw [AGp9,h1,h2,h3];rfl
     have e4:=CAo9 hc (BSs9 fr g).un
     have es:curG s fr gs (i+1)=(curG s fr gs i).set i ⟨g.sl,g.of,g.pe,g.st,(BSs9 fr g).un⟩:=by rw [AVs9 hg,AMf9,if_pos hr];rfl
     have hl2:=low (curG s fr gs (i+1))
     simp only [g1B,es,←e4] at hk hl2
     refine ⟨rfl,Zba (by simp;omega) ⟨rfl,rfl,Zba ?_ ?_⟩⟩
     · have:=AYl9 AFi9 (curG s fr gs i)
       rw [Zcm,show flatA (rowsG (curG s fr gs i))=flatA ((curG s fr gs i).map graR) from rfl,this,BUa9]
       simp;omega
     · rw [Zcm,wrapN (by omega)]
       exact Zba hl2 hk
   · have hr:AGp9 s g=false:=by rw [AGp9,h1,h2,h3];rfl
     rw [AOu9 hg hr] at hk
     rw [wrapN (by omega)]
     exact Zba (low _) hk
   · have hr:AGp9 s g=false:=by rw [AGp9,h1,h2];rfl
     rw [AOu9 hg hr] at hk
     rw [wrapN (by omega)]
     exact Zba (low _) hk
   · have hr:AGp9 s g=false:=by rw [AGp9,h1];rfl
     rw [AOu9 hg hr] at hk
     rw [wrapN (by omega)]
     exact Zba (low _) hk
 · refine Eq.mpr (rG1 _ _ _ K s ly us ak me fr gs.length gs.length _) ?_
   exact Zde (by simp) (Zba (low _) k1)
theorem BDs9 {tm:List AV} {hp:List Blk} {c off:Nat} {blk:Blk} {x y:AV} {gs:List Nat} (hc:hp[c]? =some blk) (hx:blk.cells[off]? =some x) (hs:SealR hp x y) (hg:∀g∈occ x,g∈gs) (ho:y.isOwn=false) (hcg:(frz hp gs)[c]? =some blk):
   FrzOk ⟨tm,hp, []⟩ ⟨tm,(frz hp gs).set c {blk with cells:=blk.cells.set off y}, []⟩:=by
 intro S X yv w m B hv a hr
 obtain ⟨hl,hr,hpv⟩:=hr
 obtain ⟨S',h1,h2,h3,h4⟩:=Rel.frzAll gs hr
 refine ⟨S',⟨Agree.refl _ _ _,h1,h2,MStep.refl m⟩,hl, ?_,hpv⟩
 have hr':Rel S X yv w m ((tm.zip a.tmps.toList++B)++AAa9 hp hv) hp hv:=by simpa using hr
 have hvl:c<hv.length:=by rw [hr'.hl];exact (Zad.1 hc).1
 have hcv:hv[c]? =some hv[c]:=Zaz hvl
 obtain ⟨pre,post,e1,e2⟩:=ABn9 hcg hcv
 have e3:=e2 {blk with cells:=blk.cells.set off y} hv[c]
 have hvs:hv.set c hv[c]=hv:=ABj9 hcv
 rw [hvs] at e3
 have hcp:AAa9 (frz hp gs) hv=AAa9 hp hv:=AEk9 hv (AOn9 gs hp)
 have h3':Rel S' X yv w m ((blk.cells.zip hv[c])++((tm.zip a.tmps.toList++B)++(pre++post))) (frz hp gs) hv:=by
   refine Rel.perm (A:=(tm.zip a.tmps.toList++B)++AAa9 hp hv) (by simpa using h3) ?_
   rw [←hcp,e1]
   have:((tm.zip a.tmps.toList++B)++(pre++blk.cells.zip hv[c]++post)).Perm ((blk.cells.zip hv[c])++((tm.zip a.tmps.toList++B)++(pre++post))):=by
     have p1:(pre++blk.cells.zip hv[c]++post).Perm (blk.cells.zip hv[c]++(pre++post)):=by
       rw [←Zbl];exact List.Perm.append_right _ List.perm_append_comm
     refine (List.Perm.append_left _ p1).trans ?_
     rw [←Zbl,←Zbl (blk.cells.zip hv[c])]
     exact List.Perm.append_right _ List.perm_append_comm
   exact this
 have key:∀(l:List AV) (vs:List Value) (o:Nat),l[o]? =some x→(∀p∈l.zip vs,RV S w m yv p.1 p.2)→RP S' w m yv (l.zip vs) ((l.set o y).zip vs):=by
   intro l
   induction l with
   |nil=>intro vs o h;simp at h
   | cons z l ih=>
     intro vs o h hrv
     cases vs with
     |nil=>rw [List.zip_nil_right,List.zip_nil_right];exact .nil
     | cons v vs=>
       cases o with
       | zero=>
         simp at h;subst h
         refine .turn ?_ (AKz9 ho) ?_
         · exact (AIm9 hr' h1 hs (fun g hgg p hp i hi=>h4 g (hg g hgg) p hp i hi) (hrv (z,v) (by simp))).opened
         · have:∀q:List (AV×Value),RP S' w m yv q q:=fun q=>by
             induction q with
             |nil=>exact .nil
             |cons p q ih=>exact .keep ih
           exact this _
       | succ o=>
         simp only [List.set_cons_succ,List.zip_cons_cons]
         exact .keep (ih vs o (by simpa using h) fun p hp=>hrv p (List.mem_cons_of_mem _ hp))
 have h5:=Rel.rp (key blk.cells hv[c] off hx fun p hp=>hr'.rv p (Zdz _ (by rw [←hcp,e1];exact List.mem_append_left _ (Zdz _ hp)))) h3'
 have h6:Rel S' X yv w m ((tm.zip a.tmps.toList++B)++AAa9 ((frz hp gs).set c {blk with cells:=blk.cells.set off y}) hv) (frz hp gs) hv:=by
   refine h5.perm ?_
   rw [e3]
   have p1:(pre++(blk.cells.set off y).zip hv[c]++post).Perm ((blk.cells.set off y).zip hv[c]++(pre++post)):=by
     rw [←Zbl];exact List.Perm.append_right _ List.perm_append_comm
   refine List.Perm.symm ((List.Perm.append_left _ p1).trans ?_)
   rw [←Zbl,←Zbl ((blk.cells.set off y).zip hv[c])]
   exact List.Perm.append_right _ List.perm_append_comm
 have h7:Rel S' X yv w m ((tm.zip a.tmps.toList++B)++AAa9 ((frz hp gs).set c {blk with cells:=blk.cells.set off y}) hv) ((frz hp gs).set c {blk with cells:=blk.cells.set off y}) hv:=by
   refine ⟨h6.lt,h6.rv,h6.pw,h6.nm,h6.sp,h6.mnd,by rw [List.length_set];exact h6.ml,by rw [List.length_set];exact h6.hl,fun g b' p vs g1 g2 g3=> ?_,h6.gl⟩
   by_cases hgc:c=g
   · subst hgc
     rw [List.getElem?_set_self (Zad.1 hcg).1] at g1
     cases g1
     have:=h6.bl c blk p vs hcg g2 g3
     simpa using this
   · rw [List.getElem?_set_ne hgc] at g1
     exact h6.bl g b' p vs g1 g2 g3
 simpa using h7
def frozB (cs:List AV):Blk:=⟨cs,true,true,0⟩
noncomputable def lpG2:Code:=sub [1,8,1,1,1,1,1,1,0,1,2,3] (code f13)
noncomputable def lpG3:Code:=sub [1,8,1,1,1,1,1,1,0,1,2,3,1,1,0,2,1,1,1,2,3] (code f13)
def tmG2 (s:SideT) (me fr:Int) (i:Int):List AV:= [.bad, .bad, .d (i64 me), .bad, .d (i64 fr), .ptr 0 0, .ptr 1 0, .bad, .bad, .bad, .ptr 2 0, .rptr (sideD s)]++Zap 72 .bad++ [.d (.sl 31 (rowsN s.ns)), .d (i64 s.ns.length), .d (i64 i)]++Zap 49 .bad
def tmG3 (L:Nat) (s:SideT) (me fr:Int) (i:Int) (ak:List AskT) (j:Int):List AV:= [.bad, .bad, .d (i64 me), .bad, .d (i64 fr), .ptr 0 0, .ptr 1 0, .bad, .bad, .bad, .ptr 2 0, .rptr (sideD s)]++Zap 6 .bad++ [.ptr L 0]++Zap 65 .bad++ [.d (.sl 31 (rowsN s.ns)), .d (i64 s.ns.length), .d (i64 i)]++Zap 9 .bad++ [.d (.sl 3 (rowsA ak)), .d (i64 ak.length), .d (i64 j)]++Zap 37 .bad
def TG3:List (Nat×(List AV→(AV→Prop)→Prop)):= [(49,AOw9),(51,BOc9),(52,cAddG)]
theorem BMt9:AAb9 prog TG3:=Zaj ALu9 (Zaj BFi9 (Zaj BVb9 Zak))
abbrev Qz22 (v0:LayT) (v1:TabT) (v2:NearT):= [Blk.mk (Qz5 v0) false false 0,Blk.mk (Qz2 v1) false false 0,Blk.mk Qz6 false false 0,Blk.mk (Qz1 v2) false false 0]
theorem rG3_3 (s:SideT) (ly:LayT) (t:TabT) (n:NearT) (me fr i:Int) (ak:List AskT) (j:Int):wpc prog ⟨TG3, [],wl,y,false⟩ 100 lpG3 (tmG3 3 s me fr i ak j) [layB ly,tabB t,resB,nearB n] b (maskK 4 [2,4,5,6,10,11,18,84,85,86,96,97,98] K)=(BIf (decide (j<((Zaa ak:Nat):Int))) (BIf (true&&decide (0≤j)) (∃(x0:Int) (x1:Int) (x2:Int),(rowsA ak)[Zao j]? =some [i64 x0,i64 x1,i64 x2]∧BIf (x2 !=me) (K .normal (Zab::Zab::Zac (i64 me)::Zab::Zac (i64 fr)::Zai 0 0::Zai 1 0::bds 3 (Zai 2 0::Zag (Qz3 s)::bds 6 (Zai 3 0::bds 65 (Zac (Zaf 31 (rowsN (Zat s)))::Zac (i64 ((Zaa (Zat s):Nat):Int))::Zac (i64 i)::bds 9 (Zac (Zaf 3 (rowsA ak))::Zac (i64 ((Zaa ak:Nat):Int))::Zac (i64 (Zae .i64 (j+1)))::bds 37 []))))) (Qz22 ly t n) b) (∃(s5:SideT) (sl6:Int) (of7:Int) (but8:Int) (q9:Bool), [Zag (Qz3 s),Zar [Zac (i64 x0),Zac (i64 x1)],Zac (i64 (Zgk n))]= [Zag (Qz3 s5),Zar [Zac (i64 sl6),Zac (i64 of7)],Zac (i64 but8)]∧((Zaa (Zat s5)≤9223372036854775807∧(∀(x:NearT),x∈Zat s5→Zaa (Zbz x)≤9223372036854775807∧Zaa (Zbr x)≤9223372036854775807∧Zaa (Zco x)≤9223372036854775807)∧layOk (Zcq s5)=true)∧q9=usedS (Zat s5) sl6 of7 but8)∧BIf q9 (K .normal (Zab::Zab::Zac (i64 me)::Zab::Zac (i64 fr)::Zai 0 0::Zai 1 0::bds 3 (Zai 2 0::Zag (Qz3 s)::bds 6 (Zai 3 0::bds 65 (Zac (Zaf 31 (rowsN (Zat s)))::Zac (i64 ((Zaa (Zat s):Nat):Int))::Zac (i64 i)::bds 9 (Zac (Zaf 3 (rowsA ak))::Zac (i64 ((Zaa ak:Nat):Int))::Zac (i64 (Zae .i64 (j+1)))::bds 37 []))))) (Qz22 ly t n) b) (∃(t10:TabT) (z11:TabT) (ly12:LayT) (u13:GraT) (e14:Int), [Zar (Qz2 t),Zar (Qz5 ly),Zar [Zac (i64 x0),Zac (i64 x1),Zac (i64 (Zgk n)),Zac (i64 fr),Zac (i64 (Zae .i64 (fr+8)))]]= [Zar (Qz2 t10),Zar (Qz5 ly12),Zar (Qz7 u13)]∧((Zaa (Zbo t10)<10000∧Zaa (Zbu t10)<10000∧Zaa (Zbw t10)<10000)∧z11=addSG t10 ly12 u13∧e14=refEG t10 ly12 u13)∧BIf (e14==(0:Int)) (K .normal (Zab::Zab::Zac (i64 me)::Zab::Zac (i64 fr)::Zai 0 0::Zai 1 0::bds 3 (Zai 2 0::Zag (Qz3 s)::bds 6 (Zai 3 0::bds 65 (Zac (Zaf 31 (rowsN (Zat s)))::Zac (i64 ((Zaa (Zat s):Nat):Int))::Zac (i64 i)::bds 9 (Zac (Zaf 3 (rowsA ak))::Zac (i64 ((Zaa ak:Nat):Int))::Zac (i64 (Zae .i64 (j+1)))::bds 37 []))))) (Qz22 ly z11 n) b) (K .normal (Zab::Zab::Zac (i64 me)::Zab::Zac (i64 fr)::Zai 0 0::Zai 1 0::bds 3 (Zai 2 0::Zag (Qz3 s)::bds 6 (Zai 3 0::bds 65 (Zac (Zaf 31 (rowsN (Zat s)))::Zac (i64 ((Zaa (Zat s):Nat):Int))::Zac (i64 i)::bds 9 (Zac (Zaf 3 (rowsA ak))::Zac (i64 ((Zaa ak:Nat):Int))::Zac (i64 (Zae .i64 (j+1)))::bds 37 []))))) (Qz22 ly t n) b)))) False) (K (Zbn 4) (Zab::Zab::Zac (i64 me)::Zab::Zac (i64 fr)::Zai 0 0::Zai 1 0::bds 3 (Zai 2 0::Zag (Qz3 s)::bds 6 (Zai 3 0::bds 65 (Zac (Zaf 31 (rowsN (Zat s)))::Zac (i64 ((Zaa (Zat s):Nat):Int))::Zac (i64 i)::bds 9 (Zac (Zaf 3 (rowsA ak))::Zac (i64 ((Zaa ak:Nat):Int))::Zac (i64 j)::bds 37 []))))) (Qz22 ly t n) b)):=by kernel_rfl
abbrev Qz17 (v0:LayT) (v1:TabT) (v2:List AV) (v3:NearT):= [Blk.mk (Qz5 v0) false false 0,Blk.mk (Qz2 v1) false false 0,Blk.mk Qz6 false false 0,Blk.mk v2 true true 0,Blk.mk (Qz1 v3) false false 0]
theorem rG3_4 (s:SideT) (ly:LayT) (t:TabT) (n:NearT) (me fr i:Int) (ak:List AskT) (j:Int) (cs:List AV):wpc prog ⟨TG3, [],wl,y,false⟩ 100 lpG3 (tmG3 4 s me fr i ak j) [layB ly,tabB t,resB,frozB cs,nearB n] b (maskK 5 [2,4,5,6,10,11,18,84,85,86,96,97,98] K)=(BIf (decide (j<((Zaa ak:Nat):Int))) (BIf (true&&decide (0≤j)) (∃(x0:Int) (x1:Int) (x2:Int),(rowsA ak)[Zao j]? =some [i64 x0,i64 x1,i64 x2]∧BIf (x2 !=me) (BIf (Zbk (Qz17 ly t cs n) fun (blk5:Blk)=>lows 5 blk5.1) (K .normal (Zab::Zab::Zac (i64 me)::Zab::Zac (i64 fr)::Zai 0 0::Zai 1 0::bds 3 (Zai 2 0::Zag (Qz3 s)::bds 6 (Zai 4 0::bds 65 (Zac (Zaf 31 (rowsN (Zat s)))::Zac (i64 ((Zaa (Zat s):Nat):Int))::Zac (i64 i)::bds 9 (Zac (Zaf 3 (rowsA ak))::Zac (i64 ((Zaa ak:Nat):Int))::Zac (i64 (Zae .i64 (j+1)))::bds 37 []))))) (Qz17 ly t cs n) b) False) (∃(s6:SideT) (sl7:Int) (of8:Int) (but9:Int) (q10:Bool), [Zag (Qz3 s),Zar [Zac (i64 x0),Zac (i64 x1)],Zac (i64 (Zgk n))]= [Zag (Qz3 s6),Zar [Zac (i64 sl7),Zac (i64 of8)],Zac (i64 but9)]∧((Zaa (Zat s6)≤9223372036854775807∧(∀(x:NearT),x∈Zat s6→Zaa (Zbz x)≤9223372036854775807∧Zaa (Zbr x)≤9223372036854775807∧Zaa (Zco x)≤9223372036854775807)∧layOk (Zcq s6)=true)∧q10=usedS (Zat s6) sl7 of8 but9)∧BIf q10 (BIf (Zbk (Qz17 ly t cs n) fun (blk11:Blk)=>lows 5 blk11.1) (K .normal (Zab::Zab::Zac (i64 me)::Zab::Zac (i64 fr)::Zai 0 0::Zai 1 0::bds 3 (Zai 2 0::Zag (Qz3 s)::bds 6 (Zai 4 0::bds 65 (Zac (Zaf 31 (rowsN (Zat s)))::Zac (i64 ((Zaa (Zat s):Nat):Int))::Zac (i64 i)::bds 9 (Zac (Zaf 3 (rowsA ak))::Zac (i64 ((Zaa ak:Nat):Int))::Zac (i64 (Zae .i64 (j+1)))::bds 37 []))))) (Qz17 ly t cs n) b) False) (∃(t12:TabT) (z13:TabT) (ly14:LayT) (u15:GraT) (e16:Int), [Zar (Qz2 t),Zar (Qz5 ly),Zar [Zac (i64 x0),Zac (i64 x1),Zac (i64 (Zgk n)),Zac (i64 fr),Zac (i64 (Zae .i64 (fr+8)))]]= [Zar (Qz2 t12),Zar (Qz5 ly14),Zar (Qz7 u15)]∧((Zaa (Zbo t12)<10000∧Zaa (Zbu t12)<10000∧Zaa (Zbw t12)<10000)∧z13=addSG t12 ly14 u15∧e16=refEG t12 ly14 u15)∧BIf (e16==(0:Int)) (BIf (Zbk (Qz17 ly z13 cs n) fun (blk17:Blk)=>lows 5 blk17.1) (K .normal (Zab::Zab::Zac (i64 me)::Zab::Zac (i64 fr)::Zai 0 0::Zai 1 0::bds 3 (Zai 2 0::Zag (Qz3 s)::bds 6 (Zai 4 0::bds 65 (Zac (Zaf 31 (rowsN (Zat s)))::Zac (i64 ((Zaa (Zat s):Nat):Int))::Zac (i64 i)::bds 9 (Zac (Zaf 3 (rowsA ak))::Zac (i64 ((Zaa ak:Nat):Int))::Zac (i64 (Zae .i64 (j+1)))::bds 37 []))))) (Qz17 ly z13 cs n) b) False) (BIf (Zbk (Qz17 ly t cs n) fun (blk18:Blk)=>lows 5 blk18.1) (K .normal (Zab::Zab::Zac (i64 me)::Zab::Zac (i64 fr)::Zai 0 0::Zai 1 0::bds 3 (Zai 2 0::Zag (Qz3 s)::bds 6 (Zai 4 0::bds 65 (Zac (Zaf 31 (rowsN (Zat s)))::Zac (i64 ((Zaa (Zat s):Nat):Int))::Zac (i64 i)::bds 9 (Zac (Zaf 3 (rowsA ak))::Zac (i64 ((Zaa ak:Nat):Int))::Zac (i64 (Zae .i64 (j+1)))::bds 37 []))))) (Qz17 ly t cs n) b) False)))) False) (BIf (Zbk (Qz17 ly t cs n) fun (blk19:Blk)=>lows 5 blk19.1) (K (Zbn 4) (Zab::Zab::Zac (i64 me)::Zab::Zac (i64 fr)::Zai 0 0::Zai 1 0::bds 3 (Zai 2 0::Zag (Qz3 s)::bds 6 (Zai 4 0::bds 65 (Zac (Zaf 31 (rowsN (Zat s)))::Zac (i64 ((Zaa (Zat s):Nat):Int))::Zac (i64 i)::bds 9 (Zac (Zaf 3 (rowsA ak))::Zac (i64 ((Zaa ak:Nat):Int))::Zac (i64 j)::bds 37 []))))) (Qz17 ly t cs n) b) False)):=by kernel_rfl
end Go.Proofs.YthcbbmnjikhihaaGreat.Am
