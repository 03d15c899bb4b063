import Derived.Test.YthcbbmnjikhihaaGreatPsJ3
set_option linter.unusedSimpArgs false
set_option linter.unusedVariables false
namespace Go.Proofs.YthcbbmnjikhihaaGreat.Am
open Go Go.RowKit Go.Proofs Tryz
open AV renaming agg → Zao, bad → Zad, d → Zab, fn → Zat, gref → Zbu, ptr → Zak, rptr → Zag
open AskT renaming sl → Zde
open BIf renaming f → Zdl, of → Zbh, t → Zbg
open Bool renaming and_eq_true → Zaj, and_false → Zem, false_and → Zdk, false_eq_true → Zdi, not_eq_false' → Zfu, not_eq_true' → Zcq, not_not → Zfh, or_eq_true → Zdp, or_true → Zee, true_or → Zeq
open AAb9 renaming cons → Zai, nil → Zal
open Go.Code renaming loop → Zaz
open Dv renaming fn → Zco, pt → Zdn, s → Zdc, sl → Zaf
open Go.Exit renaming exit → Zbv
open FCall renaming ofFnF → Zgc
open GraT renaming pe → Zfv, un → Zdm
open Int renaming toNat → Zav, toNat_natCast → Zcu, toNat_zero → Zfd
open Go.IntKind renaming i64 → Zay, wrap → Zae
open LayT renaming da → Zds, no → Zez
open LeH renaming refl → Zce
open List renaming all → Zcb, append_assoc → Zbt, append_nil → Zfw, cons_append → Zgb, drop → Zdf, drop_eq_getElem_cons → Zeu, drop_zero → Zfe, filter → Zcg, findIdx?_cons → Zep, getElem?_eq_getElem → Zba, getElem?_eq_some_iff → Zac, length → Zaa, length_append → Zcr, length_cons → Zei, length_filter_le → Zdu, length_take → Zdb, map_cons → Zdv, mem_append_right → Zft, mem_cons_self → Zbz, mem_map → Zbb, replicate → Zaq, take → Zcs, take_append_of_le_length → Zel, take_length → Zdx, take_succ_eq_append_getElem → Zfy
open Nat renaming add_mul → Zcp, le_refl → Zau
open NearT renaming ak → Zcc, gs → Zbn, us → Zbp
open Option renaming map_eq_some_iff → Zan
open PCall renaming ofFn → Zbe, ofFnL → Zfn, ofFnW → Zdy
open SCall renaming ofW → Zfz
open AAk9 renaming cons → Zbw, nil → Zah
open SideT renaming lay → Zcn, ns → Zas
open TabT renaming ak → Zbo, gs → Zbl, us → Zbj
open Go.Value renaming int → Zeo, pointer → Zcf, slice → Zcl
open WR renaming ofMask → Zdw
variable {β:Type} (wl:WLT β) (y:ACv9 β) (b:β) (R:AV→β→Prop) (Kr:AV→List Blk→β→Prop) (K:Exit→List AV→List Blk→β→Prop) (Q:β→Prop)
open AV (bad)
set_option linter.unusedVariables false
set_option maxRecDepth 20000
set_option maxHeartbeats 1000000
def AJm9 {α:Type} (p:α→Bool) (x:α):List α:=if p x=true then [x] else []
theorem AJu9 {α:Type} (p:α→Bool) (x:α):(AJm9 p x).length≤1:=by rw [AJm9];split<;>simp
theorem AOl9 {α:Type} {p:α→Bool} {x:α} (h:p x=true):AJm9 p x= [x]:=by rw [AJm9,if_pos h]
theorem AOm9 {α:Type} {p:α→Bool} {x:α} (h:p x=false):AJm9 p x= []:=by rw [AJm9,if_neg (by simp [h])]
theorem AEh9 {α:Type} (p:α→Bool) (l:List α):l.flatMap (AJm9 p)=l.filter p:=by
 induction l with
 |nil=>rfl
 |cons x r ih=>rw [List.flatMap_cons,ih,List.filter_cons,AJm9];split<;>simp
def TIs:List (Nat×(List AV→(AV→Prop)→Prop)):= [(81,BFx9),(36,cIn)]
theorem CCb9:AAb9 prog TIs:=Zai ASb9 (Zai BFy9 Zal)
def useIs (x:UseT) (l:LayT):Bool:=ABv9 x.sl x.of x.pe l&&inN x.st 1000000000
def graIs (x:GraT) (l:LayT):Bool:=ABv9 x.sl x.of x.pe l&&(decide (x.st≥0)&&(inN x.st x.un&&decide (x.un≤1000000000)))
theorem BSu9 (x:UseT) (ly:LayT):wpFn prog ⟨TIs, [],wl,y,false⟩ 100 f76 [layA ly,useA x] b R=(∃(sl0:Int) (of1:Int) (pe2:Int) (l3:LayT) (z4:Bool), [Zao (Qz5 ly),Zao [Zab (i64 (UseT.sl x)),Zab (i64 (UseT.of x))],Zab (i64 (UseT.pe x))]= [Zao (Qz5 l3),Zao [Zab (i64 sl0),Zab (i64 of1)],Zab (i64 pe2)]∧z4=ABv9 sl0 of1 pe2 l3∧BIf z4 (∃(n5:Int) (h6:Int) (z7:Bool), [Zab (i64 (UseT.st x)),Zab (i64 1000000000)]= [Zab (i64 n5),Zab (i64 h6)]∧z7=inN n5 h6∧R (.d (bo z7)) b) (R (.d (bo false)) b)):=by kernel_rfl
theorem BSv9 (x:GraT) (ly:LayT):wpFn prog ⟨TIs, [],wl,y,false⟩ 100 f79 [layA ly,graA x] b R=(∃(sl0:Int) (of1:Int) (pe2:Int) (l3:LayT) (z4:Bool), [Zao (Qz5 ly),Zao [Zab (i64 (GraT.sl x)),Zab (i64 (GraT.of x))],Zab (i64 (Zfv x))]= [Zao (Qz5 l3),Zao [Zab (i64 sl0),Zab (i64 of1)],Zab (i64 pe2)]∧z4=ABv9 sl0 of1 pe2 l3∧BIf z4 (BIf (decide (GraT.st x≥(0:Int))) (∃(n5:Int) (h6:Int) (z7:Bool), [Zab (i64 (GraT.st x)),Zab (i64 (Zdm x))]= [Zab (i64 n5),Zab (i64 h6)]∧z7=inN n5 h6∧BIf z7 (R (.d (bo (decide (Zdm x≤(1000000000:Int))))) b) (R (.d (bo false)) b)) (R (.d (bo false)) b)) (R (.d (bo false)) b)):=by kernel_rfl
theorem BZc9 (x:UseT) (ly:LayT):PCall prog 76 [layA ly,useA x] (.d (bo (useIs x ly))):=by
 refine Zbe (n:=100) (u:=false) mixed CCb9 Zah func76 (by rfl) (by rfl) fun Ev bb=> ?_
 rw [BSu9]
 refine ⟨_,_,_,ly,_,rfl,rfl,Zbh (fun h=>⟨_,_,_,rfl,rfl, ?_⟩) fun h=> ?_⟩
 · simp only [useIs,h,Bool.true_and]
 · simp only [useIs,h,Zdk]
def CBd9 (args:List AV) (K:AV→Prop):Prop:=∃(x:UseT) (ly:LayT) (q:Bool),args= [layA ly,useA x]∧q=useIs x ly∧K (.d (bo q))
theorem BMe9:∀args K,CBd9 args K→∃x,PCall prog 76 args x∧K x:=by
 rintro _ K ⟨x,ly,_,rfl,rfl,hk⟩;exact ⟨_,BZc9 x ly,hk⟩
theorem BZd9 (x:GraT) (ly:LayT):PCall prog 79 [layA ly,graA x] (.d (bo (graIs x ly))):=by
 refine Zbe (n:=100) (u:=false) mixed CCb9 Zah func79 (by rfl) (by rfl) fun Ev bb=> ?_
 rw [BSv9]
 refine ⟨_,_,_,ly,_,rfl,rfl, ?_⟩
 repeat' (first|refine ⟨_,_,_,rfl,rfl, ?_⟩|refine Zbh (fun _=> ?_) fun _=> ?_)
 all_goals (rw [graIs];simp only [*,Bool.true_and,Zdk])
def CBe9 (args:List AV) (K:AV→Prop):Prop:=∃(x:GraT) (ly:LayT) (q:Bool),args= [layA ly,graA x]∧q=graIs x ly∧K (.d (bo q))
theorem BMf9:∀args K,CBe9 args K→∃x,PCall prog 79 args x∧K x:=by
 rintro _ K ⟨x,ly,_,rfl,rfl,hk⟩;exact ⟨_,BZd9 x ly,hk⟩
def TIu:List (Nat×(List AV→(AV→Prop)→Prop)):= [(76,CBd9)]
theorem CEs9:AAb9 prog TIu:=Zai BMe9 Zal
def TIg:List (Nat×(List AV→(AV→Prop)→Prop)):= [(79,CBe9)]
theorem CEu9:AAb9 prog TIg:=Zai BMf9 Zal
def TIa:List (Nat×(List AV→(AV→Prop)→Prop)):= [(81,BFx9)]
theorem CEv9:AAb9 prog TIa:=Zai ASb9 Zal
theorem BLm9 (x:UseT) (ly:LayT):wpFn prog ⟨TIu, [],wl,y,false⟩ 100 f75 ([useA x]++ [.rptr [i64 ly.no,i64 ly.da]]) b R=(∃(x0:UseT) (ly1:LayT) (q2:Bool), [Zao (Qz5 ly),Zao (Qz10 x)]= [Zao (Qz5 ly1),Zao (Qz10 x0)]∧q2=useIs x0 ly1∧R (.d (bo q2)) b):=by kernel_rfl
theorem BRy9 (x:UseT) (ly:LayT):PCall prog 75 ([useA x]++ [.rptr [i64 ly.no,i64 ly.da]]) (.d (bo ((fun x:UseT=>useIs x ly) x))):=by
 refine Zbe (n:=100) (u:=false) mixed CEs9 Zah func75 (by rfl) (by rfl) fun Ev bb=> ?_
 rw [BLm9]
 exact ⟨x,ly,_,rfl,rfl,rfl⟩
def BOu9 (args:List AV) (K:AV→Prop):Prop:=∃(x:UseT) (ly:LayT) (q:Bool),args= [useA x]++ [.rptr [i64 ly.no,i64 ly.da]]∧q=(fun x:UseT=>useIs x ly) x∧K (.d (bo q))
theorem BGy9:∀args K,BOu9 args K→∃x,PCall prog 75 args x∧K x:=by
 rintro _ K ⟨x,ly,_,rfl,rfl,hk⟩;exact ⟨_,BRy9 x ly,hk⟩
def BVi9:List (Nat×(List AV→(AV→Prop)→Prop)):= [(75,BOu9)]
theorem BMs9:AAb9 prog BVi9:=Zai BGy9 Zal
noncomputable def ARa9:Code:=sub [1,1,0,1,2,3] (code f74)
def AKk9 (l:List UseT) (ly:LayT) (acc:AV) (n i:Int):List AV:= [.bad, .fn (.func 75) [] [.rptr [i64 ly.no,i64 ly.da]], .bad, .bad, .bad,acc, .bad, .bad, .d (.sl 4 (rowsU l)), .d (i64 n), .d (i64 i)]++Zaq 12 .bad
abbrev Qz14 (v0:LayT):List AV:= [Zag [i64 (Zez v0),i64 (Zds v0)]]
theorem BYg9 (l:List UseT) (ly:LayT) (xs:List (List Dv)) (n i:Int):wpc prog ⟨BVi9, [],wl,y,false⟩ 100 ARa9 (AKk9 l ly (.own 61 4 xs) n i) [] b (maskK 0 [1,5,8,9,10] K)=(BIf (decide (i<n)) (BIf (true&&decide (0≤i)) (∃(x0:Int) (x1:Int) (x2:Int) (x3:Int),(rowsU l)[Zav i]? =some [i64 x0,i64 x1,i64 x2,i64 x3]∧∃(x6:UseT) (ly7:LayT) (q8:Bool), [Zao (Qz38 x0 x1 x2 x3),Zag [i64 (Zez ly),i64 (Zds ly)]]= [Zao (Qz10 x6),Zag [i64 (Zez ly7),i64 (Zds ly7)]]∧q8=useIs x6 ly7∧BIf q8 (BIf (true&&decide ((Zaa xs+1)*32≤140737488355328)) (K .normal (Zad::Zat (Fn.func 75) [] (Qz14 ly)::bds 3 (AV.own 61 4 (xs++ [[i64 x0,i64 x1,i64 x2,i64 x3]])::Zad::Zad::Zab (Zaf 4 (rowsU l))::Zab (i64 n)::Zab (i64 (Zae .i64 (i+1)))::bds 12 [])) [] b) False) (K .normal (Zad::Zat (Fn.func 75) [] (Qz14 ly)::bds 3 (AV.own 61 4 xs::Zad::Zad::Zab (Zaf 4 (rowsU l))::Zab (i64 n)::Zab (i64 (Zae .i64 (i+1)))::bds 12 [])) [] b)) False) (K (Zbv 0) (Zad::Zat (Fn.func 75) [] (Qz14 ly)::bds 3 (AV.own 61 4 xs::Zad::Zad::Zab (Zaf 4 (rowsU l))::Zab (i64 n)::Zab (i64 i)::bds 12 [])) [] b)):=by kernel_rfl
theorem BWb9 {Ev:Env prog} {b:Ev.β} {Q:Exit→St Ev.β→Prop} (l:List UseT) (ly:LayT) (hl:l.length<1000000) (hQ:∀i:Int,Q (.exit 0) ⟨AKk9 l ly (.own 61 4 (rowsU (l.filter (fun x:UseT=>useIs x ly)))) l.length i, [],b⟩):
   WR Ev ARa9 (l.length+1) ⟨AKk9 l ly (.own 61 4 (rowsU [])) l.length (0:Nat), [],b⟩ Q:=by
 refine WR.gathL (X:=⟨BVi9, [],wlW Ev,Ev.Y,false⟩) (k:=100) [1,5,8,9,10] mixed (CX.Ok.of BMs9 Zah) l (AJm9 (fun x:UseT=>useIs x ly)) (AJu9 _) (fun acc i=>AKk9 l ly (.own 61 4 (rowsU acc)) l.length (i:Nat)) [] 0 (fun i x acc hi hx ha K k1=> ?_) (fun acc K k1=> ?_) ?_
 · refine Eq.mpr (BYg9 _ _ _ K l ly _ l.length i) ?_
   rw [AEl9 hx]
   refine Zbg (by simp;omega) (Zbg (natI i) ⟨_,_,_,_,rfl,x,ly,_,rfl,rfl,Zbh (fun g=>Zbg (by simp [AAi9];omega) ?_) fun g=> ?_⟩)
   · rw [AOl9 (p:=(fun x:UseT=>useIs x ly)) (x:=x) g,AVn9] at k1
     rw [wrapN (by omega)]
     exact k1
   · rw [AOm9 (p:=(fun x:UseT=>useIs x ly)) (x:=x) g,Zfw] at k1
     rw [wrapN (by omega)]
     exact k1
 · refine Eq.mpr (BYg9 _ _ _ K l ly _ l.length _) ?_
   exact Zdl (by simp) k1
 · rw [AEh9];exact hQ _
def BAw9 {β:Type}:WLT β:=fun cd tm hp b K=>∃(l:List UseT) (ly:LayT),cd= .loop ARa9∧ABd9 [1,5,8,9,10] 0 tm=AKk9 l ly nilA (rowsU l).length 0∧hp= []∧l.length<1000000∧
 ∀(i:Int) (r:List UseT),r=l.filter (fun x:UseT=>useIs x ly)→K (.exit 0) (AKk9 l ly (.own 61 4 (rowsU r)) l.length i) [] b
theorem BAv9 {Ev:Env prog} (c:Code) (tm:List AV) (hp:List Blk) (b:Ev.β) (K:Exit→List AV→List Blk→Ev.β→Prop) (h:BAw9 c tm hp b K):W Ev c ⟨tm,hp,b⟩ (fun e s=>K e s.tm s.hp s.b):=by
 obtain ⟨l,ly,rfl,htm,rfl,hl,hK⟩:=h
 rw [AAi9] at htm
 refine W.cast (htm▸AAe9 _ tm 0) (Zce _) ?_
 refine W.cast (tm':=AKk9 l ly (.own 61 4 (rowsU [])) l.length 0) (LeL.at [_,_,_,_,_] _ (LeA.nilOwn rfl)) (Zce _) ?_
 exact W.rounds (BWb9 (Q:=fun e s=>K e s.tm s.hp s.b) l ly hl fun i=>hK i _ rfl)
theorem AYj9 (l:List UseT) (ly:LayT):wpFn prog ⟨[], [],BAw9,y,false⟩ 100 f74 [.d (.sl 4 (rowsU l)), .fn (.func 75) [] [.rptr [i64 ly.no,i64 ly.da]]] b R=(∃(l0:List UseT) (ly1:LayT),Zaz ARa9=Zaz ARa9∧(Zad::Zat (Fn.func 75) [] (Qz14 ly)::bds 3 (Zab (Zdc (.slice none 0 0))::Zad::Zad::Zab (Zaf 4 (rowsU l))::Zab (i64 ((Zaa (rowsU l):Nat):Int))::Zab (i64 0)::bds 12 []))=(Zad::Zat (Fn.func 75) [] (Qz14 ly1)::bds 3 (Zab (Zdc (.slice none 0 0))::Zad::Zad::Zab (Zaf 4 (rowsU l0))::Zab (i64 ((Zaa (rowsU l0):Nat):Int))::Zab (i64 0)::bds 12 []))∧([]:List Blk)= []∧Zaa l0<1000000∧∀(i:Int) (r:List UseT),r=Zcg (fun (x2:UseT)=>useIs x2 ly1) l0→R (.d (Zaf 4 (rowsU r))) b):=by kernel_rfl
theorem BCw9 (l:List UseT) (ly:LayT) (hl:l.length<1000000):PCall prog 74 [.d (.sl 4 (rowsU l)), .fn (.func 75) [] [.rptr [i64 ly.no,i64 ly.da]]] (.d (.sl 4 (rowsU (l.filter (fun x:UseT=>useIs x ly))))):=by
 refine Zfn (n:=100) (u:=false) (fun _=>BAw9) mixed Zal Zah (fun Ev=>BAv9) func74 (by rfl) (by rfl) fun Ev bb=> ?_
 rw [AYj9]
 exact ⟨l,ly,rfl,rfl,rfl,hl,fun i r hr=>hr▸ .base LeA.rfl⟩
def AWj9 (args:List AV) (K:AV→Prop):Prop:=∃(l:List UseT) (ly:LayT) (q:List UseT),args= [.d (.sl 4 (rowsU l)), .fn (.func 75) [] [.rptr [i64 ly.no,i64 ly.da]]]∧(l.length<1000000∧q=l.filter (fun x:UseT=>useIs x ly))∧K (.d (.sl 4 (rowsU q)))
theorem AUd9:∀args K,AWj9 args K→∃x,PCall prog 74 args x∧K x:=by
 rintro _ K ⟨l,ly,_,rfl,⟨hl,rfl⟩,hk⟩;exact ⟨_,BCw9 l ly hl,hk⟩
theorem BLn9 (x:GraT) (ly:LayT):wpFn prog ⟨TIg, [],wl,y,false⟩ 100 f78 ([graA x]++ [.rptr [i64 ly.no,i64 ly.da]]) b R=(∃(x0:GraT) (ly1:LayT) (q2:Bool), [Zao (Qz5 ly),Zao (Qz7 x)]= [Zao (Qz5 ly1),Zao (Qz7 x0)]∧q2=graIs x0 ly1∧R (.d (bo q2)) b):=by kernel_rfl
theorem BRz9 (x:GraT) (ly:LayT):PCall prog 78 ([graA x]++ [.rptr [i64 ly.no,i64 ly.da]]) (.d (bo ((fun x:GraT=>graIs x ly) x))):=by
 refine Zbe (n:=100) (u:=false) mixed CEu9 Zah func78 (by rfl) (by rfl) fun Ev bb=> ?_
 rw [BLn9]
 exact ⟨x,ly,_,rfl,rfl,rfl⟩
def BOv9 (args:List AV) (K:AV→Prop):Prop:=∃(x:GraT) (ly:LayT) (q:Bool),args= [graA x]++ [.rptr [i64 ly.no,i64 ly.da]]∧q=(fun x:GraT=>graIs x ly) x∧K (.d (bo q))
theorem BGz9:∀args K,BOv9 args K→∃x,PCall prog 78 args x∧K x:=by
 rintro _ K ⟨x,ly,_,rfl,rfl,hk⟩;exact ⟨_,BRz9 x ly,hk⟩
def BVj9:List (Nat×(List AV→(AV→Prop)→Prop)):= [(78,BOv9)]
theorem BMt9:AAb9 prog BVj9:=Zai BGz9 Zal
noncomputable def ARb9:Code:=sub [1,1,0,1,2,3] (code f77)
def AKl9 (l:List GraT) (ly:LayT) (acc:AV) (n i:Int):List AV:= [.bad, .fn (.func 78) [] [.rptr [i64 ly.no,i64 ly.da]], .bad, .bad, .bad,acc, .bad, .bad, .d (.sl 5 (rowsG l)), .d (i64 n), .d (i64 i)]++Zaq 12 .bad
theorem BYh9 (l:List GraT) (ly:LayT) (xs:List (List Dv)) (n i:Int):wpc prog ⟨BVj9, [],wl,y,false⟩ 100 ARb9 (AKl9 l ly (.own 59 5 xs) n i) [] b (maskK 0 [1,5,8,9,10] K)=(BIf (decide (i<n)) (BIf (true&&decide (0≤i)) (∃(x0:Int) (x1:Int) (x2:Int) (x3:Int) (x4:Int),(rowsG l)[Zav i]? =some (Qz48 x0 x1 x2 x3 x4)∧∃(x7:GraT) (ly8:LayT) (q9:Bool), [Zao (Qz24 x0 x1 x2 x3 x4),Zag [i64 (Zez ly),i64 (Zds ly)]]= [Zao (Qz7 x7),Zag [i64 (Zez ly8),i64 (Zds ly8)]]∧q9=graIs x7 ly8∧BIf q9 (BIf (true&&decide ((Zaa xs+1)*40≤140737488355328)) (K .normal (Zad::Zat (Fn.func 78) [] (Qz14 ly)::bds 3 (AV.own 59 5 (xs++ [Qz48 x0 x1 x2 x3 x4])::Zad::Zad::Zab (Zaf 5 (rowsG l))::Zab (i64 n)::Zab (i64 (Zae .i64 (i+1)))::bds 12 [])) [] b) False) (K .normal (Zad::Zat (Fn.func 78) [] (Qz14 ly)::bds 3 (AV.own 59 5 xs::Zad::Zad::Zab (Zaf 5 (rowsG l))::Zab (i64 n)::Zab (i64 (Zae .i64 (i+1)))::bds 12 [])) [] b)) False) (K (Zbv 0) (Zad::Zat (Fn.func 78) [] (Qz14 ly)::bds 3 (AV.own 59 5 xs::Zad::Zad::Zab (Zaf 5 (rowsG l))::Zab (i64 n)::Zab (i64 i)::bds 12 [])) [] b)):=by kernel_rfl
theorem BWc9 {Ev:Env prog} {b:Ev.β} {Q:Exit→St Ev.β→Prop} (l:List GraT) (ly:LayT) (hl:l.length<1000000) (hQ:∀i:Int,Q (.exit 0) ⟨AKl9 l ly (.own 59 5 (rowsG (l.filter (fun x:GraT=>graIs x ly)))) l.length i, [],b⟩):
   WR Ev ARb9 (l.length+1) ⟨AKl9 l ly (.own 59 5 (rowsG [])) l.length (0:Nat), [],b⟩ Q:=by
 refine WR.gathL (X:=⟨BVj9, [],wlW Ev,Ev.Y,false⟩) (k:=100) [1,5,8,9,10] mixed (CX.Ok.of BMt9 Zah) l (AJm9 (fun x:GraT=>graIs x ly)) (AJu9 _) (fun acc i=>AKl9 l ly (.own 59 5 (rowsG acc)) l.length (i:Nat)) [] 0 (fun i x acc hi hx ha K k1=> ?_) (fun acc K k1=> ?_) ?_
 · refine Eq.mpr (BYh9 _ _ _ K l ly _ l.length i) ?_
   rw [ADc9 hx]
   refine Zbg (by simp;omega) (Zbg (natI i) ⟨_,_,_,_,_,rfl,x,ly,_,rfl,rfl,Zbh (fun g=>Zbg (by simp [AAh9];omega) ?_) fun g=> ?_⟩)
   · rw [AOl9 (p:=(fun x:GraT=>graIs x ly)) (x:=x) g,AOi9] at k1
     rw [wrapN (by omega)]
     exact k1
   · rw [AOm9 (p:=(fun x:GraT=>graIs x ly)) (x:=x) g,Zfw] at k1
     rw [wrapN (by omega)]
     exact k1
 · refine Eq.mpr (BYh9 _ _ _ K l ly _ l.length _) ?_
   exact Zdl (by simp) k1
 · rw [AEh9];exact hQ _
def BAy9 {β:Type}:WLT β:=fun cd tm hp b K=>∃(l:List GraT) (ly:LayT),cd= .loop ARb9∧ABd9 [1,5,8,9,10] 0 tm=AKl9 l ly nilA (rowsG l).length 0∧hp= []∧l.length<1000000∧
 ∀(i:Int) (r:List GraT),r=l.filter (fun x:GraT=>graIs x ly)→K (.exit 0) (AKl9 l ly (.own 59 5 (rowsG r)) l.length i) [] b
theorem BAx9 {Ev:Env prog} (c:Code) (tm:List AV) (hp:List Blk) (b:Ev.β) (K:Exit→List AV→List Blk→Ev.β→Prop) (h:BAy9 c tm hp b K):W Ev c ⟨tm,hp,b⟩ (fun e s=>K e s.tm s.hp s.b):=by
 obtain ⟨l,ly,rfl,htm,rfl,hl,hK⟩:=h
 rw [AAh9] at htm
 refine W.cast (htm▸AAe9 _ tm 0) (Zce _) ?_
 refine W.cast (tm':=AKl9 l ly (.own 59 5 (rowsG [])) l.length 0) (LeL.at [_,_,_,_,_] _ (LeA.nilOwn rfl)) (Zce _) ?_
 exact W.rounds (BWc9 (Q:=fun e s=>K e s.tm s.hp s.b) l ly hl fun i=>hK i _ rfl)
theorem AYk9 (l:List GraT) (ly:LayT):wpFn prog ⟨[], [],BAy9,y,false⟩ 100 f77 [.d (.sl 5 (rowsG l)), .fn (.func 78) [] [.rptr [i64 ly.no,i64 ly.da]]] b R=(∃(l0:List GraT) (ly1:LayT),Zaz ARb9=Zaz ARb9∧(Zad::Zat (Fn.func 78) [] (Qz14 ly)::bds 3 (Zab (Zdc (.slice none 0 0))::Zad::Zad::Zab (Zaf 5 (rowsG l))::Zab (i64 ((Zaa (rowsG l):Nat):Int))::Zab (i64 0)::bds 12 []))=(Zad::Zat (Fn.func 78) [] (Qz14 ly1)::bds 3 (Zab (Zdc (.slice none 0 0))::Zad::Zad::Zab (Zaf 5 (rowsG l0))::Zab (i64 ((Zaa (rowsG l0):Nat):Int))::Zab (i64 0)::bds 12 []))∧([]:List Blk)= []∧Zaa l0<1000000∧∀(i:Int) (r:List GraT),r=Zcg (fun (x2:GraT)=>graIs x2 ly1) l0→R (.d (Zaf 5 (rowsG r))) b):=by kernel_rfl
theorem BCx9 (l:List GraT) (ly:LayT) (hl:l.length<1000000):PCall prog 77 [.d (.sl 5 (rowsG l)), .fn (.func 78) [] [.rptr [i64 ly.no,i64 ly.da]]] (.d (.sl 5 (rowsG (l.filter (fun x:GraT=>graIs x ly))))):=by
 refine Zfn (n:=100) (u:=false) (fun _=>BAy9) mixed Zal Zah (fun Ev=>BAx9) func77 (by rfl) (by rfl) fun Ev bb=> ?_
 rw [AYk9]
 exact ⟨l,ly,rfl,rfl,rfl,hl,fun i r hr=>hr▸ .base LeA.rfl⟩
def AWk9 (args:List AV) (K:AV→Prop):Prop:=∃(l:List GraT) (ly:LayT) (q:List GraT),args= [.d (.sl 5 (rowsG l)), .fn (.func 78) [] [.rptr [i64 ly.no,i64 ly.da]]]∧(l.length<1000000∧q=l.filter (fun x:GraT=>graIs x ly))∧K (.d (.sl 5 (rowsG q)))
theorem AUe9:∀args K,AWk9 args K→∃x,PCall prog 77 args x∧K x:=by
 rintro _ K ⟨l,ly,_,rfl,⟨hl,rfl⟩,hk⟩;exact ⟨_,BCx9 l ly hl,hk⟩
theorem BLo9 (x:AskT) (ly:LayT):wpFn prog ⟨TIa, [],wl,y,false⟩ 100 f80 ([askA x]++ [.rptr [i64 ly.no,i64 ly.da]]) b R=(∃(sl0:Int) (of1:Int) (pe2:Int) (l3:LayT) (z4:Bool), [Zao (Qz5 ly),Zao [Zab (i64 (Zde x)),Zab (i64 (AskT.of x))],Zab (i64 (AskT.pe x))]= [Zao (Qz5 l3),Zao [Zab (i64 sl0),Zab (i64 of1)],Zab (i64 pe2)]∧z4=ABv9 sl0 of1 pe2 l3∧R (.d (bo z4)) b):=by kernel_rfl
theorem BSa9 (x:AskT) (ly:LayT):PCall prog 80 ([askA x]++ [.rptr [i64 ly.no,i64 ly.da]]) (.d (bo ((fun x:AskT=>ABv9 x.sl x.of x.pe ly) x))):=by
 refine Zbe (n:=100) (u:=false) mixed CEv9 Zah func80 (by rfl) (by rfl) fun Ev bb=> ?_
 rw [BLo9]
 exact ⟨_,_,_,ly,_,rfl,rfl,rfl⟩
def BOw9 (args:List AV) (K:AV→Prop):Prop:=∃(x:AskT) (ly:LayT) (q:Bool),args= [askA x]++ [.rptr [i64 ly.no,i64 ly.da]]∧q=(fun x:AskT=>ABv9 x.sl x.of x.pe ly) x∧K (.d (bo q))
theorem BHa9:∀args K,BOw9 args K→∃x,PCall prog 80 args x∧K x:=by
 rintro _ K ⟨x,ly,_,rfl,rfl,hk⟩;exact ⟨_,BSa9 x ly,hk⟩
def BVk9:List (Nat×(List AV→(AV→Prop)→Prop)):= [(80,BOw9)]
theorem BMu9:AAb9 prog BVk9:=Zai BHa9 Zal
noncomputable def ARc9:Code:=sub [1,1,0,1,2,3] (code f40)
def AKm9 (l:List AskT) (ly:LayT) (acc:AV) (n i:Int):List AV:= [.bad, .fn (.func 80) [] [.rptr [i64 ly.no,i64 ly.da]], .bad, .bad, .bad,acc, .bad, .bad, .d (.sl 3 (rowsA l)), .d (i64 n), .d (i64 i)]++Zaq 12 .bad
theorem BYi9 (l:List AskT) (ly:LayT) (xs:List (List Dv)) (n i:Int):wpc prog ⟨BVk9, [],wl,y,false⟩ 100 ARc9 (AKm9 l ly (.own 63 3 xs) n i) [] b (maskK 0 [1,5,8,9,10] K)=(BIf (decide (i<n)) (BIf (true&&decide (0≤i)) (∃(x0:Int) (x1:Int) (x2:Int),(rowsA l)[Zav i]? =some [i64 x0,i64 x1,i64 x2]∧∃(x5:AskT) (ly6:LayT) (q7:Bool), [Zao (Qz27 x0 x1 x2),Zag [i64 (Zez ly),i64 (Zds ly)]]= [Zao (Qz13 x5),Zag [i64 (Zez ly6),i64 (Zds ly6)]]∧q7=ABv9 (Zde x5) (AskT.of x5) (AskT.pe x5) ly6∧BIf q7 (BIf (true&&decide ((Zaa xs+1)*24≤140737488355328)) (K .normal (Zad::Zat (Fn.func 80) [] (Qz14 ly)::bds 3 (AV.own 63 3 (xs++ [[i64 x0,i64 x1,i64 x2]])::Zad::Zad::Zab (Zaf 3 (rowsA l))::Zab (i64 n)::Zab (i64 (Zae .i64 (i+1)))::bds 12 [])) [] b) False) (K .normal (Zad::Zat (Fn.func 80) [] (Qz14 ly)::bds 3 (AV.own 63 3 xs::Zad::Zad::Zab (Zaf 3 (rowsA l))::Zab (i64 n)::Zab (i64 (Zae .i64 (i+1)))::bds 12 [])) [] b)) False) (K (Zbv 0) (Zad::Zat (Fn.func 80) [] (Qz14 ly)::bds 3 (AV.own 63 3 xs::Zad::Zad::Zab (Zaf 3 (rowsA l))::Zab (i64 n)::Zab (i64 i)::bds 12 [])) [] b)):=by kernel_rfl
theorem BWd9 {Ev:Env prog} {b:Ev.β} {Q:Exit→St Ev.β→Prop} (l:List AskT) (ly:LayT) (hl:l.length<1000000) (hQ:∀i:Int,Q (.exit 0) ⟨AKm9 l ly (.own 63 3 (rowsA (l.filter (fun x:AskT=>ABv9 x.sl x.of x.pe ly)))) l.length i, [],b⟩):
   WR Ev ARc9 (l.length+1) ⟨AKm9 l ly (.own 63 3 (rowsA [])) l.length (0:Nat), [],b⟩ Q:=by
 refine WR.gathL (X:=⟨BVk9, [],wlW Ev,Ev.Y,false⟩) (k:=100) [1,5,8,9,10] mixed (CX.Ok.of BMu9 Zah) l (AJm9 (fun x:AskT=>ABv9 x.sl x.of x.pe ly)) (AJu9 _) (fun acc i=>AKm9 l ly (.own 63 3 (rowsA acc)) l.length (i:Nat)) [] 0 (fun i x acc hi hx ha K k1=> ?_) (fun acc K k1=> ?_) ?_
 · refine Eq.mpr (BYi9 _ _ _ K l ly _ l.length i) ?_
   rw [ACr9 hx]
   refine Zbg (by simp;omega) (Zbg (natI i) ⟨_,_,_,rfl,x,ly,_,rfl,rfl,Zbh (fun g=>Zbg (by simp [AAx9];omega) ?_) fun g=> ?_⟩)
   · rw [AOl9 (p:=(fun x:AskT=>ABv9 x.sl x.of x.pe ly)) (x:=x) g,AVo9] at k1
     rw [wrapN (by omega)]
     exact k1
   · rw [AOm9 (p:=(fun x:AskT=>ABv9 x.sl x.of x.pe ly)) (x:=x) g,Zfw] at k1
     rw [wrapN (by omega)]
     exact k1
 · refine Eq.mpr (BYi9 _ _ _ K l ly _ l.length _) ?_
   exact Zdl (by simp) k1
 · rw [AEh9];exact hQ _
def BBa9 {β:Type}:WLT β:=fun cd tm hp b K=>∃(l:List AskT) (ly:LayT),cd= .loop ARc9∧ABd9 [1,5,8,9,10] 0 tm=AKm9 l ly nilA (rowsA l).length 0∧hp= []∧l.length<1000000∧
 ∀(i:Int) (r:List AskT),r=l.filter (fun x:AskT=>ABv9 x.sl x.of x.pe ly)→K (.exit 0) (AKm9 l ly (.own 63 3 (rowsA r)) l.length i) [] b
theorem BAz9 {Ev:Env prog} (c:Code) (tm:List AV) (hp:List Blk) (b:Ev.β) (K:Exit→List AV→List Blk→Ev.β→Prop) (h:BBa9 c tm hp b K):W Ev c ⟨tm,hp,b⟩ (fun e s=>K e s.tm s.hp s.b):=by
 obtain ⟨l,ly,rfl,htm,rfl,hl,hK⟩:=h
 rw [AAx9] at htm
 refine W.cast (htm▸AAe9 _ tm 0) (Zce _) ?_
 refine W.cast (tm':=AKm9 l ly (.own 63 3 (rowsA [])) l.length 0) (LeL.at [_,_,_,_,_] _ (LeA.nilOwn rfl)) (Zce _) ?_
 exact W.rounds (BWd9 (Q:=fun e s=>K e s.tm s.hp s.b) l ly hl fun i=>hK i _ rfl)
theorem AYl9 (l:List AskT) (ly:LayT):wpFn prog ⟨[], [],BBa9,y,false⟩ 100 f40 [.d (.sl 3 (rowsA l)), .fn (.func 80) [] [.rptr [i64 ly.no,i64 ly.da]]] b R=(∃(l0:List AskT) (ly1:LayT),Zaz ARc9=Zaz ARc9∧(Zad::Zat (Fn.func 80) [] (Qz14 ly)::bds 3 (Zab (Zdc (.slice none 0 0))::Zad::Zad::Zab (Zaf 3 (rowsA l))::Zab (i64 ((Zaa (rowsA l):Nat):Int))::Zab (i64 0)::bds 12 []))=(Zad::Zat (Fn.func 80) [] (Qz14 ly1)::bds 3 (Zab (Zdc (.slice none 0 0))::Zad::Zad::Zab (Zaf 3 (rowsA l0))::Zab (i64 ((Zaa (rowsA l0):Nat):Int))::Zab (i64 0)::bds 12 []))∧([]:List Blk)= []∧Zaa l0<1000000∧∀(i:Int) (r:List AskT),r=Zcg (fun (x2:AskT)=>ABv9 (Zde x2) (AskT.of x2) (AskT.pe x2) ly1) l0→R (.d (Zaf 3 (rowsA r))) b):=by kernel_rfl
theorem BCy9 (l:List AskT) (ly:LayT) (hl:l.length<1000000):PCall prog 40 [.d (.sl 3 (rowsA l)), .fn (.func 80) [] [.rptr [i64 ly.no,i64 ly.da]]] (.d (.sl 3 (rowsA (l.filter (fun x:AskT=>ABv9 x.sl x.of x.pe ly))))):=by
 refine Zfn (n:=100) (u:=false) (fun _=>BBa9) mixed Zal Zah (fun Ev=>BAz9) func40 (by rfl) (by rfl) fun Ev bb=> ?_
 rw [AYl9]
 exact ⟨l,ly,rfl,rfl,rfl,hl,fun i r hr=>hr▸ .base LeA.rfl⟩
def AWl9 (args:List AV) (K:AV→Prop):Prop:=∃(l:List AskT) (ly:LayT) (q:List AskT),args= [.d (.sl 3 (rowsA l)), .fn (.func 80) [] [.rptr [i64 ly.no,i64 ly.da]]]∧(l.length<1000000∧q=l.filter (fun x:AskT=>ABv9 x.sl x.of x.pe ly))∧K (.d (.sl 3 (rowsA q)))
theorem AUf9:∀args K,AWl9 args K→∃x,PCall prog 40 args x∧K x:=by
 rintro _ K ⟨l,ly,_,rfl,⟨hl,rfl⟩,hk⟩;exact ⟨_,BCy9 l ly hl,hk⟩
theorem BLr9 (x:GraT) (s:SideT):wpFn prog ⟨[], [],wl,y,false⟩ 100 f106 ([graA x]++ [.rptr [.pt (sideD s)]]) b R=(BIf (Zfv x==SideT.me s) (R (Zab (bo (decide (Zdm x≥SideT.fr s)))) b) (R (Zab (bo false)) b)):=by kernel_rfl
theorem BSd9 (x:GraT) (s:SideT):PCall prog 106 ([graA x]++ [.rptr [.pt (sideD s)]]) (.d (bo ((fun x:GraT=>x.pe==s.me&&decide (x.un≥s.fr)) x))):=by
 refine Zbe (n:=100) (u:=false) mixed Zal Zah func106 (by rfl) (by rfl) fun Ev bb=> ?_
 rw [BLr9]
 exact Zbh (fun h=>by have h':(x.pe==s.me)=true:=h;simp only [h',Bool.true_and]) fun h=>by have h':(x.pe==s.me)=false:=h;simp only [h',Zdk]
def BOz9 (args:List AV) (K:AV→Prop):Prop:=∃(x:GraT) (s:SideT) (q:Bool),args= [graA x]++ [.rptr [.pt (sideD s)]]∧q=(fun x:GraT=>x.pe==s.me&&decide (x.un≥s.fr)) x∧K (.d (bo q))
theorem BHd9:∀args K,BOz9 args K→∃x,PCall prog 106 args x∧K x:=by
 rintro _ K ⟨x,s,_,rfl,rfl,hk⟩;exact ⟨_,BSd9 x s,hk⟩
def BVl9:List (Nat×(List AV→(AV→Prop)→Prop)):= [(106,BOz9)]
theorem BMv9:AAb9 prog BVl9:=Zai BHd9 Zal
noncomputable def ARd9:Code:=sub [1,1,0,1,2,3] (code f77)
def AKn9 (l:List GraT) (s:SideT) (acc:AV) (n i:Int):List AV:= [.bad, .fn (.func 106) [] [.rptr [.pt (sideD s)]], .bad, .bad, .bad,acc, .bad, .bad, .d (.sl 5 (rowsG l)), .d (i64 n), .d (i64 i)]++Zaq 12 .bad
theorem BYj9 (l:List GraT) (s:SideT) (xs:List (List Dv)) (n i:Int):wpc prog ⟨BVl9, [],wl,y,false⟩ 100 ARd9 (AKn9 l s (.own 59 5 xs) n i) [] b (maskK 0 [1,5,8,9,10] K)=(BIf (decide (i<n)) (BIf (true&&decide (0≤i)) (∃(x0:Int) (x1:Int) (x2:Int) (x3:Int) (x4:Int),(rowsG l)[Zav i]? =some (Qz48 x0 x1 x2 x3 x4)∧∃(x7:GraT) (s8:SideT) (q9:Bool), [Zao (Qz24 x0 x1 x2 x3 x4),Zag [Zdn (Qz2 s)]]= [Zao (Qz7 x7),Zag [Zdn (Qz2 s8)]]∧q9=(Zfv x7==SideT.me s8&&decide (Zdm x7≥SideT.fr s8))∧BIf q9 (BIf (true&&decide ((Zaa xs+1)*40≤140737488355328)) (K .normal (Zad::Zat (Fn.func 106) [] [Zag [Zdn (Qz2 s)]]::bds 3 (AV.own 59 5 (xs++ [Qz48 x0 x1 x2 x3 x4])::Zad::Zad::Zab (Zaf 5 (rowsG l))::Zab (i64 n)::Zab (i64 (Zae .i64 (i+1)))::bds 12 [])) [] b) False) (K .normal (Zad::Zat (Fn.func 106) [] [Zag [Zdn (Qz2 s)]]::bds 3 (AV.own 59 5 xs::Zad::Zad::Zab (Zaf 5 (rowsG l))::Zab (i64 n)::Zab (i64 (Zae .i64 (i+1)))::bds 12 [])) [] b)) False) (K (Zbv 0) (Zad::Zat (Fn.func 106) [] [Zag [Zdn (Qz2 s)]]::bds 3 (AV.own 59 5 xs::Zad::Zad::Zab (Zaf 5 (rowsG l))::Zab (i64 n)::Zab (i64 i)::bds 12 [])) [] b)):=by kernel_rfl
theorem BWe9 {Ev:Env prog} {b:Ev.β} {Q:Exit→St Ev.β→Prop} (l:List GraT) (s:SideT) (hl:l.length<1000000) (hQ:∀i:Int,Q (.exit 0) ⟨AKn9 l s (.own 59 5 (rowsG (l.filter (fun x:GraT=>x.pe==s.me&&decide (x.un≥s.fr))))) l.length i, [],b⟩):
   WR Ev ARd9 (l.length+1) ⟨AKn9 l s (.own 59 5 (rowsG [])) l.length (0:Nat), [],b⟩ Q:=by
 refine WR.gathL (X:=⟨BVl9, [],wlW Ev,Ev.Y,false⟩) (k:=100) [1,5,8,9,10] mixed (CX.Ok.of BMv9 Zah) l (AJm9 (fun x:GraT=>x.pe==s.me&&decide (x.un≥s.fr))) (AJu9 _) (fun acc i=>AKn9 l s (.own 59 5 (rowsG acc)) l.length (i:Nat)) [] 0 (fun i x acc hi hx ha K k1=> ?_) (fun acc K k1=> ?_) ?_
 · refine Eq.mpr (BYj9 _ _ _ K l s _ l.length i) ?_
   rw [ADc9 hx]
   refine Zbg (by simp;omega) (Zbg (natI i) ⟨_,_,_,_,_,rfl,x,s,_,rfl,rfl,Zbh (fun g=>Zbg (by simp [AAh9];omega) ?_) fun g=> ?_⟩)
   · rw [AOl9 (p:=(fun x:GraT=>x.pe==s.me&&decide (x.un≥s.fr))) (x:=x) g,AOi9] at k1
     rw [wrapN (by omega)]
     exact k1
   · rw [AOm9 (p:=(fun x:GraT=>x.pe==s.me&&decide (x.un≥s.fr))) (x:=x) g,Zfw] at k1
     rw [wrapN (by omega)]
     exact k1
 · refine Eq.mpr (BYj9 _ _ _ K l s _ l.length _) ?_
   exact Zdl (by simp) k1
 · rw [AEh9];exact hQ _
def BBc9 {β:Type}:WLT β:=fun cd tm hp b K=>∃(l:List GraT) (s:SideT),cd= .loop ARd9∧ABd9 [1,5,8,9,10] 0 tm=AKn9 l s nilA (rowsG l).length 0∧hp= []∧l.length<1000000∧
 ∀(i:Int) (r:List GraT),r=l.filter (fun x:GraT=>x.pe==s.me&&decide (x.un≥s.fr))→K (.exit 0) (AKn9 l s (.own 59 5 (rowsG r)) l.length i) [] b
theorem BBb9 {Ev:Env prog} (c:Code) (tm:List AV) (hp:List Blk) (b:Ev.β) (K:Exit→List AV→List Blk→Ev.β→Prop) (h:BBc9 c tm hp b K):W Ev c ⟨tm,hp,b⟩ (fun e s=>K e s.tm s.hp s.b):=by
 obtain ⟨l,s,rfl,htm,rfl,hl,hK⟩:=h
 rw [AAh9] at htm
 refine W.cast (htm▸AAe9 _ tm 0) (Zce _) ?_
 refine W.cast (tm':=AKn9 l s (.own 59 5 (rowsG [])) l.length 0) (LeL.at [_,_,_,_,_] _ (LeA.nilOwn rfl)) (Zce _) ?_
 exact W.rounds (BWe9 (Q:=fun e s=>K e s.tm s.hp s.b) l s hl fun i=>hK i _ rfl)
theorem AYm9 (l:List GraT) (s:SideT):wpFn prog ⟨[], [],BBc9,y,false⟩ 100 f77 [.d (.sl 5 (rowsG l)), .fn (.func 106) [] [.rptr [.pt (sideD s)]]] b R=(∃(l0:List GraT) (s1:SideT),Zaz ARd9=Zaz ARd9∧(Zad::Zat (Fn.func 106) [] [Zag [Zdn (Qz2 s)]]::bds 3 (Zab (Zdc (.slice none 0 0))::Zad::Zad::Zab (Zaf 5 (rowsG l))::Zab (i64 ((Zaa (rowsG l):Nat):Int))::Zab (i64 0)::bds 12 []))=(Zad::Zat (Fn.func 106) [] [Zag [Zdn (Qz2 s1)]]::bds 3 (Zab (Zdc (.slice none 0 0))::Zad::Zad::Zab (Zaf 5 (rowsG l0))::Zab (i64 ((Zaa (rowsG l0):Nat):Int))::Zab (i64 0)::bds 12 []))∧([]:List Blk)= []∧Zaa l0<1000000∧∀(i:Int) (r:List GraT),r=Zcg (fun (x2:GraT)=>Zfv x2==SideT.me s1&&decide (Zdm x2≥SideT.fr s1)) l0→R (.d (Zaf 5 (rowsG r))) b):=by kernel_rfl
theorem BCz9 (l:List GraT) (s:SideT) (hl:l.length<1000000):PCall prog 77 [.d (.sl 5 (rowsG l)), .fn (.func 106) [] [.rptr [.pt (sideD s)]]] (.d (.sl 5 (rowsG (l.filter (fun x:GraT=>x.pe==s.me&&decide (x.un≥s.fr)))))):=by
 refine Zfn (n:=100) (u:=false) (fun _=>BBc9) mixed Zal Zah (fun Ev=>BBb9) func77 (by rfl) (by rfl) fun Ev bb=> ?_
 rw [AYm9]
 exact ⟨l,s,rfl,rfl,rfl,hl,fun i r hr=>hr▸ .base LeA.rfl⟩
def AWm9 (args:List AV) (K:AV→Prop):Prop:=∃(l:List GraT) (s:SideT) (q:List GraT),args= [.d (.sl 5 (rowsG l)), .fn (.func 106) [] [.rptr [.pt (sideD s)]]]∧(l.length<1000000∧q=l.filter (fun x:GraT=>x.pe==s.me&&decide (x.un≥s.fr)))∧K (.d (.sl 5 (rowsG q)))
theorem AUg9:∀args K,AWm9 args K→∃x,PCall prog 77 args x∧K x:=by
 rintro _ K ⟨l,s,_,rfl,⟨hl,rfl⟩,hk⟩;exact ⟨_,BCz9 l s hl,hk⟩
def TGd:List (Nat×(List AV→(AV→Prop)→Prop)):= [(77,AWm9)]
theorem CEy9:AAb9 prog TGd:=Zai AUg9 Zal
theorem BEg9 (s:SideT) (n:NearT):wpFn prog ⟨TGd, [],wl,y,false⟩ 100 f53 [.rptr (sideD s),nearA n] b R=(∃(l0:List GraT) (s1:SideT) (q2:List GraT), [Zab (Zaf 5 (rowsG (Zbn n))),Zat (Fn.func 106) [] [Zag [Zdn (Qz2 s)]]]= [Zab (Zaf 5 (rowsG l0)),Zat (Fn.func 106) [] [Zag [Zdn (Qz2 s1)]]]∧(Zaa l0<1000000∧q2=Zcg (fun (x3:GraT)=>Zfv x3==SideT.me s1&&decide (Zdm x3≥SideT.fr s1)) l0)∧R (.d (Zaf 5 (rowsG q2))) b):=by kernel_rfl
def ABj9 (s:SideT) (n:NearT):List GraT:=n.gs.filter (fun x=>x.pe==s.me&&decide (x.un≥s.fr))
theorem BJw9 (s:SideT) (n:NearT) (h:n.gs.length<1000000):PCall prog 53 [.rptr (sideD s),nearA n] (.d (.sl 5 (rowsG (ABj9 s n)))):=by
 refine Zbe (n:=100) (u:=false) mixed CEy9 Zah func53 (by rfl) (by rfl) fun Ev bb=> ?_
 rw [BEg9]
 exact ⟨n.gs,s,_,rfl,⟨h,rfl⟩,rfl⟩
def BGi9 (args:List AV) (K:AV→Prop):Prop:=∃(s:SideT) (n:NearT) (q:List GraT),args= [.rptr (sideD s),nearA n]∧(n.gs.length<1000000∧q=ABj9 s n)∧K (.d (.sl 5 (rowsG q)))
theorem AZt9:∀args K,BGi9 args K→∃x,PCall prog 53 args x∧K x:=by
 rintro _ K ⟨s,n,_,rfl,⟨h,rfl⟩,hk⟩;exact ⟨_,BJw9 s n h,hk⟩
def TFi:List (Nat×(List AV→(AV→Prop)→Prop)):= [(82,BGe9)]
theorem CEz9:AAb9 prog TFi:=Zai AZr9 Zal
theorem CAh9 (s:SideT) (pe:Int):wpFn prog ⟨TFi, [],wl,y,false⟩ 100 f37 [.rptr (sideD s), .d (i64 pe)] b R=(∃(l0:List NearT) (pe1:Int) (q2:Int), [Zab (Zaf 31 (rowsN (Zas s))),Zat (Fn.func 83) [] [Zag [i64 pe]]]= [Zab (Zaf 31 (rowsN l0)),Zat (Fn.func 83) [] [Zag [i64 pe1]]]∧(Zaa l0≤9223372036854775807∧q2=idxS (fun (x3:NearT)=>NearT.fm x3==pe1) l0)∧BIf (decide (q2<(0:Int))) (R (.tup [Zao [Zab (i64 0),Zab (i64 0),Zab (i64 0),Zab (i64 0),Zab (i64 0),Zab (i64 0),Zab (i64 0),Zab (i64 0),Zab (i64 0),Zab (i64 0),Zab (i64 0),Zab (i64 0),Zab (Zdc (.slice none 0 0)),Zab (Zdc (.slice none 0 0)),Zab (Zdc (.slice none 0 0)),Zab (Zdc (.slice none 0 0)),Zab (bo false),Zab (Zdc (.slice none 0 0)),Zab (Zdc (.slice none 0 0)),Zab (Zdc (.slice none 0 0)),Zab (i64 0),Zab (i64 0),Zab (u64 0),Zab (i64 0),Zab (i64 0),Zab (i64 0),Zab (i64 0),Zab (i64 0),Zab (Zdc (.slice none 0 0)),Zab (Zdc (.slice none 0 0)),Zab (bo false)],Zab (bo false)]) b) (BIf (true&&decide (0≤q2)) (∃(x4:Int) (x5:Int) (x6:Int) (x7:Int) (x8:Int) (x9:Int) (x10:Int) (x11:Int) (x12:Int) (x13:Int) (x14:Int) (x15:Int) (xs16:List (List Dv)) (xs17:List (List Dv)) (xs18:List (List Dv)) (xs19:List (List Dv)) (b20:Bool) (xs21:List (List Dv)) (xs22:List (List Dv)) (xs23:List (List Dv)) (x24:Int) (x25:Int) (x26:Int) (x27:Int) (x28:Int) (x29:Int) (x30:Int) (x31:Int) (xs32:List (List Dv)) (xs33:List (List Dv)) (b34:Bool),(rowsN (Zas s))[Zav q2]? =some [i64 x4,i64 x5,i64 x6,i64 x7,i64 x8,i64 x9,i64 x10,i64 x11,i64 x12,i64 x13,i64 x14,i64 x15,Zaf 4 xs16,Zaf 5 xs17,Zaf 3 xs18,Zaf 4 xs19,bo b20,Zaf 8 xs21,Zaf 8 xs22,Zaf 1 xs23,i64 x24,i64 x25,u64 x26,i64 x27,i64 x28,i64 x29,i64 x30,i64 x31,Zaf 1 xs32,Zaf 1 xs33,bo b34]∧R (.tup [Zao [Zab (i64 x4),Zab (i64 x5),Zab (i64 x6),Zab (i64 x7),Zab (i64 x8),Zab (i64 x9),Zab (i64 x10),Zab (i64 x11),Zab (i64 x12),Zab (i64 x13),Zab (i64 x14),Zab (i64 x15),Zab (Zaf 4 xs16),Zab (Zaf 5 xs17),Zab (Zaf 3 xs18),Zab (Zaf 4 xs19),Zab (bo b20),Zab (Zaf 8 xs21),Zab (Zaf 8 xs22),Zab (Zaf 1 xs23),Zab (i64 x24),Zab (i64 x25),Zab (u64 x26),Zab (i64 x27),Zab (i64 x28),Zab (i64 x29),Zab (i64 x30),Zab (i64 x31),Zab (Zaf 1 xs32),Zab (Zaf 1 xs33),Zab (bo b34)],Zab (bo true)]) b) False)):=by kernel_rfl
theorem ALx9 {α:Type} (p:α→Bool) (l:List α):(l.findIdx? p=none∧l.find? p=none)∨∃j x,l.findIdx? p=some j∧l[j]? =some x∧l.find? p=some x∧p x=true:=by
 induction l with
 |nil=>exact .inl ⟨rfl,rfl⟩
 | cons a r ih=>
   rw [Zep,List.find?_cons]
   by_cases h:p a=true
   · exact .inr ⟨0,a,by simp [h],by simp,by simp [h],h⟩
   · simp only [Bool.not_eq_true] at h
     rcases ih with ⟨h1,h2⟩|⟨j,x,h1,h2,h3,h4⟩
     · exact .inl ⟨by simp [h,h1],by simp [h,h2]⟩
     · exact .inr ⟨j+1,x,by simp [h,h1],by simpa using h2,by simp [h,h3],h4⟩
def zeroN:NearT:=⟨0,0, [], [], [],0,0,0,0,0,0,0,0,0,0, [],false, [], [], [],0,0,0,0,0,0,0,0, [], [],false⟩
def sFind (s:SideT) (pe:Int):Option NearT:=s.ns.find? fun x=>x.fm==pe
def nearO (o:Option NearT):NearT:=match o with|some n=>n|none=>zeroN
theorem BVz9 (e:Bool):LeV (AV.tup [Zao [Zab (i64 (0:Int)),Zab (i64 (0:Int)),Zab (i64 (0:Int)),Zab (i64 (0:Int)),Zab (i64 (0:Int)),Zab (i64 (0:Int)),Zab (i64 (0:Int)),Zab (i64 (0:Int)),Zab (i64 (0:Int)),Zab (i64 (0:Int)),Zab (i64 (0:Int)),Zab (i64 (0:Int)),Zab (Zdc (Zcl none 0 0)),Zab (Zdc (Zcl none 0 0)),Zab (Zdc (Zcl none 0 0)),Zab (Zdc (Zcl none 0 0)),Zab (bo false),Zab (Zdc (Zcl none 0 0)),Zab (Zdc (Zcl none 0 0)),Zab (Zdc (Zcl none 0 0)),Zab (i64 (0:Int)),Zab (i64 (0:Int)),Zab (u64 (0:Int)),Zab (i64 (0:Int)),Zab (i64 (0:Int)),Zab (i64 (0:Int)),Zab (i64 (0:Int)),Zab (i64 (0:Int)),Zab (Zdc (Zcl none 0 0)),Zab (Zdc (Zcl none 0 0)),Zab (bo false)],Zab (bo e)]) (.tup [nearA zeroN, .d (bo e)]):=
 LeV.tups (.cons (LeV.aggs (by repeat' (first|exact .nil|refine .cons .rfl ?_|refine .cons (.nil rfl) ?_))) (.cons .rfl .nil))
theorem CDq9 (s:SideT) (pe:Int) (h:s.ns.length≤9223372036854775807):PCall prog 37 [.rptr (sideD s), .d (i64 pe)] (.tup [nearA (nearO (sFind s pe)), .d (bo (sFind s pe).isSome)]):=by
 refine PCall.ofFnV (n:=100) (u:=false) (fun _=>fun _ _ _ _ _=>False) mixed CEz9 Zah (fun Ev _ _ _ _ _ h=>h.elim) func37 (by rfl) (by rfl) fun Ev bb=> ?_
 rw [CAh9]
 refine ⟨s.ns,pe,_,rfl,⟨h,rfl⟩, ?_⟩
 rcases ALx9 (fun x:NearT=>x.fm==pe) s.ns with ⟨h1,h2⟩|⟨j,x,h1,h2,h3,_⟩
 · rw [AAy9 h1,show sFind s pe=none from h2]
   exact Zbg (by decide) (BVz9 false)
 · rw [AAg9 h1,show sFind s pe=some x from h3,AEm9 h2]
   exact Zdl (by simp) (Zbg (natI j) ⟨_,_,_,_,_,_,_,_,_,_,_,_,_,_,_,_,_,_,_,_,_,_,_,_,_,_,_,_,_,_,_,rfl, .rfl⟩)
def cFind (args:List AV) (K:AV→Prop):Prop:=∃(s:SideT) (pe:Int) (q:NearT) (e:Bool),args= [.rptr (sideD s), .d (i64 pe)]∧(s.ns.length≤9223372036854775807∧q=nearO (sFind s pe)∧e=(sFind s pe).isSome)∧K (.tup [nearA q, .d (bo e)])
theorem AUn9:∀args K,cFind args K→∃x,PCall prog 37 args x∧K x:=by
 rintro _ K ⟨s,pe,_,_,rfl,⟨h,rfl,rfl⟩,hk⟩;exact ⟨_,CDq9 s pe h,hk⟩
def ABe9 {α:Type}:Option α→List α→List (Option α×α)
 |_, []=> []
 |o,x::r=>(o,x)::ABe9 (some x) r
theorem ATf9 {α:Type} (l:List α):∀o,(ABe9 o l).length=l.length:=by
 induction l with
 |nil=>intro o;rfl
 |cons x r ih=>intro o;simp [ABe9,ih]
theorem AXt9 {α:Type} (l:List α):∀(o:Option α) (i:Nat) (p:Option α×α),(ABe9 o l)[i]? =some p→l[i]? =some p.2∧(i=0→p.1=o)∧∀j,i=j+1→∃w,p.1=some w∧l[j]? =some w:=by
 induction l with
 |nil=>intro o i p h;simp [ABe9] at h
 | cons x r ih=>
   intro o i p h
   cases i with
   | zero=>
     simp only [ABe9,List.getElem?_cons_zero,Option.some.injEq] at h
     subst h
     exact ⟨rfl,fun _=>rfl,fun j hj=>by omega⟩
   | succ i=>
     simp only [ABe9,List.getElem?_cons_succ] at h
     obtain ⟨h1,h2,h3⟩:=ih (some x) i p h
     refine ⟨by simpa using h1,fun hh=>by omega,fun j hj=> ?_⟩
     cases i with
     |zero=>exact ⟨x,h2 rfl,by rw [show j=0 by omega];rfl⟩
     | succ i=>
       obtain ⟨w,hw,hl⟩:=h3 i rfl
       exact ⟨w,hw,by rw [show j=i+1 by omega];simpa using hl⟩
def BCs9 (o:Option NearT) (fm:Int):Bool:=match o with|some w=>decide (w.fm≥fm)|none=>false
def badN (ly:LayT) (me fr:Int) (p:Option NearT×NearT):Bool:=decide (p.2.fm<0)||(decide (p.2.fm≥ly.no)||(p.2.fm==me||(decide (p.2.fr<0)||(decide (p.2.fr>fr)||BCs9 p.1 p.2.fm))))
theorem BXk9 (t:TabT) (me fr:Int):wpFn prog ⟨[], [],wl,y,false⟩ 100 f32 [.d (i64 me),tabA t, .d (i64 fr)] b R=(R (AV.full 31 [[i64 fr,i64 me,i64 0,i64 0,i64 0,i64 0,i64 0,i64 0,i64 0,i64 0,i64 0,i64 0,Zaf 4 (rowsU (Zbj t)),Zaf 5 (rowsG (Zbl t)),Zaf 3 (rowsA (Zbo t)),Zdc (.slice none 0 0),bo false,Zdc (.slice none 0 0),Zdc (.slice none 0 0),Zdc (.slice none 0 0),i64 0,i64 0,u64 0,i64 0,i64 0,i64 0,i64 0,i64 0,Zdc (.slice none 0 0),Zdc (.slice none 0 0),bo false]]) b):=by kernel_rfl
theorem PCall.semRes {P:Program} {f:Nat} {args:List AV} {x y:AV} (h:SemV x.view y.view) (hp:PCall P f args x):PCall P f args y:=by
 refine ⟨hp.1,fun S w vs h1 h2 h3 h4=>CallsIn.mono (hp.2 S w vs h1 h2 h3 h4) ?_⟩
 rintro e w' hq
 obtain ⟨v,S',g1,g2,g3,g4,g5⟩:=hq
 exact ⟨v,S',g1,g2,g3,g4,h _ _ _ _ _ g5⟩
def toldN (me:Int) (t:TabT) (fr:Int):NearT:=⟨fr,me,t.us,t.gs,t.ak,0,0,0,0,0,0,0,0,0,0, [],false, [], [], [],0,0,0,0,0,0,0,0, [], [],false⟩
def APw9 (me:Int) (t:TabT) (fr:Int):List Dv:= [i64 fr,i64 me,i64 0,i64 0,i64 0,i64 0,i64 0,i64 0,i64 0,i64 0,i64 0,i64 0,Zaf 4 (rowsU t.us),Zaf 5 (rowsG t.gs),Zaf 3 (rowsA t.ak),Zdc (Zcl none 0 0),bo false,Zdc (Zcl none 0 0),Zdc (Zcl none 0 0),Zdc (Zcl none 0 0),i64 0,i64 0,u64 0,i64 0,i64 0,i64 0,i64 0,i64 0,Zdc (Zcl none 0 0),Zdc (Zcl none 0 0),bo false]
theorem APv9 (me:Int) (t:TabT) (fr:Int):AGy9 (APw9 me t fr) (nearR (toldN me t fr)):=by
 unfold APw9 nearR toldN
 repeat' (first|exact .nil|refine .cons .rfl ?_|refine .cons .nil ?_)
theorem CDc9 (t:TabT) (me fr:Int):PCall prog 32 [.d (i64 me),tabA t, .d (i64 fr)] (.d (.sl 31 (rowsN [toldN me t fr]))):=by
 have h:PCall prog 32 [.d (i64 me),tabA t, .d (i64 fr)] (.full 31 [APw9 me t fr]):=by
   refine Zbe (n:=100) (u:=false) mixed Zal Zah func32 (by rfl) (by rfl) fun Ev bb=> ?_
   rw [BXk9];rfl
 have g:SemV (AV.full 31 [APw9 me t fr]).view (Zab (Zaf 31 (rowsN [toldN me t fr]))).view:=SemV.rows (.cons (APv9 me t fr) .nil)
 exact PCall.semRes g h
def cTold (args:List AV) (K:AV→Prop):Prop:=∃(t:TabT) (me fr:Int) (q:List NearT),args= [.d (i64 me),tabA t, .d (i64 fr)]∧q= [toldN me t fr]∧K (.d (.sl 31 (rowsN q)))
theorem BFo9:∀args K,cTold args K→∃x,PCall prog 32 args x∧K x:=by
 rintro _ K ⟨t,me,fr,_,rfl,rfl,hk⟩;exact ⟨_,CDc9 t me fr,hk⟩
def sortA (l:List AskT):Nat→List AskT
 |0=> []
 |n+1=>sortA l n++l.filter (fun x=>x.sl==((n:Nat):Int))
structure PairT where
 li:TabT
 se:TabT
 nl:List NearT
 ns:List NearT
def pairB (p:PairT):Blk:=⟨[.d (.sl 4 (rowsU p.li.us)), .d (.sl 5 (rowsG p.li.gs)), .d (.sl 3 (rowsA p.li.ak)), .d (.sl 4 (rowsU p.se.us)), .d (.sl 5 (rowsG p.se.gs)), .d (.sl 3 (rowsA p.se.ak)), .d (.sl 31 (rowsN p.nl)), .d (.sl 31 (rowsN p.ns))],false,false,0⟩
def pairA (p:PairT):AV:= .agg [.d (.sl 4 (rowsU p.li.us)), .d (.sl 5 (rowsG p.li.gs)), .d (.sl 3 (rowsA p.li.ak)), .d (.sl 4 (rowsU p.se.us)), .d (.sl 5 (rowsG p.se.gs)), .d (.sl 3 (rowsA p.se.ak)), .d (.sl 31 (rowsN p.nl)), .d (.sl 31 (rowsN p.ns))]
noncomputable def lpNs:Code:=sub [1,1,1,0,1,2,3] (code f35)
def nilP:Dv:= .s (.pointer none)
def tmNs (l:List NearT) (me fr i:Int):List AV:= [.bad, .bad, .d (i64 me), .d (.sl 31 (rowsN l)), .d (i64 fr), .ptr 0 0, .bad, .bad, .bad, .bad, .d nilP, .d (bo false), .ptr 2 0]++Zaq 26 .bad++ [.d (.sl 31 (rowsN l)), .d (i64 l.length), .d (i64 i)]++Zaq 75 .bad
def layF (l:LayT) (z:Bool):Blk:=⟨[.d (i64 l.no), .d (i64 l.da)],z,false,0⟩
def sideB (l:LayT) (me fr:Int) (x:AV):Blk:=⟨[.d (i64 l.no), .d (i64 l.da), .d (i64 me),x, .d (i64 fr)],false,false,0⟩
def TNs:List (Nat×(List AV→(AV→Prop)→Prop)):= [(73,BLx9),(36,cIn),(74,AWj9),(77,AWk9),(40,AWl9)]
theorem CCa9:AAb9 prog TNs:=Zai APh9 (Zai BFy9 (Zai AUd9 (Zai AUe9 (Zai AUf9 Zal))))
def junkB (cs:List AV):Blk:=⟨cs,false,false,0⟩
def growB (v:Nat) (cs:List AV):Blk:=⟨cs,false,true,v⟩
def UNs:List (Nat×(List AV→List Blk→(AV→List Blk→Prop)→Prop)):= [(1000055,fun _ _ _=>False)]
theorem CBs9:AAk9 prog UNs:=Zbw (fun _ _ _ h=>h.elim) Zah
abbrev Qz8 (v0:Int) (v1:Int) (v2:List UseT) (v3:List GraT) (v4:List AskT):List AV:= [Zab (i64 v0),Zab (i64 v1),Zab (i64 0),Zab (i64 0),Zab (i64 0),Zab (i64 0),Zab (i64 0),Zab (i64 0),Zab (i64 0),Zab (i64 0),Zab (i64 0),Zab (i64 0),Zab (Zaf 4 (rowsU v2)),Zab (Zaf 5 (rowsG v3)),Zab (Zaf 3 (rowsA v4)),Zab (Zdc (.slice none 0 0)),Zab (bo false),Zab (Zdc (.slice none 0 0)),Zab (Zdc (.slice none 0 0)),Zab (Zdc (.slice none 0 0)),Zab (i64 0),Zab (i64 0),Zab (u64 0),Zab (i64 0),Zab (i64 0),Zab (i64 0),Zab (i64 0),Zab (i64 0),Zab (Zdc (.slice none 0 0)),Zab (Zdc (.slice none 0 0)),Zab (bo false)]
abbrev Qz26 (v0:LayT) (v1:Int) (v2:Int):List AV:= [Zab (i64 (Zez v0)),Zab (i64 (Zds v0)),Zab (i64 v1),Zab (Zdc (.slice none 0 0)),Zab (i64 v2)]
abbrev Qz28 (v0:Int) (v1:List UseT) (v2:List GraT) (v3:List AskT):List AV:= [Zab (i64 v0),Zab (i64 0),Zab (i64 0),Zab (i64 0),Zab (i64 0),Zab (i64 0),Zab (i64 0),Zab (i64 0),Zab (i64 0),Zab (i64 0),Zab (i64 0),Zab (Zaf 4 (rowsU v1)),Zab (Zaf 5 (rowsG v2)),Zab (Zaf 3 (rowsA v3)),Zab (Zdc (.slice none 0 0)),Zab (bo false),Zab (Zdc (.slice none 0 0)),Zab (Zdc (.slice none 0 0)),Zab (Zdc (.slice none 0 0)),Zab (i64 0),Zab (i64 0),Zab (u64 0),Zab (i64 0),Zab (i64 0),Zab (i64 0),Zab (i64 0),Zab (i64 0),Zab (Zdc (.slice none 0 0)),Zab (Zdc (.slice none 0 0)),Zab (bo false)]
abbrev Qz56 (v0:LayT) (v1:TabT) (v2:Int) (v3:Int):= [Blk.mk (Qz5 v0) false false 0,Blk.mk (Qz3 v1) false false 0,Blk.mk (Qz26 v0 v2 v3) false false 0]
theorem rNs0 (ly:LayT) (t:TabT) (l:List NearT) (me fr i:Int):wpc prog ⟨TNs,UNs,wl,y,false⟩ 100 lpNs (tmNs l me fr i) [layF ly false,tabB t,sideB ly me fr (.d (.s (.slice none 0 0)))] b (maskT [2,3,4,5,10,11,12,39,40,41] K)=(BIf (decide (i<((Zaa l:Nat):Int))) (BIf (true&&decide (0≤i)) (∃(x0:Int) (x1:Int) (x2:Int) (x3:Int) (x4:Int) (x5:Int) (x6:Int) (x7:Int) (x8:Int) (x9:Int) (x10:Int) (x11:Int) (xs12:List (List Dv)) (xs13:List (List Dv)) (xs14:List (List Dv)) (xs15:List (List Dv)) (b16:Bool) (xs17:List (List Dv)) (xs18:List (List Dv)) (xs19:List (List Dv)) (x20:Int) (x21:Int) (x22:Int) (x23:Int) (x24:Int) (x25:Int) (x26:Int) (x27:Int) (xs28:List (List Dv)) (xs29:List (List Dv)) (b30:Bool),(rowsN l)[Zav i]? =some [i64 x0,i64 x1,i64 x2,i64 x3,i64 x4,i64 x5,i64 x6,i64 x7,i64 x8,i64 x9,i64 x10,i64 x11,Zaf 4 xs12,Zaf 5 xs13,Zaf 3 xs14,Zaf 4 xs15,bo b16,Zaf 8 xs17,Zaf 8 xs18,Zaf 1 xs19,i64 x20,i64 x21,u64 x22,i64 x23,i64 x24,i64 x25,i64 x26,i64 x27,Zaf 1 xs28,Zaf 1 xs29,bo b30]∧∃(n33:Int) (h34:Int) (z35:Bool), [Zab (i64 x1),Zab (i64 (Zae .i64 (Zez ly - (1:Int))))]= [Zab (i64 n33),Zab (i64 h34)]∧z35=inN n33 h34∧BIf (!z35) (K .ret (Zad::Zad::Zab (i64 me)::Zab (Zaf 31 (rowsN l))::Zab (i64 fr)::Zak 0 0::bds 4 (Zab (Zdc (Zcf none))::Zab (bo false)::Zak 2 0::bds 26 (Zab (Zaf 31 (rowsN l))::Zab (i64 ((Zaa l:Nat):Int))::Zab (i64 i)::bds 75 []))) [Blk.mk (Qz5 ly) false false 0,Blk.mk (Qz3 t) false false 0,Blk.mk (Qz26 ly me fr) false false 0,Blk.mk [Zab (i64 x0),Zab (i64 x1),Zab (i64 x2),Zab (i64 x3),Zab (i64 x4),Zab (i64 x5),Zab (i64 x6),Zab (i64 x7),Zab (i64 x8),Zab (i64 x9),Zab (i64 x10),Zab (i64 x11),Zab (Zaf 4 xs12),Zab (Zaf 5 xs13),Zab (Zaf 3 xs14),Zab (Zaf 4 xs15),Zab (bo b16),Zab (Zaf 8 xs17),Zab (Zaf 8 xs18),Zab (Zaf 1 xs19),Zab (i64 x20),Zab (i64 x21),Zab (u64 x22),Zab (i64 x23),Zab (i64 x24),Zab (i64 x25),Zab (i64 x26),Zab (i64 x27),Zab (Zaf 1 xs28),Zab (Zaf 1 xs29),Zab (bo b30)] false false 0] b) (BIf (x1==me) (K .ret (Zad::Zad::Zab (i64 me)::Zab (Zaf 31 (rowsN l))::Zab (i64 fr)::Zak 0 0::bds 4 (Zab (Zdc (Zcf none))::Zab (bo false)::Zak 2 0::bds 26 (Zab (Zaf 31 (rowsN l))::Zab (i64 ((Zaa l:Nat):Int))::Zab (i64 i)::bds 75 []))) [Blk.mk (Qz5 ly) false false 0,Blk.mk (Qz3 t) false false 0,Blk.mk (Qz26 ly me fr) false false 0,Blk.mk [Zab (i64 x0),Zab (i64 x1),Zab (i64 x2),Zab (i64 x3),Zab (i64 x4),Zab (i64 x5),Zab (i64 x6),Zab (i64 x7),Zab (i64 x8),Zab (i64 x9),Zab (i64 x10),Zab (i64 x11),Zab (Zaf 4 xs12),Zab (Zaf 5 xs13),Zab (Zaf 3 xs14),Zab (Zaf 4 xs15),Zab (bo b16),Zab (Zaf 8 xs17),Zab (Zaf 8 xs18),Zab (Zaf 1 xs19),Zab (i64 x20),Zab (i64 x21),Zab (u64 x22),Zab (i64 x23),Zab (i64 x24),Zab (i64 x25),Zab (i64 x26),Zab (i64 x27),Zab (Zaf 1 xs28),Zab (Zaf 1 xs29),Zab (bo b30)] false false 0] b) (BIf (decide (i>(0:Int))) (BIf (true&&decide ((0:Int)≤Zae .i64 (i - 1))) (∃(x36:Int) (x37:Int) (x38:Int) (x39:Int) (x40:Int) (x41:Int) (x42:Int) (x43:Int) (x44:Int) (x45:Int) (x46:Int) (x47:Int) (xs48:List (List Dv)) (xs49:List (List Dv)) (xs50:List (List Dv)) (xs51:List (List Dv)) (b52:Bool) (xs53:List (List Dv)) (xs54:List (List Dv)) (xs55:List (List Dv)) (x56:Int) (x57:Int) (x58:Int) (x59:Int) (x60:Int) (x61:Int) (x62:Int) (x63:Int) (xs64:List (List Dv)) (xs65:List (List Dv)) (b66:Bool),(rowsN l)[Zav (Zae .i64 (i - 1))]? =some [i64 x36,i64 x37,i64 x38,i64 x39,i64 x40,i64 x41,i64 x42,i64 x43,i64 x44,i64 x45,i64 x46,i64 x47,Zaf 4 xs48,Zaf 5 xs49,Zaf 3 xs50,Zaf 4 xs51,bo b52,Zaf 8 xs53,Zaf 8 xs54,Zaf 1 xs55,i64 x56,i64 x57,u64 x58,i64 x59,i64 x60,i64 x61,i64 x62,i64 x63,Zaf 1 xs64,Zaf 1 xs65,bo b66]∧BIf (decide (x1≤x37)) (K .ret (Zad::Zad::Zab (i64 me)::Zab (Zaf 31 (rowsN l))::Zab (i64 fr)::Zak 0 0::bds 4 (Zab (Zdc (Zcf none))::Zab (bo false)::Zak 2 0::bds 26 (Zab (Zaf 31 (rowsN l))::Zab (i64 ((Zaa l:Nat):Int))::Zab (i64 i)::bds 75 []))) [Blk.mk (Qz5 ly) false false 0,Blk.mk (Qz3 t) false false 0,Blk.mk (Qz26 ly me fr) false false 0,Blk.mk [Zab (i64 x0),Zab (i64 x1),Zab (i64 x2),Zab (i64 x3),Zab (i64 x4),Zab (i64 x5),Zab (i64 x6),Zab (i64 x7),Zab (i64 x8),Zab (i64 x9),Zab (i64 x10),Zab (i64 x11),Zab (Zaf 4 xs12),Zab (Zaf 5 xs13),Zab (Zaf 3 xs14),Zab (Zaf 4 xs15),Zab (bo b16),Zab (Zaf 8 xs17),Zab (Zaf 8 xs18),Zab (Zaf 1 xs19),Zab (i64 x20),Zab (i64 x21),Zab (u64 x22),Zab (i64 x23),Zab (i64 x24),Zab (i64 x25),Zab (i64 x26),Zab (i64 x27),Zab (Zaf 1 xs28),Zab (Zaf 1 xs29),Zab (bo b30)] false false 0] b) (∃(n69:Int) (h70:Int) (z71:Bool), [Zab (i64 x0),Zab (i64 fr)]= [Zab (i64 n69),Zab (i64 h70)]∧z71=inN n69 h70∧BIf (!z71) (K .ret (Zad::Zad::Zab (i64 me)::Zab (Zaf 31 (rowsN l))::Zab (i64 fr)::Zak 0 0::bds 4 (Zab (Zdc (Zcf none))::Zab (bo false)::Zak 2 0::bds 26 (Zab (Zaf 31 (rowsN l))::Zab (i64 ((Zaa l:Nat):Int))::Zab (i64 i)::bds 75 []))) [Blk.mk (Qz5 ly) false false 0,Blk.mk (Qz3 t) false false 0,Blk.mk (Qz26 ly me fr) false false 0,Blk.mk [Zab (i64 x0),Zab (i64 x1),Zab (i64 x2),Zab (i64 x3),Zab (i64 x4),Zab (i64 x5),Zab (i64 x6),Zab (i64 x7),Zab (i64 x8),Zab (i64 x9),Zab (i64 x10),Zab (i64 x11),Zab (Zaf 4 xs12),Zab (Zaf 5 xs13),Zab (Zaf 3 xs14),Zab (Zaf 4 xs15),Zab (bo b16),Zab (Zaf 8 xs17),Zab (Zaf 8 xs18),Zab (Zaf 1 xs19),Zab (i64 x20),Zab (i64 x21),Zab (u64 x22),Zab (i64 x23),Zab (i64 x24),Zab (i64 x25),Zab (i64 x26),Zab (i64 x27),Zab (Zaf 1 xs28),Zab (Zaf 1 xs29),Zab (bo b30)] false false 0] b) (∃(l72:List UseT) (ly73:LayT) (q74:List UseT), [Zab (Zaf 4 xs12),Zat (Fn.func 75) [] (Qz14 ly)]= [Zab (Zaf 4 (rowsU l72)),Zat (Fn.func 75) [] (Qz14 ly73)]∧(Zaa l72<1000000∧q74=Zcg (fun (x75:UseT)=>useIs x75 ly73) l72)∧∃(l76:List GraT) (ly77:LayT) (q78:List GraT), [Zab (Zaf 5 xs13),Zat (Fn.func 78) [] (Qz14 ly)]= [Zab (Zaf 5 (rowsG l76)),Zat (Fn.func 78) [] (Qz14 ly77)]∧(Zaa l76<1000000∧q78=Zcg (fun (x79:GraT)=>graIs x79 ly77) l76)∧∃(l80:List AskT) (ly81:LayT) (q82:List AskT), [Zab (Zaf 3 xs14),Zat (Fn.func 80) [] (Qz14 ly)]= [Zab (Zaf 3 (rowsA l80)),Zat (Fn.func 80) [] (Qz14 ly81)]∧(Zaa l80<1000000∧q82=Zcg (fun (x83:AskT)=>ABv9 (Zde x83) (AskT.of x83) (AskT.pe x83) ly81) l80)∧1*392≤140737488355328∧K .normal (Zad::Zad::Zab (i64 me)::Zab (Zaf 31 (rowsN l))::Zab (i64 fr)::Zak 0 0::bds 4 (Zab (Zdc (Zcf none))::Zab (bo false)::Zak 2 0::bds 26 (Zab (Zaf 31 (rowsN l))::Zab (i64 ((Zaa l:Nat):Int))::Zab (i64 (Zae .i64 (i+1)))::bds 75 []))) [Blk.mk (Qz5 ly) true false 0,Blk.mk (Qz3 t) false false 0,Blk.mk [Zab (i64 (Zez ly)),Zab (i64 (Zds ly)),Zab (i64 me),Zbu 5 0 1 31,Zab (i64 fr)] false false 0,Blk.mk [Zab (i64 x0),Zab (i64 x1),Zab (i64 x2),Zab (i64 x3),Zab (i64 x4),Zab (i64 x5),Zab (i64 x6),Zab (i64 x7),Zab (i64 x8),Zab (i64 x9),Zab (i64 x10),Zab (i64 x11),Zab (Zaf 4 xs12),Zab (Zaf 5 xs13),Zab (Zaf 3 xs14),Zab (Zaf 4 xs15),Zab (bo b16),Zab (Zaf 8 xs17),Zab (Zaf 8 xs18),Zab (Zaf 1 xs19),Zab (i64 x20),Zab (i64 x21),Zab (u64 x22),Zab (i64 x23),Zab (i64 x24),Zab (i64 x25),Zab (i64 x26),Zab (i64 x27),Zab (Zaf 1 xs28),Zab (Zaf 1 xs29),Zab (bo b30)] false false 0,Blk.mk (Qz28 x1 q74 q78 q82) false false 0,Blk.mk (Qz8 x0 x1 q74 q78 q82) false true 0] b))) False) (∃(n84:Int) (h85:Int) (z86:Bool), [Zab (i64 x0),Zab (i64 fr)]= [Zab (i64 n84),Zab (i64 h85)]∧z86=inN n84 h85∧BIf (!z86) (K .ret (Zad::Zad::Zab (i64 me)::Zab (Zaf 31 (rowsN l))::Zab (i64 fr)::Zak 0 0::bds 4 (Zab (Zdc (Zcf none))::Zab (bo false)::Zak 2 0::bds 26 (Zab (Zaf 31 (rowsN l))::Zab (i64 ((Zaa l:Nat):Int))::Zab (i64 i)::bds 75 []))) [Blk.mk (Qz5 ly) false false 0,Blk.mk (Qz3 t) false false 0,Blk.mk (Qz26 ly me fr) false false 0,Blk.mk [Zab (i64 x0),Zab (i64 x1),Zab (i64 x2),Zab (i64 x3),Zab (i64 x4),Zab (i64 x5),Zab (i64 x6),Zab (i64 x7),Zab (i64 x8),Zab (i64 x9),Zab (i64 x10),Zab (i64 x11),Zab (Zaf 4 xs12),Zab (Zaf 5 xs13),Zab (Zaf 3 xs14),Zab (Zaf 4 xs15),Zab (bo b16),Zab (Zaf 8 xs17),Zab (Zaf 8 xs18),Zab (Zaf 1 xs19),Zab (i64 x20),Zab (i64 x21),Zab (u64 x22),Zab (i64 x23),Zab (i64 x24),Zab (i64 x25),Zab (i64 x26),Zab (i64 x27),Zab (Zaf 1 xs28),Zab (Zaf 1 xs29),Zab (bo b30)] false false 0] b) (∃(l87:List UseT) (ly88:LayT) (q89:List UseT), [Zab (Zaf 4 xs12),Zat (Fn.func 75) [] (Qz14 ly)]= [Zab (Zaf 4 (rowsU l87)),Zat (Fn.func 75) [] (Qz14 ly88)]∧(Zaa l87<1000000∧q89=Zcg (fun (x90:UseT)=>useIs x90 ly88) l87)∧∃(l91:List GraT) (ly92:LayT) (q93:List GraT), [Zab (Zaf 5 xs13),Zat (Fn.func 78) [] (Qz14 ly)]= [Zab (Zaf 5 (rowsG l91)),Zat (Fn.func 78) [] (Qz14 ly92)]∧(Zaa l91<1000000∧q93=Zcg (fun (x94:GraT)=>graIs x94 ly92) l91)∧∃(l95:List AskT) (ly96:LayT) (q97:List AskT), [Zab (Zaf 3 xs14),Zat (Fn.func 80) [] (Qz14 ly)]= [Zab (Zaf 3 (rowsA l95)),Zat (Fn.func 80) [] (Qz14 ly96)]∧(Zaa l95<1000000∧q97=Zcg (fun (x98:AskT)=>ABv9 (Zde x98) (AskT.of x98) (AskT.pe x98) ly96) l95)∧1*392≤140737488355328∧K .normal (Zad::Zad::Zab (i64 me)::Zab (Zaf 31 (rowsN l))::Zab (i64 fr)::Zak 0 0::bds 4 (Zab (Zdc (Zcf none))::Zab (bo false)::Zak 2 0::bds 26 (Zab (Zaf 31 (rowsN l))::Zab (i64 ((Zaa l:Nat):Int))::Zab (i64 (Zae .i64 (i+1)))::bds 75 []))) [Blk.mk (Qz5 ly) true false 0,Blk.mk (Qz3 t) false false 0,Blk.mk [Zab (i64 (Zez ly)),Zab (i64 (Zds ly)),Zab (i64 me),Zbu 5 0 1 31,Zab (i64 fr)] false false 0,Blk.mk [Zab (i64 x0),Zab (i64 x1),Zab (i64 x2),Zab (i64 x3),Zab (i64 x4),Zab (i64 x5),Zab (i64 x6),Zab (i64 x7),Zab (i64 x8),Zab (i64 x9),Zab (i64 x10),Zab (i64 x11),Zab (Zaf 4 xs12),Zab (Zaf 5 xs13),Zab (Zaf 3 xs14),Zab (Zaf 4 xs15),Zab (bo b16),Zab (Zaf 8 xs17),Zab (Zaf 8 xs18),Zab (Zaf 1 xs19),Zab (i64 x20),Zab (i64 x21),Zab (u64 x22),Zab (i64 x23),Zab (i64 x24),Zab (i64 x25),Zab (i64 x26),Zab (i64 x27),Zab (Zaf 1 xs28),Zab (Zaf 1 xs29),Zab (bo b30)] false false 0,Blk.mk (Qz28 x1 q89 q93 q97) false false 0,Blk.mk (Qz8 x0 x1 q89 q93 q97) false true 0] b))))) False) (K (Zbv 0) (Zad::Zad::Zab (i64 me)::Zab (Zaf 31 (rowsN l))::Zab (i64 fr)::Zak 0 0::bds 4 (Zab (Zdc (Zcf none))::Zab (bo false)::Zak 2 0::bds 26 (Zab (Zaf 31 (rowsN l))::Zab (i64 ((Zaa l:Nat):Int))::Zab (i64 i)::bds 75 []))) (Qz56 ly t me fr) b)):=by kernel_rfl
abbrev Qz23 (v0:LayT) (v1:Int) (v2:Nat) (v3:Nat) (v4:Int):List AV:= [Zab (i64 (Zez v0)),Zab (i64 (Zds v0)),Zab (i64 v1),Zbu 5 v2 v3 31,Zab (i64 v4)]
abbrev Qz40 (v0:LayT) (v1:Int) (v2:Nat) (v3:Nat) (v4:Int):List AV:= [Zab (i64 (Zez v0)),Zab (i64 (Zds v0)),Zab (i64 v1),Zbu 5 (v2+1) (v3+1) 31,Zab (i64 v4)]
theorem rNs (ly:LayT) (t:TabT) (l:List NearT) (me fr i:Int) (v n:Nat) (c3 c4 cs:List AV):wpc prog ⟨TNs,UNs,wl,y,false⟩ 100 lpNs (tmNs l me fr i) [layF ly true,tabB t,sideB ly me fr (.gref 5 v n 31),junkB c3,junkB c4,growB v cs] b (maskK 6 [2,3,4,5,10,11,12,39,40,41] K)=(BIf (decide (i<((Zaa l:Nat):Int))) (BIf (true&&decide (0≤i)) (∃(x0:Int) (x1:Int) (x2:Int) (x3:Int) (x4:Int) (x5:Int) (x6:Int) (x7:Int) (x8:Int) (x9:Int) (x10:Int) (x11:Int) (xs12:List (List Dv)) (xs13:List (List Dv)) (xs14:List (List Dv)) (xs15:List (List Dv)) (b16:Bool) (xs17:List (List Dv)) (xs18:List (List Dv)) (xs19:List (List Dv)) (x20:Int) (x21:Int) (x22:Int) (x23:Int) (x24:Int) (x25:Int) (x26:Int) (x27:Int) (xs28:List (List Dv)) (xs29:List (List Dv)) (b30:Bool),(rowsN l)[Zav i]? =some [i64 x0,i64 x1,i64 x2,i64 x3,i64 x4,i64 x5,i64 x6,i64 x7,i64 x8,i64 x9,i64 x10,i64 x11,Zaf 4 xs12,Zaf 5 xs13,Zaf 3 xs14,Zaf 4 xs15,bo b16,Zaf 8 xs17,Zaf 8 xs18,Zaf 1 xs19,i64 x20,i64 x21,u64 x22,i64 x23,i64 x24,i64 x25,i64 x26,i64 x27,Zaf 1 xs28,Zaf 1 xs29,bo b30]∧∃(n33:Int) (h34:Int) (z35:Bool), [Zab (i64 x1),Zab (i64 (Zae .i64 (Zez ly - (1:Int))))]= [Zab (i64 n33),Zab (i64 h34)]∧z35=inN n33 h34∧BIf (!z35) (BIf (Zcb [Blk.mk (Qz5 ly) true false 0,Blk.mk (Qz3 t) false false 0,Blk.mk (Qz23 ly me v n fr) false false 0,Blk.mk c3 false false 0,Blk.mk c4 false false 0,Blk.mk cs false true v] fun (blk36:Blk)=>lows 6 blk36.1) (K .ret (Zad::Zad::Zab (i64 me)::Zab (Zaf 31 (rowsN l))::Zab (i64 fr)::Zak 0 0::bds 4 (Zab (Zdc (Zcf none))::Zab (bo false)::Zak 2 0::bds 26 (Zab (Zaf 31 (rowsN l))::Zab (i64 ((Zaa l:Nat):Int))::Zab (i64 i)::bds 75 []))) [Blk.mk (Qz5 ly) true false 0,Blk.mk (Qz3 t) false false 0,Blk.mk (Qz23 ly me v n fr) false false 0,Blk.mk c3 false false 0,Blk.mk c4 false false 0,Blk.mk cs false true v] b) False) (BIf (x1==me) (BIf (Zcb [Blk.mk (Qz5 ly) true false 0,Blk.mk (Qz3 t) false false 0,Blk.mk (Qz23 ly me v n fr) false false 0,Blk.mk c3 false false 0,Blk.mk c4 false false 0,Blk.mk cs false true v] fun (blk37:Blk)=>lows 6 blk37.1) (K .ret (Zad::Zad::Zab (i64 me)::Zab (Zaf 31 (rowsN l))::Zab (i64 fr)::Zak 0 0::bds 4 (Zab (Zdc (Zcf none))::Zab (bo false)::Zak 2 0::bds 26 (Zab (Zaf 31 (rowsN l))::Zab (i64 ((Zaa l:Nat):Int))::Zab (i64 i)::bds 75 []))) [Blk.mk (Qz5 ly) true false 0,Blk.mk (Qz3 t) false false 0,Blk.mk (Qz23 ly me v n fr) false false 0,Blk.mk c3 false false 0,Blk.mk c4 false false 0,Blk.mk cs false true v] b) False) (BIf (decide (i>(0:Int))) (BIf (true&&decide ((0:Int)≤Zae .i64 (i - 1))) (∃(x38:Int) (x39:Int) (x40:Int) (x41:Int) (x42:Int) (x43:Int) (x44:Int) (x45:Int) (x46:Int) (x47:Int) (x48:Int) (x49:Int) (xs50:List (List Dv)) (xs51:List (List Dv)) (xs52:List (List Dv)) (xs53:List (List Dv)) (b54:Bool) (xs55:List (List Dv)) (xs56:List (List Dv)) (xs57:List (List Dv)) (x58:Int) (x59:Int) (x60:Int) (x61:Int) (x62:Int) (x63:Int) (x64:Int) (x65:Int) (xs66:List (List Dv)) (xs67:List (List Dv)) (b68:Bool),(rowsN l)[Zav (Zae .i64 (i - 1))]? =some [i64 x38,i64 x39,i64 x40,i64 x41,i64 x42,i64 x43,i64 x44,i64 x45,i64 x46,i64 x47,i64 x48,i64 x49,Zaf 4 xs50,Zaf 5 xs51,Zaf 3 xs52,Zaf 4 xs53,bo b54,Zaf 8 xs55,Zaf 8 xs56,Zaf 1 xs57,i64 x58,i64 x59,u64 x60,i64 x61,i64 x62,i64 x63,i64 x64,i64 x65,Zaf 1 xs66,Zaf 1 xs67,bo b68]∧BIf (decide (x1≤x39)) (BIf (Zcb [Blk.mk (Qz5 ly) true false 0,Blk.mk (Qz3 t) false false 0,Blk.mk (Qz23 ly me v n fr) false false 0,Blk.mk c3 false false 0,Blk.mk c4 false false 0,Blk.mk cs false true v] fun (blk71:Blk)=>lows 6 blk71.1) (K .ret (Zad::Zad::Zab (i64 me)::Zab (Zaf 31 (rowsN l))::Zab (i64 fr)::Zak 0 0::bds 4 (Zab (Zdc (Zcf none))::Zab (bo false)::Zak 2 0::bds 26 (Zab (Zaf 31 (rowsN l))::Zab (i64 ((Zaa l:Nat):Int))::Zab (i64 i)::bds 75 []))) [Blk.mk (Qz5 ly) true false 0,Blk.mk (Qz3 t) false false 0,Blk.mk (Qz23 ly me v n fr) false false 0,Blk.mk c3 false false 0,Blk.mk c4 false false 0,Blk.mk cs false true v] b) False) (∃(n72:Int) (h73:Int) (z74:Bool), [Zab (i64 x0),Zab (i64 fr)]= [Zab (i64 n72),Zab (i64 h73)]∧z74=inN n72 h73∧BIf (!z74) (BIf (Zcb [Blk.mk (Qz5 ly) true false 0,Blk.mk (Qz3 t) false false 0,Blk.mk (Qz23 ly me v n fr) false false 0,Blk.mk c3 false false 0,Blk.mk c4 false false 0,Blk.mk cs false true v] fun (blk75:Blk)=>lows 6 blk75.1) (K .ret (Zad::Zad::Zab (i64 me)::Zab (Zaf 31 (rowsN l))::Zab (i64 fr)::Zak 0 0::bds 4 (Zab (Zdc (Zcf none))::Zab (bo false)::Zak 2 0::bds 26 (Zab (Zaf 31 (rowsN l))::Zab (i64 ((Zaa l:Nat):Int))::Zab (i64 i)::bds 75 []))) [Blk.mk (Qz5 ly) true false 0,Blk.mk (Qz3 t) false false 0,Blk.mk (Qz23 ly me v n fr) false false 0,Blk.mk c3 false false 0,Blk.mk c4 false false 0,Blk.mk cs false true v] b) False) (∃(l76:List UseT) (ly77:LayT) (q78:List UseT), [Zab (Zaf 4 xs12),Zat (Fn.func 75) [] (Qz14 ly)]= [Zab (Zaf 4 (rowsU l76)),Zat (Fn.func 75) [] (Qz14 ly77)]∧(Zaa l76<1000000∧q78=Zcg (fun (x79:UseT)=>useIs x79 ly77) l76)∧∃(l80:List GraT) (ly81:LayT) (q82:List GraT), [Zab (Zaf 5 xs13),Zat (Fn.func 78) [] (Qz14 ly)]= [Zab (Zaf 5 (rowsG l80)),Zat (Fn.func 78) [] (Qz14 ly81)]∧(Zaa l80<1000000∧q82=Zcg (fun (x83:GraT)=>graIs x83 ly81) l80)∧∃(l84:List AskT) (ly85:LayT) (q86:List AskT), [Zab (Zaf 3 xs14),Zat (Fn.func 80) [] (Qz14 ly)]= [Zab (Zaf 3 (rowsA l84)),Zat (Fn.func 80) [] (Qz14 ly85)]∧(Zaa l84<1000000∧q86=Zcg (fun (x87:AskT)=>ABv9 (Zde x87) (AskT.of x87) (AskT.pe x87) ly85) l84)∧v=v∧(n+1)*392≤140737488355328∧BIf (Zcb [Blk.mk (Qz5 ly) true false 0,Blk.mk (Qz3 t) false false 0,Blk.mk (Qz40 ly me v n fr) false false 0,Blk.mk c3 false false 0,Blk.mk c4 false false 0,Blk.mk (cs++(Qz8 x0 x1 q78 q82 q86)) false true (v+1)] fun (blk88:Blk)=>lows 6 blk88.1) (K .normal (Zad::Zad::Zab (i64 me)::Zab (Zaf 31 (rowsN l))::Zab (i64 fr)::Zak 0 0::bds 4 (Zab (Zdc (Zcf none))::Zab (bo false)::Zak 2 0::bds 26 (Zab (Zaf 31 (rowsN l))::Zab (i64 ((Zaa l:Nat):Int))::Zab (i64 (Zae .i64 (i+1)))::bds 75 []))) [Blk.mk (Qz5 ly) true false 0,Blk.mk (Qz3 t) false false 0,Blk.mk (Qz40 ly me v n fr) false false 0,Blk.mk c3 false false 0,Blk.mk c4 false false 0,Blk.mk (cs++(Qz8 x0 x1 q78 q82 q86)) false true (v+1)] b) False))) False) (∃(n89:Int) (h90:Int) (z91:Bool), [Zab (i64 x0),Zab (i64 fr)]= [Zab (i64 n89),Zab (i64 h90)]∧z91=inN n89 h90∧BIf (!z91) (BIf (Zcb [Blk.mk (Qz5 ly) true false 0,Blk.mk (Qz3 t) false false 0,Blk.mk (Qz23 ly me v n fr) false false 0,Blk.mk c3 false false 0,Blk.mk c4 false false 0,Blk.mk cs false true v] fun (blk92:Blk)=>lows 6 blk92.1) (K .ret (Zad::Zad::Zab (i64 me)::Zab (Zaf 31 (rowsN l))::Zab (i64 fr)::Zak 0 0::bds 4 (Zab (Zdc (Zcf none))::Zab (bo false)::Zak 2 0::bds 26 (Zab (Zaf 31 (rowsN l))::Zab (i64 ((Zaa l:Nat):Int))::Zab (i64 i)::bds 75 []))) [Blk.mk (Qz5 ly) true false 0,Blk.mk (Qz3 t) false false 0,Blk.mk (Qz23 ly me v n fr) false false 0,Blk.mk c3 false false 0,Blk.mk c4 false false 0,Blk.mk cs false true v] b) False) (∃(l93:List UseT) (ly94:LayT) (q95:List UseT), [Zab (Zaf 4 xs12),Zat (Fn.func 75) [] (Qz14 ly)]= [Zab (Zaf 4 (rowsU l93)),Zat (Fn.func 75) [] (Qz14 ly94)]∧(Zaa l93<1000000∧q95=Zcg (fun (x96:UseT)=>useIs x96 ly94) l93)∧∃(l97:List GraT) (ly98:LayT) (q99:List GraT), [Zab (Zaf 5 xs13),Zat (Fn.func 78) [] (Qz14 ly)]= [Zab (Zaf 5 (rowsG l97)),Zat (Fn.func 78) [] (Qz14 ly98)]∧(Zaa l97<1000000∧q99=Zcg (fun (x100:GraT)=>graIs x100 ly98) l97)∧∃(l101:List AskT) (ly102:LayT) (q103:List AskT), [Zab (Zaf 3 xs14),Zat (Fn.func 80) [] (Qz14 ly)]= [Zab (Zaf 3 (rowsA l101)),Zat (Fn.func 80) [] (Qz14 ly102)]∧(Zaa l101<1000000∧q103=Zcg (fun (x104:AskT)=>ABv9 (Zde x104) (AskT.of x104) (AskT.pe x104) ly102) l101)∧v=v∧(n+1)*392≤140737488355328∧BIf (Zcb [Blk.mk (Qz5 ly) true false 0,Blk.mk (Qz3 t) false false 0,Blk.mk (Qz40 ly me v n fr) false false 0,Blk.mk c3 false false 0,Blk.mk c4 false false 0,Blk.mk (cs++(Qz8 x0 x1 q95 q99 q103)) false true (v+1)] fun (blk105:Blk)=>lows 6 blk105.1) (K .normal (Zad::Zad::Zab (i64 me)::Zab (Zaf 31 (rowsN l))::Zab (i64 fr)::Zak 0 0::bds 4 (Zab (Zdc (Zcf none))::Zab (bo false)::Zak 2 0::bds 26 (Zab (Zaf 31 (rowsN l))::Zab (i64 ((Zaa l:Nat):Int))::Zab (i64 (Zae .i64 (i+1)))::bds 75 []))) [Blk.mk (Qz5 ly) true false 0,Blk.mk (Qz3 t) false false 0,Blk.mk (Qz40 ly me v n fr) false false 0,Blk.mk c3 false false 0,Blk.mk c4 false false 0,Blk.mk (cs++(Qz8 x0 x1 q95 q99 q103)) false true (v+1)] b) False))))) False) (BIf (Zcb [Blk.mk (Qz5 ly) true false 0,Blk.mk (Qz3 t) false false 0,Blk.mk (Qz23 ly me v n fr) false false 0,Blk.mk c3 false false 0,Blk.mk c4 false false 0,Blk.mk cs false true v] fun (blk106:Blk)=>lows 6 blk106.1) (K (Zbv 0) (Zad::Zad::Zab (i64 me)::Zab (Zaf 31 (rowsN l))::Zab (i64 fr)::Zak 0 0::bds 4 (Zab (Zdc (Zcf none))::Zab (bo false)::Zak 2 0::bds 26 (Zab (Zaf 31 (rowsN l))::Zab (i64 ((Zaa l:Nat):Int))::Zab (i64 i)::bds 75 []))) [Blk.mk (Qz5 ly) true false 0,Blk.mk (Qz3 t) false false 0,Blk.mk (Qz23 ly me v n fr) false false 0,Blk.mk c3 false false 0,Blk.mk c4 false false 0,Blk.mk cs false true v] b) False)):=by kernel_rfl
def fTab (ly:LayT) (n:NearT):TabT:=⟨n.us.filter (fun x:UseT=>useIs x ly),n.gs.filter (fun x:GraT=>graIs x ly),n.ak.filter (fun x:AskT=>ABv9 x.sl x.of x.pe ly)⟩
def filN (ly:LayT) (n:NearT):NearT:=toldN n.fm (fTab ly n) n.fr
def ALy9 (ly:LayT) (n:NearT):List Dv:=APw9 n.fm (fTab ly n) n.fr
def AFb9 (x:NearT):Prop:=x.us.length<1000000∧x.gs.length<1000000∧x.ak.length<1000000
theorem WR.scanG {α:Type} {P:Program} {Ev:Env P} {X:CX Ev.β} {lp:Code} {b:Ev.β} {Q:Exit→St Ev.β→Prop} {k L:Nat} (keep:List Nat) (hm:P.follows .mixedOrders=true) (hX:X.Ok) (xs:List α) (p:α→Bool) (tmOf:Nat→List AV) (hpOf:Nat→List Blk) (hL:∀i,(hpOf i).length=L) (id:Nat) (s:Nat)
   (hr:∀(i:Nat) (x:α),s≤i→i<xs.length→xs[i]? =some x→∀K:Exit→List AV→List Blk→Ev.β→Prop,(p x=true→K .ret (tmOf i) (hpOf i) b)→(p x=false→K .normal (tmOf (i+1)) (hpOf (i+1)) b)→wpc P X k lp (tmOf i) (hpOf i) b (maskK L keep K))
   (he:∀K:Exit→List AV→List Blk→Ev.β→Prop,K (.exit id) (tmOf xs.length) (hpOf xs.length) b→wpc P X k lp (tmOf xs.length) (hpOf xs.length) b (maskK L keep K))
   (h1:(xs.drop s).any p=false→Q (.exit id) ⟨tmOf xs.length,hpOf xs.length,b⟩) (h2:(xs.drop s).any p=true→∀i,Q .ret ⟨tmOf i,hpOf i,b⟩):
   ∀(m i:Nat),i+m=xs.length→s≤i→((xs.drop s).any p=(xs.drop i).any p)→WR Ev lp (m+1) ⟨tmOf i,hpOf i,b⟩ Q
 | 0,i,hi,hs,hj=>by
   have e:i=xs.length:=by omega
   subst e
   refine Zdw keep hm hX (k:=k) (by rw [hL];exact he _ (h1 (by rw [hj,List.drop_length];rfl)))
 | m+1,i,hi,hs,hj=>by
   have hlt:i<xs.length:=by omega
   have hx:xs[i]? =some xs[i]:=Zba hlt
   have hd:xs.drop i=xs[i]::xs.drop (i+1):=Zeu hlt
   refine Zdw keep hm hX (k:=k) (by
     rw [hL]
     refine hr i xs[i] hs hlt hx _ (fun hp=>h2 (by rw [hj,hd,List.any_cons,hp];rfl) i) fun hp=> ?_
     exact WR.scanG keep hm hX xs p tmOf hpOf hL id s hr he h1 h2 m (i+1) (by omega) (by omega) (by rw [hj,hd,List.any_cons,hp];rfl))
theorem BEo9 (xs:List (List Dv)) (r:List Dv):flatA (xs++ [r])=flatA xs++r.map .d:=by simp [flatA]
def nsB (ly:LayT) (t:TabT) (l:List NearT) (me fr:Int) (c3 c4:List AV) (i:Nat):List Blk:= [layF ly true,tabB t,sideB ly me fr (.gref 5 (i - 1) i 31),junkB c3,junkB c4,growB (i - 1) (flatA ((l.take i).map (ALy9 ly)))]
theorem CDt9 {ly:LayT} {t:TabT} {l:List NearT} {me fr:Int} {c3 c4:List AV} (h3:lows 6 c3=true) (h4:lows 6 c4=true) (i:Nat):Zcb (nsB ly t l me fr c3 c4 i) (fun blk=>lows 6 blk.1)=true:=by
 simp only [nsB,List.all_cons,List.all_nil,Bool.and_true,Zaj]
 exact ⟨rfl,rfl,rfl,h3,h4,ACt9 6 _⟩
theorem BNz9 {ly:LayT} (h:1≤ly.no∧ly.no≤1000000) (n:Int):inN n (Zae Zay (ly.no - 1))= !(decide (n<0)||decide (n≥ly.no)):=by
 rw [AAt9 (by omega) (by omega),inN]
 by_cases h1:n<0
 · simp [h1];omega
 · by_cases h2:n≥ly.no
   · simp [h1,h2];omega
   · simp [h1,h2];omega
theorem CAb9 (n fr:Int):inN n fr= !(decide (n<0)||decide (n>fr)):=by
 rw [inN]
 by_cases h1:n<0
 · simp [h1];omega
 · by_cases h2:n>fr
   · simp [h1,h2]
   · simp [h1,h2];omega
theorem wrNs1 {Ev:Env prog} {b:Ev.β} {Q:Exit→St Ev.β→Prop} (ly:LayT) (t:TabT) (l:List NearT) (me fr:Int) (c3 c4:List AV) (hc3:lows 6 c3=true) (hc4:lows 6 c4=true) (hno:1≤ly.no∧ly.no≤1000000) (hl:l.length<1000000) (hx:∀x∈l,AFb9 x)
   (h1:((ABe9 none l).drop 1).any (badN ly me fr)=false→Q (.exit 0) ⟨tmNs l me fr l.length,nsB ly t l me fr c3 c4 l.length,b⟩) (h2:((ABe9 none l).drop 1).any (badN ly me fr)=true→∀(i:Nat),Q .ret ⟨tmNs l me fr i,nsB ly t l me fr c3 c4 i,b⟩) (m:Nat) (hm:1+m=l.length):
   WR Ev lpNs (m+1) ⟨tmNs l me fr (1:Nat),nsB ly t l me fr c3 c4 1,b⟩ Q:=by
 have e:=ATf9 l none
 have low:=fun i=>CDt9 (ly:=ly) (t:=t) (l:=l) (me:=me) (fr:=fr) hc3 hc4 i
 refine WR.scanG (X:=⟨TNs,UNs,wlW Ev,Ev.Y,false⟩) (k:=100) (L:=6) [2,3,4,5,10,11,12,39,40,41] mixed (CX.Ok.of CCa9 CBs9) (ABe9 none l) (badN ly me fr) (fun i=>tmNs l me fr (i:Nat)) (fun i=>nsB ly t l me fr c3 c4 i) (fun i=>rfl) 0 1 (fun i p hs hi hp K k1 k2=> ?_) (fun K k1=> ?_) (fun h=>by simp only [e];exact h1 h) (fun h i=>h2 h i) m 1 (by rw [e];exact hm) (Zau _) rfl
 · obtain ⟨g1,g2,g3⟩:=AXt9 l none i p hp
   obtain ⟨o,x⟩:=p
   simp only at g1 g2 g3
   have hxl:AFb9 x:=hx x (List.mem_of_getElem? g1)
   obtain ⟨j,rfl⟩:∃j,i=j+1:=⟨i - 1,by omega⟩
   obtain ⟨w,hw,hj⟩:=g3 j rfl
   refine Eq.mpr (rNs _ _ _ K ly t l me fr ((j+1:Nat):Int) j (j+1) c3 c4 _) ?_
   refine Zbg (by simp;omega) (Zbg (natI _) ⟨_,_,_,_,_,_,_,_,_,_,_,_,_,_,_,_,_,_,_,_,_,_,_,_,_,_,_,_,_,_,_,AEm9 g1, ?_⟩)
   refine ⟨_,_,_,rfl,rfl, ?_⟩
   rw [BNz9 hno,Zfh]
   refine Zbh (fun c1=>Zbg (low (j+1)) (k1 (by rw [badN,←Bool.or_assoc];simp only [c1,Zeq]))) fun c1=>Zbh (fun c2=>Zbg (low (j+1)) (k1 (by rw [badN];simp only [show (x.fm==me)=true from c2,Zeq,Zee]))) fun c2=>Zbg (by simp) ?_
   rw [show Zae Zay (((j+1:Nat):Int) - 1)=((j:Nat):Int) by rw [AAt9 (by omega) (by omega)];omega]
   refine Zbg (natI j) ⟨_,_,_,_,_,_,_,_,_,_,_,_,_,_,_,_,_,_,_,_,_,_,_,_,_,_,_,_,_,_,_,AEm9 hj,Zbh (fun c3=>Zbg (low (j+1)) (k1 ?_)) fun c3=>⟨_,_,_,rfl,rfl, ?_⟩⟩
   · have hpv:BCs9 o x.fm=true:=by rw [hw];exact c3
     rw [badN];simp only [hpv,Zee]
   · rw [CAb9,Zfh]
     refine Zbh (fun c4=>Zbg (low (j+1)) (k1 ?_)) fun c4=> ?_
     · rcases (Zdp ..).mp c4 with c4|c4<;> · rw [badN];simp only [c4,Zeq,Zee]
     · have hpv:BCs9 o x.fm=false:=by rw [hw];exact c3
       have hb:badN ly me fr (o,x)=false:=by
         rw [Bool.or_eq_false_iff] at c1 c4
         rw [badN,c1.1,c1.2,show (x.fm==me)=false from c2,c4.1,c4.2,hpv];rfl
       have hk:=k2 hb
       have htk:(l.take (j+1+1)).map (ALy9 ly)=(l.take (j+1)).map (ALy9 ly)++ [ALy9 ly x]:=by
         rw [List.take_add_one,g1];simp
       have hl2:=low (j+1+1)
       simp only [nsB,htk,BEo9] at hk hl2
       refine ⟨x.us,ly,_,rfl,⟨hxl.1,rfl⟩,x.gs,ly,_,rfl,⟨hxl.2.1,rfl⟩,x.ak,ly,_,rfl,⟨hxl.2.2,rfl⟩,rfl,by omega,Zbg hl2 ?_⟩
       rw [wrapN (by omega)]
       exact hk
 · simp only [e] at k1 ⊢
   refine Eq.mpr (rNs _ _ _ K ly t l me fr l.length (l.length - 1) l.length c3 c4 _) ?_
   exact Zdl (by simp) (Zbg (low l.length) k1)
def nsB0 (ly:LayT) (t:TabT) (me fr:Int):List Blk:= [layF ly false,tabB t,sideB ly me fr (.d (.s (.slice none 0 0)))]
theorem wrNs {Ev:Env prog} {b:Ev.β} {Q:Exit→St Ev.β→Prop} (ly:LayT) (t:TabT) (l:List NearT) (me fr:Int) (hno:1≤ly.no∧ly.no≤1000000) (hl:l.length<1000000) (hx:∀x∈l,AFb9 x)
   (h0:l= []→Q (.exit 0) ⟨tmNs l me fr l.length,nsB0 ly t me fr,b⟩) (h1:l≠ []→(ABe9 none l).any (badN ly me fr)=false→∀c3 c4,Q (.exit 0) ⟨tmNs l me fr l.length,nsB ly t l me fr c3 c4 l.length,b⟩) (h2:(ABe9 none l).any (badN ly me fr)=true→∀(i:Nat) (hp:List Blk),Q .ret ⟨tmNs l me fr i,hp,b⟩):
   WR Ev lpNs (l.length+1) ⟨tmNs l me fr (0:Nat),nsB0 ly t me fr,b⟩ Q:=by
 refine WR.ofMaskT (X:=⟨TNs,UNs,wlW Ev,Ev.Y,false⟩) (k:=100) [2,3,4,5,10,11,12,39,40,41] mixed (CX.Ok.of CCa9 CBs9) ?_
 refine Eq.mpr (rNs0 _ _ _ _ ly t l me fr ((0:Nat):Int)) ?_
 cases l with
 |nil=>exact Zdl (by simp) (h0 rfl)
 | cons x r=>
   have hxl:AFb9 x:=hx x (Zbz ..)
   have g1:(x::r)[0]? =some x:=rfl
   have hwp:ABe9 none (x::r)=(none,x)::ABe9 (some x) r:=rfl
   refine Zbg (by simp) (Zbg (natI 0) ⟨_,_,_,_,_,_,_,_,_,_,_,_,_,_,_,_,_,_,_,_,_,_,_,_,_,_,_,_,_,_,_,AEm9 g1, ?_⟩)
   refine ⟨_,_,_,rfl,rfl, ?_⟩
   rw [BNz9 hno,Zfh]
   have bad:badN ly me fr (none,x)=true→∀(i:Nat) (hp:List Blk),Q .ret ⟨tmNs (x::r) me fr i,hp,b⟩:=fun h=>h2 (by rw [hwp,List.any_cons,h];rfl)
   refine Zbh (fun c1=>bad (by rw [badN,←Bool.or_assoc];simp only [c1,Zeq]) 0 _) fun c1=>Zbh (fun c2=>bad (by rw [badN];simp only [show (x.fm==me)=true from c2,Zeq,Zee]) 0 _) fun c2=>Zdl (by decide) ?_
   refine ⟨_,_,_,rfl,rfl, ?_⟩
   rw [CAb9,Zfh]
   refine Zbh (fun c4=>bad ?_ 0 _) fun c4=> ?_
   · rcases (Zdp ..).mp c4 with c4|c4<;> · rw [badN];simp only [c4,Zeq,Zee]
   · have hb:badN ly me fr (none,x)=false:=by
       rw [Bool.or_eq_false_iff] at c1 c4
       rw [badN,c1.1,c1.2,show (x.fm==me)=false from c2,c4.1,c4.2];rfl
     have hd:(ABe9 none (x::r)).drop 1=ABe9 (some x) r:=rfl
     have hk:=fun c3 c4 h3 h4=>wrNs1 (Q:=Q) ly t (x::r) me fr c3 c4 h3 h4 hno hl hx (fun h=>h1 (by simp) (by rw [hwp,List.any_cons,hb];rw [hd] at h;exact h) c3 c4) (fun h i=>h2 (by rw [hwp,List.any_cons,hb];rw [hd] at h;exact h) i _) r.length (by simp;omega)
     refine ⟨x.us,ly,_,rfl,⟨hxl.1,rfl⟩,x.gs,ly,_,rfl,⟨hxl.2.1,rfl⟩,x.ak,ly,_,rfl,⟨hxl.2.2,rfl⟩,by decide, ?_⟩
     rw [wrapN (by omega)]
     exact hk _ _ rfl rfl
def wlNs {β:Type}:WLT β:=fun cd tm hp b K=>∃(ly:LayT) (t:TabT) (l:List NearT) (me fr:Int) (q:Bool),cd= .loop lpNs∧ABd9 [2,3,4,5,10,11,12,39,40,41] 0 tm=tmNs l me fr 0∧hp=nsB0 ly t me fr∧
 ((1≤ly.no∧ly.no≤1000000)∧l.length<1000000∧(∀x∈l,AFb9 x)∧q=(ABe9 none l).any (badN ly me fr))∧
 BIf q (∀(i:Nat) (hp:List Blk),K .ret (tmNs l me fr i) hp b) (BIf l.isEmpty (K (.exit 0) (tmNs l me fr l.length) (nsB0 ly t me fr) b) (∀(c3 c4:List AV),K (.exit 0) (tmNs l me fr l.length) [layF ly true,tabB t,sideB ly me fr (.gref 5 (l.length - 1) l.length 31),junkB c3,junkB c4,growB (l.length - 1) (flatA (l.map (ALy9 ly)))] b))
theorem BWv9 {Ev:Env prog} (c:Code) (tm:List AV) (hp:List Blk) (b:Ev.β) (K:Exit→List AV→List Blk→Ev.β→Prop) (h:wlNs c tm hp b K):W Ev c ⟨tm,hp,b⟩ (fun e s=>K e s.tm s.hp s.b):=by
 obtain ⟨ly,t,l,me,fr,q,rfl,htm,rfl,⟨hno,hl,hx,hz⟩,hK⟩:=h
 refine W.cast (htm▸AAe9 _ tm 0) (Zce _) ?_
 refine W.rounds (wrNs (Q:=fun e s=>K e s.tm s.hp s.b) ly t l me fr hno hl hx (fun h=> ?_) (fun hne h c3 c4=> ?_) fun h=>by rw [hz,h] at hK;exact hK)
 · subst h
   rw [hz] at hK;exact hK
 · rw [hz,h] at hK
   cases l with
   |nil=>exact absurd rfl hne
   | cons x r=>
     have hK':=(show ∀(c3 c4:List AV),_ from hK) c3 c4
     simp only [nsB,Zdx]
     exact hK'
def TNf:List (Nat×(List AV→(AV→Prop)→Prop)):= [(73,BLx9),(36,cIn)]
theorem CEq9:AAb9 prog TNf:=Zai APh9 (Zai BFy9 Zal)
abbrev Qz50:List AV:= [Zab (Zdc (Zcf none)),Zab (bo false)]
theorem ns_nf (ly:LayT) (t:TabT) (l:List NearT) (me fr:Int):wpFn prog ⟨TNf, [],wlNs,y,false⟩ 100 f35 [layA ly,tabA t, .d (i64 me), .d (.sl 31 (rowsN l)), .d (i64 fr)] b R=(∃(t0:TabT) (l1:LayT) (q2:Bool), [Zao (Qz3 t),Zao (Qz5 ly)]= [Zao (Qz3 t0),Zao (Qz5 l1)]∧((Zaa (Zbj t0)<10000∧Zaa (Zbl t0)<10000∧Zaa (Zbo t0)<10000)∧q2=ACy9 t0 l1)∧BIf (!q2) (R (.tup Qz50) b) (∃(n3:Int) (h4:Int) (z5:Bool), [Zab (i64 me),Zab (i64 (Zae .i64 (Zez ly - (1:Int))))]= [Zab (i64 n3),Zab (i64 h4)]∧z5=inN n3 h4∧BIf (!z5) (R (.tup Qz50) b) (∃(n6:Int) (h7:Int) (z8:Bool), [Zab (i64 fr),Zab (i64 999999992)]= [Zab (i64 n6),Zab (i64 h7)]∧z8=inN n6 h7∧BIf (!z8) (R (.tup Qz50) b) (∃(ly9:LayT) (t10:TabT) (l11:List NearT) (me12:Int) (fr13:Int) (q14:Bool),Zaz lpNs=Zaz lpNs∧(Zad::Zad::Zab (i64 me)::Zab (Zaf 31 (rowsN l))::Zab (i64 fr)::Zak 0 0::bds 4 (Zab (Zdc (Zcf none))::Zab (bo false)::Zak 2 0::bds 26 (Zab (Zaf 31 (rowsN l))::Zab (i64 ((Zaa (rowsN l):Nat):Int))::Zab (i64 0)::bds 75 [])))=(Zad::Zad::Zab (i64 me12)::Zab (Zaf 31 (rowsN l11))::Zab (i64 fr13)::Zak 0 0::bds 4 (Zab (Zdc (Zcf none))::Zab (bo false)::Zak 2 0::bds 26 (Zab (Zaf 31 (rowsN l11))::Zab (i64 ((Zaa l11:Nat):Int))::Zab (i64 0)::bds 75 [])))∧(Qz56 ly t me fr)=(Qz56 ly9 t10 me12 fr13)∧(((1:Int)≤Zez ly9∧Zez ly9≤(1000000:Int))∧Zaa l11<1000000∧(∀(x:NearT),x∈l11→Zaa (Zbp x)<1000000∧Zaa (Zbn x)<1000000∧Zaa (Zcc x)<1000000)∧q14=List.any (ABe9 none l11) (badN ly9 me12 fr13))∧BIf q14 (∀(i:Nat) (hp:List Blk),R (.tup Qz50) b) (BIf (List.isEmpty l11) (R (.tup [Zag [i64 (Zez ly9),i64 (Zds ly9),i64 me12,Zdc (.slice none 0 0),i64 fr13],Zab (bo true)]) b) (∀(c3 c4:List AV),Zaa l11 - 1=Zaa l11 - 1∧∃(xs15:List (List Dv)),flatA (List.map (ALy9 ly9) l11)=flatA xs15∧Zaa xs15=Zaa l11∧(∀(r:List Dv),r∈xs15→Zaa r=31)∧R (.tup [Zag [i64 (Zez ly9),i64 (Zds ly9),i64 me12,Zaf 31 xs15,i64 fr13],Zab (bo true)]) b)))))):=by kernel_rfl
theorem SemV.tup2 {a a' b:AV} (h:SemV a a'):SemV (.tup [a,b]) (.tup [a',b]):=by
 intro S w m yv v hr
 cases hr with
 | tup hl h0=>
   refine .tup hl fun i c v hc hv=> ?_
   match i,hc with
   |0,hc=>simp at hc;subst hc;exact h _ _ _ _ _ (h0 0 a v (by simp) hv)
   |1,hc=>exact h0 1 c v hc hv
theorem SemV.rptr {cs ds:List Dv} (hl:cs.length=ds.length) (h:∀(j:Nat) (c d:Dv),cs[j]? =some c→ds[j]? =some d→ASm9 c d∨∃k xs ys,c= .sl k xs∧d= .sl k ys∧AJp9 xs ys):SemV (.rptr cs) (.rptr ds):=by
 intro S w m yv v hr
 cases hr with
 | rptr vals hne hsp hs hc hr h1=>
   have get:∀(j:Nat) (d:Dv),ds[j]? =some d→∃c,cs[j]? =some c:=fun j d hd=>by
     have:=(Zac.1 hd).1
     exact ⟨cs[j]'(by omega),Zba (by omega)⟩
   refine .rptr vals (fun e=>hne (List.length_eq_zero_iff.1 (by rw [hl,e];rfl))) hsp (fun j d hd=> ?_) (fun j d hd=> ?_) (fun j d hd=> ?_) (fun j d hd=> ?_)
   all_goals obtain ⟨c,hc0⟩:=get j d hd
   · exact hs j c hc0
   · exact hc j c hc0
   · rcases h j c d hc0 hd with h2|⟨k,xs,ys,rfl,rfl,h2⟩
     · exact h2.dr (hr j c hc0)
     · exact h2.dr (hr j _ hc0)
   · exact h1 j c hc0
def newS (ly:LayT) (t:TabT) (me:Int) (l:List NearT) (fr:Int):Bool:=ACy9 t ly&&(inN me (Zae Zay (ly.no - 1))&&(inN fr 999999992&& !(ABe9 none l).any (badN ly me fr)))
def sideS (ly:LayT) (me:Int) (l:List NearT) (fr:Int):SideT:=⟨ly,me,l.map (filN ly),fr⟩
def nsA (q:Bool) (s:SideT):AV:= .tup [if q then .rptr (sideD s) else .d nilP, .d (bo q)]
theorem AWb9 (ly:LayT):∀l:List NearT,AJp9 (l.map (ALy9 ly)) (rowsN (l.map (filN ly)))
 | []=> .nil
 |n::r=> .cons (APv9 n.fm (fTab ly n) n.fr) (AWb9 ly r)
theorem BXp9 (ly:LayT) (me:Int) (l:List NearT) (fr:Int):SemV (.rptr [i64 ly.no,i64 ly.da,i64 me, .sl 31 (l.map (ALy9 ly)),i64 fr]) (.rptr (sideD (sideS ly me l fr))):=by
 refine SemV.rptr rfl fun j c d hc hd=> ?_
 match j,hc,hd with
 |0,hc,hd=>simp [sideD,sideS] at hc hd;subst hc;subst hd;exact .inl .rfl
 |1,hc,hd=>simp [sideD,sideS] at hc hd;subst hc;subst hd;exact .inl .rfl
 |2,hc,hd=>simp [sideD,sideS] at hc hd;subst hc;subst hd;exact .inl .rfl
 |3,hc,hd=>simp [sideD,sideS] at hc hd;subst hc;subst hd;exact .inr ⟨31,_,_,rfl,rfl,AWb9 ly l⟩
 |4,hc,hd=>simp [sideD,sideS] at hc hd;subst hc;subst hd;exact .inl .rfl
theorem BQy9 (ly:LayT) (me fr:Int):SemV (.rptr [i64 ly.no,i64 ly.da,i64 me,Zdc (Zcl none 0 0),i64 fr]) (.rptr (sideD (sideS ly me [] fr))):=by
 refine SemV.rptr rfl fun j c d hc hd=> ?_
 match j,hc,hd with
 |0,hc,hd=>simp [sideD,sideS] at hc hd;subst hc;subst hd;exact .inl .rfl
 |1,hc,hd=>simp [sideD,sideS] at hc hd;subst hc;subst hd;exact .inl .rfl
 |2,hc,hd=>simp [sideD,sideS] at hc hd;subst hc;subst hd;exact .inl .rfl
 |3,hc,hd=>simp [sideD,sideS,rowsN] at hc hd;subst hc;subst hd;exact .inl .nil
 |4,hc,hd=>simp [sideD,sideS] at hc hd;subst hc;subst hd;exact .inl .rfl
theorem BEr9 (ly:LayT) (l:List NearT):∀r∈l.map (ALy9 ly),r.length=31:=by
 intro r hr
 simp only [Zbb] at hr
 obtain ⟨x,_,rfl⟩:=hr;rfl
theorem ABc9 {t:TabT} {l:LayT} (h:ACy9 t l=true):(1≤l.no∧l.no≤60)∧(1≤l.da∧l.da≤60):=by
 unfold ACy9 at h
 split at h<;>try (cases h;done)
 split at h<;>try (cases h;done)
 split at h<;>try (cases h;done)
 split at h<;>try (cases h;done)
 omega
theorem pcNew (ly:LayT) (t:TabT) (me:Int) (l:List NearT) (fr:Int) (ht:TabOk t) (hl:l.length<1000000) (hx:∀x∈l,AFb9 x):
   PCall prog 35 [layA ly,tabA t, .d (i64 me), .d (.sl 31 (rowsN l)), .d (i64 fr)] (nsA (newS ly t me l fr) (sideS ly me l fr)):=by
 have key:PCall prog 35 [layA ly,tabA t, .d (i64 me), .d (.sl 31 (rowsN l)), .d (i64 fr)] (.tup [if newS ly t me l fr then .rptr [i64 ly.no,i64 ly.da,i64 me,if l.isEmpty then Zdc (Zcl none 0 0) else .sl 31 (l.map (ALy9 ly)),i64 fr] else .d nilP, .d (bo (newS ly t me l fr))]):=by
   refine Zdy (n:=100) (u:=false) (fun _=>wlNs) mixed CEq9 Zah (fun Ev=>BWv9) func35 (by rfl) (by rfl) fun Ev bb=> ?_
   rw [ns_nf,AFk9]
   refine ⟨t,ly,_,rfl,⟨ht,rfl⟩,Zbh (fun h1=> ?_) fun h1=>⟨_,_,_,rfl,rfl,Zbh (fun h2=> ?_) fun h2=>⟨_,_,_,rfl,rfl,Zbh (fun h3=> ?_) fun h3=> ?_⟩⟩⟩
   · rw [Zcq] at h1
     rw [newS,h1];rfl
   · rw [Zcq] at h2
     rw [newS,h2,Zdk,Zem];rfl
   · rw [Zcq] at h3
     rw [newS,h3,Zdk,Zem,Zem];rfl
   · rw [Zfu] at h1 h2 h3
     have hv:=ABc9 h1
     refine ⟨ly,t,l,me,fr,_,rfl,rfl,rfl,⟨⟨hv.1.1,by omega⟩,hl,hx,rfl⟩,Zbh (fun h4 i hp=> ?_) fun h4=> ?_⟩
     · rw [newS,h1,h2,h3,h4];rfl
     · rw [newS,h1,h2,h3,h4]
       refine Zbh (fun h5=> ?_) fun h5=> ?_
       · rw [h5];rfl
       · intro c3 c4
         rw [h5]
         exact ⟨rfl,l.map (ALy9 ly),rfl,by simp,BEr9 ly l,rfl⟩
 refine PCall.semRes ?_ key
 cases hq:newS ly t me l fr with
 |false=>exact SemV.rfl
 | true=>
   refine SemV.tup2 ?_
   cases l with
   |nil=>exact BQy9 ly me fr
   |cons x r=>exact BXp9 ly me (x::r) fr
def cNew (args:List AV) (K:AV→Prop):Prop:=∃(ly:LayT) (t:TabT) (me:Int) (l:List NearT) (fr:Int) (s:SideT) (q:Bool),args= [layA ly,tabA t, .d (i64 me), .d (.sl 31 (rowsN l)), .d (i64 fr)]∧(TabOk t∧l.length<1000000∧(∀x∈l,AFb9 x)∧q=newS ly t me l fr∧s=sideS ly me l fr)∧BIf q (K (.tup [.rptr (sideD s), .d (bo true)])) (K (.tup [.d nilP, .d (bo false)]))
theorem BFu9:∀args K,cNew args K→∃x,PCall prog 35 args x∧K x:=by
 rintro _ K ⟨ly,t,me,l,fr,_,q,rfl,⟨ht,hl,hx,hq,rfl⟩,hk⟩
 refine ⟨_,pcNew ly t me l fr ht hl hx, ?_⟩
 rw [←hq]
 cases q with
 |true=>exact hk
 |false=>exact hk
theorem BZm9 (x:GraT) (fr:Int):wpFn prog ⟨[], [],wl,y,false⟩ 100 f96 [graA x, .rptr [i64 fr]] b R=(R (Zab (bo (decide (Zdm x<fr)))) b):=by kernel_rfl
theorem BZn9 (x:AskT) (sl:Int):wpFn prog ⟨[], [],wl,y,false⟩ 100 f138 [askA x, .rptr [i64 sl]] b R=(R (Zab (bo (Zde x==sl))) b):=by kernel_rfl
theorem CDj9 (x:GraT) (fr:Int):PCall prog 96 [graA x, .rptr [i64 fr]] (.d (bo (decide (x.un<fr)))):=by
 refine Zbe (n:=100) (u:=false) mixed Zal Zah func96 (by rfl) (by rfl) fun Ev bb=> ?_
 rw [BZm9]
def cOutG (args:List AV) (K:AV→Prop):Prop:=∃(x:GraT) (fr:Int) (q:Bool),args= [graA x, .rptr [i64 fr]]∧q=decide (x.un<fr)∧K (.d (bo q))
theorem BUo9:∀args K,cOutG args K→∃x,PCall prog 96 args x∧K x:=by
 rintro _ K ⟨x,fr,_,rfl,rfl,hk⟩;exact ⟨_,CDj9 x fr,hk⟩
theorem CDk9 (x:AskT) (sl:Int):PCall prog 138 [askA x, .rptr [i64 sl]] (.d (bo (x.sl==sl))):=by
 refine Zbe (n:=100) (u:=false) mixed Zal Zah func138 (by rfl) (by rfl) fun Ev bb=> ?_
 rw [BZn9]
def cOutA (args:List AV) (K:AV→Prop):Prop:=∃(x:AskT) (sl:Int) (q:Bool),args= [askA x, .rptr [i64 sl]]∧q=(x.sl==sl)∧K (.d (bo q))
theorem BUp9:∀args K,cOutA args K→∃x,PCall prog 138 args x∧K x:=by
 rintro _ K ⟨x,sl,_,rfl,rfl,hk⟩;exact ⟨_,CDk9 x sl,hk⟩
def TOutG:List (Nat×(List AV→(AV→Prop)→Prop)):= [(95,BMa9),(96,cOutG)]
theorem BVg9:AAb9 prog TOutG:=Zai APi9 (Zai BUo9 Zal)
def TOutA:List (Nat×(List AV→(AV→Prop)→Prop)):= [(118,BUj9),(138,cOutA)]
theorem BVh9:AAb9 prog TOutA:=Zai AWi9 (Zai BUp9 Zal)
def TInsG:List (Nat×(List AV→(AV→Prop)→Prop)):= [(95,BMa9),(167,BMl9)]
theorem BVn9:AAb9 prog TInsG:=Zai APi9 (Zai APk9 Zal)
def TInsU:List (Nat×(List AV→(AV→Prop)→Prop)):= [(108,BUi9),(170,BMk9)]
theorem BVm9:AAb9 prog TInsU:=Zai AWh9 (Zai APj9 Zal)
theorem BLk9 (x:GraT) (fr:Int):wpFn prog ⟨TOutG, [],wl,y,false⟩ 100 f132 ([graA x]++ [.rptr [.fn (.func 96) [.pt [i64 fr]]], .rptr [.fn (.func 95) []]]) b R=(∃(u0:GraT), [Zao (Qz7 x)]= [Zao (Qz7 u0)]∧∃(x1:GraT) (fr2:Int) (q3:Bool), [Zao (Qz7 u0),Zag [i64 fr]]= [Zao (Qz7 x1),Zag [i64 fr2]]∧q3=decide (Zdm x1<fr2)∧R (.d (bo q3)) b):=by kernel_rfl
theorem BRw9 (x:GraT) (fr:Int):PCall prog 132 ([graA x]++ [.rptr [.fn (.func 96) [.pt [i64 fr]]], .rptr [.fn (.func 95) []]]) (.d (bo ((fun x:GraT=>decide (x.un<fr)) x))):=by
 refine Zbe (n:=100) (u:=false) mixed BVg9 Zah func132 (by rfl) (by rfl) fun Ev bb=> ?_
 rw [BLk9]
 exact ⟨x,rfl,x,fr,_,rfl,rfl,rfl⟩
def BGw9 (args:List AV) (K:AV→Prop):Prop:=∃(x:GraT) (fr:Int) (q:Bool),args= [graA x]++ [.rptr [.fn (.func 96) [.pt [i64 fr]]], .rptr [.fn (.func 95) []]]∧(q=(fun x:GraT=>decide (x.un<fr)) x)∧K (.d (bo q))
theorem ASd9:∀args K,BGw9 args K→∃x,PCall prog 132 args x∧K x:=by
 rintro _ K ⟨x,fr,_,rfl,rfl,hk⟩;exact ⟨_,BRw9 x fr,hk⟩
def BVp9:List (Nat×(List AV→(AV→Prop)→Prop)):= [(132,BGw9)]
theorem BMy9:AAb9 prog BVp9:=Zai ASd9 Zal
noncomputable def ARf9:Code:=sub [1,0,1,2,3] (code f54)
def AHp9 (l:List GraT) (fr:Int) (q i:Int):List AV:= [.d (.sl 5 (rowsG l)), .fn (.func 132) [] [.rptr [.fn (.func 96) [.pt [i64 fr]]], .rptr [.fn (.func 95) []]], .bad, .bad, .d (i64 q), .bad, .bad, .d (i64 l.length), .d (i64 i)]++Zaq 10 .bad
theorem BYl9 (l:List GraT) (fr:Int) (i:Int):wpc prog ⟨BVp9, [],wl,y,false⟩ 100 ARf9 (AHp9 l fr 0 i) [] b (maskK 0 [0,1,4,7,8] K)=(BIf (decide (i<((Zaa l:Nat):Int))) (BIf (true&&decide (0≤i)) (∃(x0:Int) (x1:Int) (x2:Int) (x3:Int) (x4:Int),(rowsG l)[Zav i]? =some (Qz48 x0 x1 x2 x3 x4)∧∃(x7:GraT) (fr8:Int) (q9:Bool), [Zao (Qz24 x0 x1 x2 x3 x4),Zag [Zco (Fn.func 96) [Zdn [i64 fr]]],Zag [Zco (Fn.func 95) []]]= [Zao (Qz7 x7),Zag [Zco (Fn.func 96) [Zdn [i64 fr8]]],Zag [Zco (Fn.func 95) []]]∧q9=decide (Zdm x7<fr8)∧BIf q9 (K .ret (Zab (Zaf 5 (rowsG l))::Zat (Fn.func 132) [] [Zag [Zco (Fn.func 96) [Zdn [i64 fr]]],Zag [Zco (Fn.func 95) []]]::Zad::Zad::Zab (i64 i)::Zad::Zad::Zab (i64 ((Zaa l:Nat):Int))::Zab (i64 i)::bds 10 []) [] b) (K .normal (Zab (Zaf 5 (rowsG l))::Zat (Fn.func 132) [] [Zag [Zco (Fn.func 96) [Zdn [i64 fr]]],Zag [Zco (Fn.func 95) []]]::Zad::Zad::Zab (i64 0)::Zad::Zad::Zab (i64 ((Zaa l:Nat):Int))::Zab (i64 (Zae .i64 (i+1)))::bds 10 []) [] b)) False) (K (Zbv 0) (Zab (Zaf 5 (rowsG l))::Zat (Fn.func 132) [] [Zag [Zco (Fn.func 96) [Zdn [i64 fr]]],Zag [Zco (Fn.func 95) []]]::Zad::Zad::Zab (i64 0)::Zad::Zad::Zab (i64 ((Zaa l:Nat):Int))::Zab (i64 i)::bds 10 []) [] b)):=by kernel_rfl
theorem BWg9 {Ev:Env prog} {b:Ev.β} {Q:Exit→St Ev.β→Prop} (l:List GraT) (fr:Int) (hl:l.length≤9223372036854775807) (h1:l.findIdx? (fun x:GraT=>decide (x.un<fr))=none→∀i:Int,Q (.exit 0) ⟨AHp9 l fr 0 i, [],b⟩) (h2:∀j:Nat,l.findIdx? (fun x:GraT=>decide (x.un<fr))=some j→Q .ret ⟨AHp9 l fr j j, [],b⟩):
   WR Ev ARf9 (l.length+1) ⟨AHp9 l fr 0 (0:Nat), [],b⟩ Q:=by
 refine WR.findL (X:=⟨BVp9, [],wlW Ev,Ev.Y,false⟩) (k:=100) [0,1,4,7,8] mixed (CX.Ok.of BMy9 Zah) l (fun x:GraT=>decide (x.un<fr)) (fun i=>AHp9 l fr 0 (i:Nat)) (fun i=>AHp9 l fr (i:Nat) (i:Nat)) [] 0 (fun i x hi hxi K k1 k2=> ?_) (fun K k1=> ?_) (fun h=>h1 h _) h2
 · refine Eq.mpr (BYl9 _ _ _ K l fr i) ?_
   rw [ADc9 hxi]
   refine Zbg (by simp;omega) (Zbg (natI i) ⟨_,_,_,_,_,rfl,x,fr,_,rfl,rfl,Zbh (fun g=>k1 g) fun g=> ?_⟩)
   rw [wrapN (by omega)];exact k2 g
 · refine Eq.mpr (BYl9 _ _ _ K l fr _) ?_
   exact Zdl (by simp) k1
def BBg9 {β:Type}:WLT β:=fun cd tm hp b K=>∃(l:List GraT) (fr:Int) (q:Int),cd= .loop ARf9∧ABd9 [0,1,4,7,8] 0 tm=AHp9 l fr 0 0∧hp= []∧(l.length≤9223372036854775807∧q=idxS (fun x:GraT=>decide (x.un<fr)) l)∧(∀i:Int,q= -1→K (.exit 0) (AHp9 l fr 0 i) [] b)∧(∀i:Int,0≤q→K .ret (AHp9 l fr q i) [] b)
theorem BBf9 {Ev:Env prog} (c:Code) (tm:List AV) (hp:List Blk) (b:Ev.β) (K:Exit→List AV→List Blk→Ev.β→Prop) (h:BBg9 c tm hp b K):W Ev c ⟨tm,hp,b⟩ (fun e s=>K e s.tm s.hp s.b):=by
 obtain ⟨l,fr,q,rfl,htm,rfl,⟨hl,rfl⟩,hK1,hK2⟩:=h
 refine W.cast (htm▸AAe9 _ tm 0) (Zce _) ?_
 exact W.rounds (BWg9 (Q:=fun e s=>K e s.tm s.hp s.b) l fr hl (fun h i=>hK1 i (AAy9 h)) fun j h=>by have:=hK2 j (by rw [AAg9 h];omega);rwa [AAg9 h] at this)
theorem BDx9 (l:List GraT) (fr:Int):wpFn prog ⟨[], [],BBg9,y,false⟩ 100 f54 [.d (.sl 5 (rowsG l)), .fn (.func 132) [] [.rptr [.fn (.func 96) [.pt [i64 fr]]], .rptr [.fn (.func 95) []]]] b R=(∃(l0:List GraT) (fr1:Int) (q2:Int),Zaz ARf9=Zaz ARf9∧(Zab (Zaf 5 (rowsG l))::Zat (Fn.func 132) [] [Zag [Zco (Fn.func 96) [Zdn [i64 fr]]],Zag [Zco (Fn.func 95) []]]::Zad::Zad::Zab (i64 0)::Zad::Zad::Zab (i64 ((Zaa (rowsG l):Nat):Int))::Zab (i64 0)::bds 10 [])=(Zab (Zaf 5 (rowsG l0))::Zat (Fn.func 132) [] [Zag [Zco (Fn.func 96) [Zdn [i64 fr1]]],Zag [Zco (Fn.func 95) []]]::Zad::Zad::Zab (i64 0)::Zad::Zad::Zab (i64 ((Zaa l0:Nat):Int))::Zab (i64 0)::bds 10 [])∧([]:List Blk)= []∧(Zaa l0≤9223372036854775807∧q2=idxS (fun (x3:GraT)=>decide (Zdm x3<fr1)) l0)∧(∀(i:Int),q2=(-1:Int)→R (.d (i64 (-1))) b)∧∀(i:Int),(0:Int)≤q2→R (.d (i64 q2)) b):=by kernel_rfl
theorem BJq9 (l:List GraT) (fr:Int) (hl:l.length≤9223372036854775807):PCall prog 54 [.d (.sl 5 (rowsG l)), .fn (.func 132) [] [.rptr [.fn (.func 96) [.pt [i64 fr]]], .rptr [.fn (.func 95) []]]] (.d (i64 (idxS (fun x:GraT=>decide (x.un<fr)) l))):=by
 refine Zdy (n:=100) (u:=false) (fun _=>BBg9) mixed Zal Zah (fun Ev=>BBf9) func54 (by rfl) (by rfl) fun Ev bb=> ?_
 rw [BDx9,AAh9]
 exact ⟨l,fr,_,rfl,rfl,rfl,⟨hl,rfl⟩,fun i h=>by rw [h],fun i h=>rfl⟩
def BGa9 (args:List AV) (K:AV→Prop):Prop:=∃(l:List GraT) (fr:Int) (q:Int),args= [.d (.sl 5 (rowsG l)), .fn (.func 132) [] [.rptr [.fn (.func 96) [.pt [i64 fr]]], .rptr [.fn (.func 95) []]]]∧(l.length≤9223372036854775807∧q=idxS (fun x:GraT=>decide (x.un<fr)) l)∧K (.d (i64 q))
theorem AZn9:∀args K,BGa9 args K→∃x,PCall prog 54 args x∧K x:=by
 rintro _ K ⟨l,fr,_,rfl,⟨hl,rfl⟩,hk⟩;exact ⟨_,BJq9 l fr hl,hk⟩
theorem BLl9 (x:AskT) (sl:Int):wpFn prog ⟨TOutA, [],wl,y,false⟩ 100 f148 ([askA x]++ [.rptr [.fn (.func 138) [.pt [i64 sl]]], .rptr [.fn (.func 118) []]]) b R=(∃(u0:AskT), [Zao (Qz13 x)]= [Zao (Qz13 u0)]∧∃(x1:AskT) (sl2:Int) (q3:Bool), [Zao (Qz13 u0),Zag [i64 sl]]= [Zao (Qz13 x1),Zag [i64 sl2]]∧q3=(Zde x1==sl2)∧R (.d (bo q3)) b):=by kernel_rfl
theorem BRx9 (x:AskT) (sl:Int):PCall prog 148 ([askA x]++ [.rptr [.fn (.func 138) [.pt [i64 sl]]], .rptr [.fn (.func 118) []]]) (.d (bo ((fun x:AskT=>x.sl==sl) x))):=by
 refine Zbe (n:=100) (u:=false) mixed BVh9 Zah func148 (by rfl) (by rfl) fun Ev bb=> ?_
 rw [BLl9]
 exact ⟨x,rfl,x,sl,_,rfl,rfl,rfl⟩
def BGx9 (args:List AV) (K:AV→Prop):Prop:=∃(x:AskT) (sl:Int) (q:Bool),args= [askA x]++ [.rptr [.fn (.func 138) [.pt [i64 sl]]], .rptr [.fn (.func 118) []]]∧(q=(fun x:AskT=>x.sl==sl) x)∧K (.d (bo q))
theorem ASe9:∀args K,BGx9 args K→∃x,PCall prog 148 args x∧K x:=by
 rintro _ K ⟨x,sl,_,rfl,rfl,hk⟩;exact ⟨_,BRx9 x sl,hk⟩
def BVq9:List (Nat×(List AV→(AV→Prop)→Prop)):= [(148,BGx9)]
theorem BMz9:AAb9 prog BVq9:=Zai ASe9 Zal
noncomputable def ARg9:Code:=sub [1,0,1,2,3] (code f90)
def AHq9 (l:List AskT) (sl:Int) (q i:Int):List AV:= [.d (.sl 3 (rowsA l)), .fn (.func 148) [] [.rptr [.fn (.func 138) [.pt [i64 sl]]], .rptr [.fn (.func 118) []]], .bad, .bad, .d (i64 q), .bad, .bad, .d (i64 l.length), .d (i64 i)]++Zaq 10 .bad
theorem BYm9 (l:List AskT) (sl:Int) (i:Int):wpc prog ⟨BVq9, [],wl,y,false⟩ 100 ARg9 (AHq9 l sl 0 i) [] b (maskK 0 [0,1,4,7,8] K)=(BIf (decide (i<((Zaa l:Nat):Int))) (BIf (true&&decide (0≤i)) (∃(x0:Int) (x1:Int) (x2:Int),(rowsA l)[Zav i]? =some [i64 x0,i64 x1,i64 x2]∧∃(x5:AskT) (sl6:Int) (q7:Bool), [Zao (Qz27 x0 x1 x2),Zag [Zco (Fn.func 138) [Zdn [i64 sl]]],Zag [Zco (Fn.func 118) []]]= [Zao (Qz13 x5),Zag [Zco (Fn.func 138) [Zdn [i64 sl6]]],Zag [Zco (Fn.func 118) []]]∧q7=(Zde x5==sl6)∧BIf q7 (K .ret (Zab (Zaf 3 (rowsA l))::Zat (Fn.func 148) [] [Zag [Zco (Fn.func 138) [Zdn [i64 sl]]],Zag [Zco (Fn.func 118) []]]::Zad::Zad::Zab (i64 i)::Zad::Zad::Zab (i64 ((Zaa l:Nat):Int))::Zab (i64 i)::bds 10 []) [] b) (K .normal (Zab (Zaf 3 (rowsA l))::Zat (Fn.func 148) [] [Zag [Zco (Fn.func 138) [Zdn [i64 sl]]],Zag [Zco (Fn.func 118) []]]::Zad::Zad::Zab (i64 0)::Zad::Zad::Zab (i64 ((Zaa l:Nat):Int))::Zab (i64 (Zae .i64 (i+1)))::bds 10 []) [] b)) False) (K (Zbv 0) (Zab (Zaf 3 (rowsA l))::Zat (Fn.func 148) [] [Zag [Zco (Fn.func 138) [Zdn [i64 sl]]],Zag [Zco (Fn.func 118) []]]::Zad::Zad::Zab (i64 0)::Zad::Zad::Zab (i64 ((Zaa l:Nat):Int))::Zab (i64 i)::bds 10 []) [] b)):=by kernel_rfl
theorem BWh9 {Ev:Env prog} {b:Ev.β} {Q:Exit→St Ev.β→Prop} (l:List AskT) (sl:Int) (hl:l.length≤9223372036854775807) (h1:l.findIdx? (fun x:AskT=>x.sl==sl)=none→∀i:Int,Q (.exit 0) ⟨AHq9 l sl 0 i, [],b⟩) (h2:∀j:Nat,l.findIdx? (fun x:AskT=>x.sl==sl)=some j→Q .ret ⟨AHq9 l sl j j, [],b⟩):
   WR Ev ARg9 (l.length+1) ⟨AHq9 l sl 0 (0:Nat), [],b⟩ Q:=by
 refine WR.findL (X:=⟨BVq9, [],wlW Ev,Ev.Y,false⟩) (k:=100) [0,1,4,7,8] mixed (CX.Ok.of BMz9 Zah) l (fun x:AskT=>x.sl==sl) (fun i=>AHq9 l sl 0 (i:Nat)) (fun i=>AHq9 l sl (i:Nat) (i:Nat)) [] 0 (fun i x hi hxi K k1 k2=> ?_) (fun K k1=> ?_) (fun h=>h1 h _) h2
 · refine Eq.mpr (BYm9 _ _ _ K l sl i) ?_
   rw [ACr9 hxi]
   refine Zbg (by simp;omega) (Zbg (natI i) ⟨_,_,_,rfl,x,sl,_,rfl,rfl,Zbh (fun g=>k1 g) fun g=> ?_⟩)
   rw [wrapN (by omega)];exact k2 g
 · refine Eq.mpr (BYm9 _ _ _ K l sl _) ?_
   exact Zdl (by simp) k1
def BBi9 {β:Type}:WLT β:=fun cd tm hp b K=>∃(l:List AskT) (sl:Int) (q:Int),cd= .loop ARg9∧ABd9 [0,1,4,7,8] 0 tm=AHq9 l sl 0 0∧hp= []∧(l.length≤9223372036854775807∧q=idxS (fun x:AskT=>x.sl==sl) l)∧(∀i:Int,q= -1→K (.exit 0) (AHq9 l sl 0 i) [] b)∧(∀i:Int,0≤q→K .ret (AHq9 l sl q i) [] b)
theorem BBh9 {Ev:Env prog} (c:Code) (tm:List AV) (hp:List Blk) (b:Ev.β) (K:Exit→List AV→List Blk→Ev.β→Prop) (h:BBi9 c tm hp b K):W Ev c ⟨tm,hp,b⟩ (fun e s=>K e s.tm s.hp s.b):=by
 obtain ⟨l,sl,q,rfl,htm,rfl,⟨hl,rfl⟩,hK1,hK2⟩:=h
 refine W.cast (htm▸AAe9 _ tm 0) (Zce _) ?_
 exact W.rounds (BWh9 (Q:=fun e s=>K e s.tm s.hp s.b) l sl hl (fun h i=>hK1 i (AAy9 h)) fun j h=>by have:=hK2 j (by rw [AAg9 h];omega);rwa [AAg9 h] at this)
theorem BDy9 (l:List AskT) (sl:Int):wpFn prog ⟨[], [],BBi9,y,false⟩ 100 f90 [.d (.sl 3 (rowsA l)), .fn (.func 148) [] [.rptr [.fn (.func 138) [.pt [i64 sl]]], .rptr [.fn (.func 118) []]]] b R=(∃(l0:List AskT) (sl1:Int) (q2:Int),Zaz ARg9=Zaz ARg9∧(Zab (Zaf 3 (rowsA l))::Zat (Fn.func 148) [] [Zag [Zco (Fn.func 138) [Zdn [i64 sl]]],Zag [Zco (Fn.func 118) []]]::Zad::Zad::Zab (i64 0)::Zad::Zad::Zab (i64 ((Zaa (rowsA l):Nat):Int))::Zab (i64 0)::bds 10 [])=(Zab (Zaf 3 (rowsA l0))::Zat (Fn.func 148) [] [Zag [Zco (Fn.func 138) [Zdn [i64 sl1]]],Zag [Zco (Fn.func 118) []]]::Zad::Zad::Zab (i64 0)::Zad::Zad::Zab (i64 ((Zaa l0:Nat):Int))::Zab (i64 0)::bds 10 [])∧([]:List Blk)= []∧(Zaa l0≤9223372036854775807∧q2=idxS (fun (x3:AskT)=>Zde x3==sl1) l0)∧(∀(i:Int),q2=(-1:Int)→R (.d (i64 (-1))) b)∧∀(i:Int),(0:Int)≤q2→R (.d (i64 q2)) b):=by kernel_rfl
theorem BJr9 (l:List AskT) (sl:Int) (hl:l.length≤9223372036854775807):PCall prog 90 [.d (.sl 3 (rowsA l)), .fn (.func 148) [] [.rptr [.fn (.func 138) [.pt [i64 sl]]], .rptr [.fn (.func 118) []]]] (.d (i64 (idxS (fun x:AskT=>x.sl==sl) l))):=by
 refine Zdy (n:=100) (u:=false) (fun _=>BBi9) mixed Zal Zah (fun Ev=>BBh9) func90 (by rfl) (by rfl) fun Ev bb=> ?_
 rw [BDy9,AAx9]
 exact ⟨l,sl,_,rfl,rfl,rfl,⟨hl,rfl⟩,fun i h=>by rw [h],fun i h=>rfl⟩
def BGb9 (args:List AV) (K:AV→Prop):Prop:=∃(l:List AskT) (sl:Int) (q:Int),args= [.d (.sl 3 (rowsA l)), .fn (.func 148) [] [.rptr [.fn (.func 138) [.pt [i64 sl]]], .rptr [.fn (.func 118) []]]]∧(l.length≤9223372036854775807∧q=idxS (fun x:AskT=>x.sl==sl) l)∧K (.d (i64 q))
theorem AZo9:∀args K,BGb9 args K→∃x,PCall prog 90 args x∧K x:=by
 rintro _ K ⟨l,sl,_,rfl,⟨hl,rfl⟩,hk⟩;exact ⟨_,BJr9 l sl hl,hk⟩
theorem BLq9 (x:GraT) (g:GraT):wpFn prog ⟨TInsG, [],wl,y,false⟩ 100 f135 ([graA x]++ [.rptr [.fn (.func 95) []], .rptr (graR g)]) b R=(∃(u0:GraT), [Zao (Qz7 x)]= [Zao (Qz7 u0)]∧∃(u1:GraT), [Zao (Qz7 u0)]= [Zao (Qz7 u1)]∧∃(u2:GraT), [Zao (Qz7 g)]= [Zao (Qz7 u2)]∧∃(u3:GraT), [Zao (Qz7 u2)]= [Zao (Qz7 u3)]∧R (.d (bo (decide (GraT.sl u1>GraT.sl u3)))) b):=by kernel_rfl
theorem BSc9 (x:GraT) (g:GraT):PCall prog 135 ([graA x]++ [.rptr [.fn (.func 95) []], .rptr (graR g)]) (.d (bo ((fun x:GraT=>decide (x.sl>g.sl)) x))):=by
 refine Zbe (n:=100) (u:=false) mixed BVn9 Zah func135 (by rfl) (by rfl) fun Ev bb=> ?_
 rw [BLq9]
 exact ⟨x,rfl,x,rfl,g,rfl,g,rfl,rfl⟩
def BOy9 (args:List AV) (K:AV→Prop):Prop:=∃(x:GraT) (g:GraT) (q:Bool),args= [graA x]++ [.rptr [.fn (.func 95) []], .rptr (graR g)]∧(q=(fun x:GraT=>decide (x.sl>g.sl)) x)∧K (.d (bo q))
theorem BHc9:∀args K,BOy9 args K→∃x,PCall prog 135 args x∧K x:=by
 rintro _ K ⟨x,g,_,rfl,rfl,hk⟩;exact ⟨_,BSc9 x g,hk⟩
def BVs9:List (Nat×(List AV→(AV→Prop)→Prop)):= [(135,BOy9)]
theorem BNb9:AAb9 prog BVs9:=Zai BHc9 Zal
noncomputable def ARi9:Code:=sub [1,0,1,2,3] (code f54)
def AHs9 (l:List GraT) (g:GraT) (q i:Int):List AV:= [.d (.sl 5 (rowsG l)), .fn (.func 135) [] [.rptr [.fn (.func 95) []], .rptr (graR g)], .bad, .bad, .d (i64 q), .bad, .bad, .d (i64 l.length), .d (i64 i)]++Zaq 10 .bad
theorem BYo9 (l:List GraT) (g:GraT) (i:Int):wpc prog ⟨BVs9, [],wl,y,false⟩ 100 ARi9 (AHs9 l g 0 i) [] b (maskK 0 [0,1,4,7,8] K)=(BIf (decide (i<((Zaa l:Nat):Int))) (BIf (true&&decide (0≤i)) (∃(x0:Int) (x1:Int) (x2:Int) (x3:Int) (x4:Int),(rowsG l)[Zav i]? =some (Qz48 x0 x1 x2 x3 x4)∧∃(x7:GraT) (g8:GraT) (q9:Bool), [Zao (Qz24 x0 x1 x2 x3 x4),Zag [Zco (Fn.func 95) []],Zag (Qz18 g)]= [Zao (Qz7 x7),Zag [Zco (Fn.func 95) []],Zag (Qz18 g8)]∧q9=decide (GraT.sl x7>GraT.sl g8)∧BIf q9 (K .ret (Zab (Zaf 5 (rowsG l))::Zat (Fn.func 135) [] [Zag [Zco (Fn.func 95) []],Zag (Qz18 g)]::Zad::Zad::Zab (i64 i)::Zad::Zad::Zab (i64 ((Zaa l:Nat):Int))::Zab (i64 i)::bds 10 []) [] b) (K .normal (Zab (Zaf 5 (rowsG l))::Zat (Fn.func 135) [] [Zag [Zco (Fn.func 95) []],Zag (Qz18 g)]::Zad::Zad::Zab (i64 0)::Zad::Zad::Zab (i64 ((Zaa l:Nat):Int))::Zab (i64 (Zae .i64 (i+1)))::bds 10 []) [] b)) False) (K (Zbv 0) (Zab (Zaf 5 (rowsG l))::Zat (Fn.func 135) [] [Zag [Zco (Fn.func 95) []],Zag (Qz18 g)]::Zad::Zad::Zab (i64 0)::Zad::Zad::Zab (i64 ((Zaa l:Nat):Int))::Zab (i64 i)::bds 10 []) [] b)):=by kernel_rfl
theorem BWj9 {Ev:Env prog} {b:Ev.β} {Q:Exit→St Ev.β→Prop} (l:List GraT) (g:GraT) (hl:l.length≤9223372036854775807) (h1:l.findIdx? (fun x:GraT=>decide (x.sl>g.sl))=none→∀i:Int,Q (.exit 0) ⟨AHs9 l g 0 i, [],b⟩) (h2:∀j:Nat,l.findIdx? (fun x:GraT=>decide (x.sl>g.sl))=some j→Q .ret ⟨AHs9 l g j j, [],b⟩):
   WR Ev ARi9 (l.length+1) ⟨AHs9 l g 0 (0:Nat), [],b⟩ Q:=by
 refine WR.findL (X:=⟨BVs9, [],wlW Ev,Ev.Y,false⟩) (k:=100) [0,1,4,7,8] mixed (CX.Ok.of BNb9 Zah) l (fun x:GraT=>decide (x.sl>g.sl)) (fun i=>AHs9 l g 0 (i:Nat)) (fun i=>AHs9 l g (i:Nat) (i:Nat)) [] 0 (fun i x hi hxi K k1 k2=> ?_) (fun K k1=> ?_) (fun h=>h1 h _) h2
 · refine Eq.mpr (BYo9 _ _ _ K l g i) ?_
   rw [ADc9 hxi]
   refine Zbg (by simp;omega) (Zbg (natI i) ⟨_,_,_,_,_,rfl,x,g,_,rfl,rfl,Zbh (fun g=>k1 g) fun g=> ?_⟩)
   rw [wrapN (by omega)];exact k2 g
 · refine Eq.mpr (BYo9 _ _ _ K l g _) ?_
   exact Zdl (by simp) k1
def BBm9 {β:Type}:WLT β:=fun cd tm hp b K=>∃(l:List GraT) (g:GraT) (q:Int),cd= .loop ARi9∧ABd9 [0,1,4,7,8] 0 tm=AHs9 l g 0 0∧hp= []∧(l.length≤9223372036854775807∧q=idxS (fun x:GraT=>decide (x.sl>g.sl)) l)∧(∀i:Int,q= -1→K (.exit 0) (AHs9 l g 0 i) [] b)∧(∀i:Int,0≤q→K .ret (AHs9 l g q i) [] b)
theorem BBl9 {Ev:Env prog} (c:Code) (tm:List AV) (hp:List Blk) (b:Ev.β) (K:Exit→List AV→List Blk→Ev.β→Prop) (h:BBm9 c tm hp b K):W Ev c ⟨tm,hp,b⟩ (fun e s=>K e s.tm s.hp s.b):=by
 obtain ⟨l,g,q,rfl,htm,rfl,⟨hl,rfl⟩,hK1,hK2⟩:=h
 refine W.cast (htm▸AAe9 _ tm 0) (Zce _) ?_
 exact W.rounds (BWj9 (Q:=fun e s=>K e s.tm s.hp s.b) l g hl (fun h i=>hK1 i (AAy9 h)) fun j h=>by have:=hK2 j (by rw [AAg9 h];omega);rwa [AAg9 h] at this)
theorem BEa9 (l:List GraT) (g:GraT):wpFn prog ⟨[], [],BBm9,y,false⟩ 100 f54 [.d (.sl 5 (rowsG l)), .fn (.func 135) [] [.rptr [.fn (.func 95) []], .rptr (graR g)]] b R=(∃(l0:List GraT) (g1:GraT) (q2:Int),Zaz ARi9=Zaz ARi9∧(Zab (Zaf 5 (rowsG l))::Zat (Fn.func 135) [] [Zag [Zco (Fn.func 95) []],Zag (Qz18 g)]::Zad::Zad::Zab (i64 0)::Zad::Zad::Zab (i64 ((Zaa (rowsG l):Nat):Int))::Zab (i64 0)::bds 10 [])=(Zab (Zaf 5 (rowsG l0))::Zat (Fn.func 135) [] [Zag [Zco (Fn.func 95) []],Zag (Qz18 g1)]::Zad::Zad::Zab (i64 0)::Zad::Zad::Zab (i64 ((Zaa l0:Nat):Int))::Zab (i64 0)::bds 10 [])∧([]:List Blk)= []∧(Zaa l0≤9223372036854775807∧q2=idxS (fun (x3:GraT)=>decide (GraT.sl x3>GraT.sl g1)) l0)∧(∀(i:Int),q2=(-1:Int)→R (.d (i64 (-1))) b)∧∀(i:Int),(0:Int)≤q2→R (.d (i64 q2)) b):=by kernel_rfl
theorem BJt9 (l:List GraT) (g:GraT) (hl:l.length≤9223372036854775807):PCall prog 54 [.d (.sl 5 (rowsG l)), .fn (.func 135) [] [.rptr [.fn (.func 95) []], .rptr (graR g)]] (.d (i64 (idxS (fun x:GraT=>decide (x.sl>g.sl)) l))):=by
 refine Zdy (n:=100) (u:=false) (fun _=>BBm9) mixed Zal Zah (fun Ev=>BBl9) func54 (by rfl) (by rfl) fun Ev bb=> ?_
 rw [BEa9,AAh9]
 exact ⟨l,g,_,rfl,rfl,rfl,⟨hl,rfl⟩,fun i h=>by rw [h],fun i h=>rfl⟩
def BGd9 (args:List AV) (K:AV→Prop):Prop:=∃(l:List GraT) (g:GraT) (q:Int),args= [.d (.sl 5 (rowsG l)), .fn (.func 135) [] [.rptr [.fn (.func 95) []], .rptr (graR g)]]∧(l.length≤9223372036854775807∧q=idxS (fun x:GraT=>decide (x.sl>g.sl)) l)∧K (.d (i64 q))
theorem AZq9:∀args K,BGd9 args K→∃x,PCall prog 54 args x∧K x:=by
 rintro _ K ⟨l,g,_,rfl,⟨hl,rfl⟩,hk⟩;exact ⟨_,BJt9 l g hl,hk⟩
theorem BLp9 (x:UseT) (g:UseT):wpFn prog ⟨TInsU, [],wl,y,false⟩ 100 f139 ([useA x]++ [.rptr [.fn (.func 108) []], .rptr (useR g)]) b R=(∃(u0:UseT), [Zao (Qz10 x)]= [Zao (Qz10 u0)]∧∃(u1:UseT), [Zao (Qz10 u0)]= [Zao (Qz10 u1)]∧∃(u2:UseT), [Zao (Qz10 g)]= [Zao (Qz10 u2)]∧∃(u3:UseT), [Zao (Qz10 u2)]= [Zao (Qz10 u3)]∧R (.d (bo (decide (UseT.sl u1>UseT.sl u3)))) b):=by kernel_rfl
theorem BSb9 (x:UseT) (g:UseT):PCall prog 139 ([useA x]++ [.rptr [.fn (.func 108) []], .rptr (useR g)]) (.d (bo ((fun x:UseT=>decide (x.sl>g.sl)) x))):=by
 refine Zbe (n:=100) (u:=false) mixed BVm9 Zah func139 (by rfl) (by rfl) fun Ev bb=> ?_
 rw [BLp9]
 exact ⟨x,rfl,x,rfl,g,rfl,g,rfl,rfl⟩
def BOx9 (args:List AV) (K:AV→Prop):Prop:=∃(x:UseT) (g:UseT) (q:Bool),args= [useA x]++ [.rptr [.fn (.func 108) []], .rptr (useR g)]∧(q=(fun x:UseT=>decide (x.sl>g.sl)) x)∧K (.d (bo q))
theorem BHb9:∀args K,BOx9 args K→∃x,PCall prog 139 args x∧K x:=by
 rintro _ K ⟨x,g,_,rfl,rfl,hk⟩;exact ⟨_,BSb9 x g,hk⟩
def BVr9:List (Nat×(List AV→(AV→Prop)→Prop)):= [(139,BOx9)]
theorem BNa9:AAb9 prog BVr9:=Zai BHb9 Zal
noncomputable def ARh9:Code:=sub [1,0,1,2,3] (code f133)
def AHr9 (l:List UseT) (g:UseT) (q i:Int):List AV:= [.d (.sl 4 (rowsU l)), .fn (.func 139) [] [.rptr [.fn (.func 108) []], .rptr (useR g)], .bad, .bad, .d (i64 q), .bad, .bad, .d (i64 l.length), .d (i64 i)]++Zaq 10 .bad
theorem BYn9 (l:List UseT) (g:UseT) (i:Int):wpc prog ⟨BVr9, [],wl,y,false⟩ 100 ARh9 (AHr9 l g 0 i) [] b (maskK 0 [0,1,4,7,8] K)=(BIf (decide (i<((Zaa l:Nat):Int))) (BIf (true&&decide (0≤i)) (∃(x0:Int) (x1:Int) (x2:Int) (x3:Int),(rowsU l)[Zav i]? =some [i64 x0,i64 x1,i64 x2,i64 x3]∧∃(x6:UseT) (g7:UseT) (q8:Bool), [Zao (Qz38 x0 x1 x2 x3),Zag [Zco (Fn.func 108) []],Zag (Qz15 g)]= [Zao (Qz10 x6),Zag [Zco (Fn.func 108) []],Zag (Qz15 g7)]∧q8=decide (UseT.sl x6>UseT.sl g7)∧BIf q8 (K .ret (Zab (Zaf 4 (rowsU l))::Zat (Fn.func 139) [] [Zag [Zco (Fn.func 108) []],Zag (Qz15 g)]::Zad::Zad::Zab (i64 i)::Zad::Zad::Zab (i64 ((Zaa l:Nat):Int))::Zab (i64 i)::bds 10 []) [] b) (K .normal (Zab (Zaf 4 (rowsU l))::Zat (Fn.func 139) [] [Zag [Zco (Fn.func 108) []],Zag (Qz15 g)]::Zad::Zad::Zab (i64 0)::Zad::Zad::Zab (i64 ((Zaa l:Nat):Int))::Zab (i64 (Zae .i64 (i+1)))::bds 10 []) [] b)) False) (K (Zbv 0) (Zab (Zaf 4 (rowsU l))::Zat (Fn.func 139) [] [Zag [Zco (Fn.func 108) []],Zag (Qz15 g)]::Zad::Zad::Zab (i64 0)::Zad::Zad::Zab (i64 ((Zaa l:Nat):Int))::Zab (i64 i)::bds 10 []) [] b)):=by kernel_rfl
theorem BWi9 {Ev:Env prog} {b:Ev.β} {Q:Exit→St Ev.β→Prop} (l:List UseT) (g:UseT) (hl:l.length≤9223372036854775807) (h1:l.findIdx? (fun x:UseT=>decide (x.sl>g.sl))=none→∀i:Int,Q (.exit 0) ⟨AHr9 l g 0 i, [],b⟩) (h2:∀j:Nat,l.findIdx? (fun x:UseT=>decide (x.sl>g.sl))=some j→Q .ret ⟨AHr9 l g j j, [],b⟩):
   WR Ev ARh9 (l.length+1) ⟨AHr9 l g 0 (0:Nat), [],b⟩ Q:=by
 refine WR.findL (X:=⟨BVr9, [],wlW Ev,Ev.Y,false⟩) (k:=100) [0,1,4,7,8] mixed (CX.Ok.of BNa9 Zah) l (fun x:UseT=>decide (x.sl>g.sl)) (fun i=>AHr9 l g 0 (i:Nat)) (fun i=>AHr9 l g (i:Nat) (i:Nat)) [] 0 (fun i x hi hxi K k1 k2=> ?_) (fun K k1=> ?_) (fun h=>h1 h _) h2
 · refine Eq.mpr (BYn9 _ _ _ K l g i) ?_
   rw [AEl9 hxi]
   refine Zbg (by simp;omega) (Zbg (natI i) ⟨_,_,_,_,rfl,x,g,_,rfl,rfl,Zbh (fun g=>k1 g) fun g=> ?_⟩)
   rw [wrapN (by omega)];exact k2 g
 · refine Eq.mpr (BYn9 _ _ _ K l g _) ?_
   exact Zdl (by simp) k1
def BBk9 {β:Type}:WLT β:=fun cd tm hp b K=>∃(l:List UseT) (g:UseT) (q:Int),cd= .loop ARh9∧ABd9 [0,1,4,7,8] 0 tm=AHr9 l g 0 0∧hp= []∧(l.length≤9223372036854775807∧q=idxS (fun x:UseT=>decide (x.sl>g.sl)) l)∧(∀i:Int,q= -1→K (.exit 0) (AHr9 l g 0 i) [] b)∧(∀i:Int,0≤q→K .ret (AHr9 l g q i) [] b)
theorem BBj9 {Ev:Env prog} (c:Code) (tm:List AV) (hp:List Blk) (b:Ev.β) (K:Exit→List AV→List Blk→Ev.β→Prop) (h:BBk9 c tm hp b K):W Ev c ⟨tm,hp,b⟩ (fun e s=>K e s.tm s.hp s.b):=by
 obtain ⟨l,g,q,rfl,htm,rfl,⟨hl,rfl⟩,hK1,hK2⟩:=h
 refine W.cast (htm▸AAe9 _ tm 0) (Zce _) ?_
 exact W.rounds (BWi9 (Q:=fun e s=>K e s.tm s.hp s.b) l g hl (fun h i=>hK1 i (AAy9 h)) fun j h=>by have:=hK2 j (by rw [AAg9 h];omega);rwa [AAg9 h] at this)
theorem BDz9 (l:List UseT) (g:UseT):wpFn prog ⟨[], [],BBk9,y,false⟩ 100 f133 [.d (.sl 4 (rowsU l)), .fn (.func 139) [] [.rptr [.fn (.func 108) []], .rptr (useR g)]] b R=(∃(l0:List UseT) (g1:UseT) (q2:Int),Zaz ARh9=Zaz ARh9∧(Zab (Zaf 4 (rowsU l))::Zat (Fn.func 139) [] [Zag [Zco (Fn.func 108) []],Zag (Qz15 g)]::Zad::Zad::Zab (i64 0)::Zad::Zad::Zab (i64 ((Zaa (rowsU l):Nat):Int))::Zab (i64 0)::bds 10 [])=(Zab (Zaf 4 (rowsU l0))::Zat (Fn.func 139) [] [Zag [Zco (Fn.func 108) []],Zag (Qz15 g1)]::Zad::Zad::Zab (i64 0)::Zad::Zad::Zab (i64 ((Zaa l0:Nat):Int))::Zab (i64 0)::bds 10 [])∧([]:List Blk)= []∧(Zaa l0≤9223372036854775807∧q2=idxS (fun (x3:UseT)=>decide (UseT.sl x3>UseT.sl g1)) l0)∧(∀(i:Int),q2=(-1:Int)→R (.d (i64 (-1))) b)∧∀(i:Int),(0:Int)≤q2→R (.d (i64 q2)) b):=by kernel_rfl
theorem BJs9 (l:List UseT) (g:UseT) (hl:l.length≤9223372036854775807):PCall prog 133 [.d (.sl 4 (rowsU l)), .fn (.func 139) [] [.rptr [.fn (.func 108) []], .rptr (useR g)]] (.d (i64 (idxS (fun x:UseT=>decide (x.sl>g.sl)) l))):=by
 refine Zdy (n:=100) (u:=false) (fun _=>BBk9) mixed Zal Zah (fun Ev=>BBj9) func133 (by rfl) (by rfl) fun Ev bb=> ?_
 rw [BDz9,AAi9]
 exact ⟨l,g,_,rfl,rfl,rfl,⟨hl,rfl⟩,fun i h=>by rw [h],fun i h=>rfl⟩
def BGc9 (args:List AV) (K:AV→Prop):Prop:=∃(l:List UseT) (g:UseT) (q:Int),args= [.d (.sl 4 (rowsU l)), .fn (.func 139) [] [.rptr [.fn (.func 108) []], .rptr (useR g)]]∧(l.length≤9223372036854775807∧q=idxS (fun x:UseT=>decide (x.sl>g.sl)) l)∧K (.d (i64 q))
theorem AZp9:∀args K,BGc9 args K→∃x,PCall prog 133 args x∧K x:=by
 rintro _ K ⟨l,g,_,rfl,⟨hl,rfl⟩,hk⟩;exact ⟨_,BJs9 l g hl,hk⟩
section
variable {α:Type} {row:α→List Dv} {k:Nat} (hk:∀x,(row x).length=k)
theorem ANk9 (x:α) (hs:List α):flatA ((x::hs).map row)=(row x).map .d++flatA (hs.map row):=by rw [Zdv,AGd9]
theorem ATz9 (a b:List α):flatA ((a++b).map row)=flatA (a.map row)++flatA (b.map row):=by simp [flatA]
include hk
theorem AZa9:∀hs:List α,(flatA (hs.map row)).length=hs.length*k
 | []=>by simp [flatA]
 |h::hs=>by rw [ANk9,Zcr,AZa9 hs,List.length_map,hk,Zei,Zcp];omega
theorem ARv9:∀(hs:List α) (i:Nat),(flatA (hs.map row)).take (i*k)=flatA ((hs.take i).map row)
 | [],i=>by simp [flatA]
 |h::hs,0=>by simp [flatA]
 | h::hs,i+1=>by
   rw [ANk9,List.take_succ_cons,ANk9,←ARv9 hs i,List.take_append]
   have e:((row h).map Zab).length=k:=by rw [List.length_map,hk]
   rw [e,List.take_of_length_le (by rw [e,Zcp];omega)]
   congr 2;rw [Zcp];omega
theorem BEp9:∀(hs:List α) (i:Nat),(flatA (hs.map row)).drop (i*k)=flatA ((hs.drop i).map row)
 | [],i=>by simp [flatA]
 |h::hs,0=>by simp
 | h::hs,i+1=>by
   rw [ANk9,List.drop_succ_cons,←BEp9 hs i,List.drop_append]
   have e:((row h).map Zab).length=k:=by rw [List.length_map,hk]
   rw [e,List.drop_eq_nil_of_le (by rw [e,Zcp];omega),List.nil_append]
   congr 1;rw [Zcp];omega
theorem fl_at {hs:List α} {j:Nat} {x:α} (h:hs[j]? =some x):((flatA (hs.map row)).drop (j*k)).take k=(row x).map .d:=by
 obtain ⟨hj,rfl⟩:=Zac.1 h
 rw [BEp9 hk,Zeu hj,ANk9]
 have e:((row hs[j]).map Zab).length=k:=by rw [List.length_map,hk]
 rw [Zel (by rw [e];exact Zau _),List.take_of_length_le (by rw [e];exact Zau _)]
theorem BTj9 {hs:List α} {i:Nat} (hi:i<hs.length) (x:α):(flatA (hs.map row)).take (i*k)++(row x).map .d++(flatA (hs.map row)).drop (i*k+k)=flatA ((hs.set i x).map row):=by
 have e:i*k+k=(i+1)*k:=by rw [Zcp];omega
 rw [e,ARv9 hk,BEp9 hk,List.set_eq_take_append_cons_drop,if_pos hi,ATz9,ANk9,Zbt]
end
theorem WR.delL {α:Type} {P:Program} {Ev:Env P} {X:CX Ev.β} {lp:Code} {b:Ev.β} {Q:Exit→St Ev.β→Prop} {k L:Nat} (keep:List Nat) (hm:P.follows .mixedOrders=true) (hX:X.Ok) (hs:List α) (p:α→Bool) (tmOf:Nat→Nat→List AV) (hpOf:List α→List Blk) (hL:∀c,(hpOf c).length=L) (id:Nat)
   (hr:∀(i j:Nat) (cur:List α) (x:α),cur[j]? =some x→i≤j→j<hs.length→cur.length=hs.length→∀K:Exit→List AV→List Blk→Ev.β→Prop,(p x=true→K .normal (tmOf i (j+1)) (hpOf cur) b)→(p x=false→K .normal (tmOf (i+1) (j+1)) (hpOf (cur.set i x)) b)→wpc P X k lp (tmOf i j) (hpOf cur) b (maskK L keep K))
   (he:∀(i:Nat) (cur:List α) (K:Exit→List AV→List Blk→Ev.β→Prop),cur.length=hs.length→K (.exit id) (tmOf i hs.length) (hpOf cur) b→wpc P X k lp (tmOf i hs.length) (hpOf cur) b (maskK L keep K))
   (hQ:∀cur:List α,cur.length=hs.length→cur.take (hs.filter fun x=> !p x).length=(hs.filter fun x=> !p x)→Q (.exit id) ⟨tmOf (hs.filter fun x=> !p x).length hs.length,hpOf cur,b⟩):
   ∀ (rest:List α) (j i:Nat) (cur:List α),hs.drop j=rest→j≤hs.length→i≤j→cur.length=hs.length→cur.take i=(hs.take j).filter (fun x=> !p x)→cur.drop j=rest→
     WR Ev lp (rest.length+1) ⟨tmOf i j,hpOf cur,b⟩ Q
 | [],j,i,cur,hd,hj,hi,hcl,ht,hcd=>by
   have hjl:j=hs.length:=by have:=List.drop_eq_nil_iff.1 hd;omega
   subst hjl
   rw [Zdx] at ht
   have hil:i=(hs.filter fun x=> !p x).length:=by rw [←ht,Zdb];omega
   refine Zdw keep hm hX (k:=k) (by rw [hL];exact he i cur _ hcl (by rw [hil] at ht ⊢;exact hQ cur hcl ht))
 | h::rest,j,i,cur,hd,hj,hi,hcl,ht,hcd=>by
   have hj1:j<hs.length:=by
     apply Classical.byContradiction
     intro hn
     rw [List.drop_eq_nil_of_le (by omega)] at hd;cases hd
   rw [Zeu hj1] at hd
   rw [Zeu (by omega:j<cur.length)] at hcd
   injection hd with hh1 hd1
   injection hcd with hh2 hd2
   have htake:hs.take (j+1)=hs.take j++ [h]:=by rw [Zfy hj1,hh1]
   have hx:cur[j]? =some h:=by rw [Zba (by omega),hh2]
   refine Zdw keep hm hX (k:=k) (by
     rw [hL]
     refine hr i j cur h hx hi hj1 hcl _ (fun hp=> ?_) fun hp=> ?_
     · refine WR.delL keep hm hX hs p tmOf hpOf hL id hr he hQ rest (j+1) i cur hd1 hj1 (by omega) hcl ?_ hd2
       rw [htake,List.filter_append,ht]
       simp [hp]
     · refine WR.delL keep hm hX hs p tmOf hpOf hL id hr he hQ rest (j+1) (i+1) (cur.set i h) hd1 hj1 (by omega) (by simpa using hcl) ?_ ?_
       · rw [htake,List.filter_append,←ht,Zfy (by simp;omega)]
         simp [hp,List.take_set_of_le]
       · rw [List.drop_set_of_lt (by omega)];exact hd2)
theorem AFs9 {α:Type} {p:α→Bool}:∀ {hs:List α} {j:Nat},hs.findIdx? p=some j→j<hs.length∧hs.take j=(hs.take (j+1)).filter (fun x=> !p x)
 | [],j,h=>by simp at h
 | x::r,j,h=>by
   rw [Zep] at h
   cases hp:p x with
   |true=>rw [hp] at h;simp at h;subst h;simp [hp]
   | false=>
     rw [hp] at h
     simp only [Zdi,if_false,Zan] at h
     obtain ⟨j',h1,rfl⟩:=h
     obtain ⟨h2,h3⟩:=AFs9 h1
     exact ⟨by simp;omega,by simp [hp,h3]⟩
theorem BEq9 {α:Type} {p:α→Bool} {hs:List α} (h:hs.findIdx? p=none):hs.filter (fun x=> !p x)=hs:=by
 have:=List.findIdx?_eq_none_iff.1 h
 exact List.filter_eq_self.2 fun x hx=>by rw [this x hx];rfl
def boxA (x:AV):Blk:=⟨[x],false,false,0⟩
theorem SCall.toSl {P:Program} {f k:Nat} {args:List AV} {hp hp':List Blk} {xs:List (List Dv)} (h:SCall P f args hp (.full k xs) hp'):SCall P f args hp (.d (.sl k xs)) hp':=by
 refine ⟨h.1,fun S X yv w m B hv vs hl hr=>CallsIn.mono (h.2 S X yv w m B hv vs hl hr) ?_⟩
 rintro e w' ⟨v,S',m',hv',he,h1,h2⟩
 have hrv:=h2.rv _ (Zbz ..)
 refine ⟨v,S',m',hv',he,h1,(h2.sub (List.sublist_cons_self _ _)).cons ?_ rfl⟩
 cases hrv with|full h=>exact .d h
theorem ASl9.pc {P:Program} {f k:Nat} (hc:ASl9 P f k) (xs:List (List Dv)) (hl:xs.length≤1000000) (hk:∀r∈xs,r.length=k):PCall P f [.d (.sl k xs)] (.d (.sl k xs)):=by
 have h:=hc xs hl
 cases xs with
 |nil=>exact PCall.semRes (x:= .full k []) (y:= .d (.sl k [])) (SemV.rows .nil) (h.toP (y:= .full k []) (.r (.v rfl)))
 |cons a r=>exact h.toP (.r (.gref rfl rfl rfl rfl rfl hk))
def GCG:List (Nat×(List AV→List Blk→(AV→List Blk→Prop)→Prop)):= [(1000000+59,fun _ _ _=>False)]
theorem BAg9:AAk9 prog GCG:=Zbw (fun _ _ _ h=>h.elim) Zah
theorem BLh9 (xs:List (List Dv)):wpFnS prog ⟨[],GCG,wl,y,false⟩ 100 f48 [.d (.sl 5 xs)] b Kr=(∀(t:Bool),(t=true→xs= [])→BIf t (Kr (Zab (Zdc (.slice none 0 0))) [] b) (BIf (true&&decide (Zaa xs*40≤140737488355328)) (BIf (decide (0<Zaa xs)) (Kr (Zbu 0 0 (Zaa xs) 5) [Blk.mk (flatA xs) false true 0] b) (Kr (AV.full 5 []) [] b)) False)):=by kernel_rfl
theorem BEs9:ASl9 prog 48 5:=fun xs hl=>by
 refine Zgc (n:=100) (u:=false) (fun _=>fun _ _ _ _ _=>False) mixed Zal BAg9 (fun Ev _ _ _ _ _ h=>h.elim) func48 (by rfl) (by rfl) (by split<;>rfl) fun Ev bb=> ?_
 rw [BLh9]
 refine fun t ht=>Zbh (fun h=>by rw [ht h];exact ⟨.nilFull rfl,rfl⟩) fun h=>Zbg (by simp<;>omega) ?_
 cases xs with
 |nil=>exact Zdl rfl ⟨.rfl,rfl⟩
 |cons a xs=>exact Zbg (by simp) ⟨.rfl,rfl⟩
theorem AFp9 (x:GraT):(graR x).length=5:=rfl
theorem AQn9 (l:List GraT):∀r∈rowsG l,r.length=5:=by
 intro r hr
 simp only [rowsG,Zbb] at hr
 obtain ⟨x,_,rfl⟩:=hr;rfl
def BOr9 (args:List AV) (K:AV→Prop):Prop:=∃l:List GraT,args= [.d (.sl 5 (rowsG l))]∧l.length≤1000000∧K (.d (.sl 5 (rowsG l)))
theorem BGq9:∀args K,BOr9 args K→∃x,PCall prog 48 args x∧K x:=by
 rintro _ K ⟨l,rfl,hl,hk⟩;exact ⟨_,ASl9.pc BEs9 (rowsG l) (by rw [AAh9];exact hl) (AQn9 l),hk⟩
def BCi9 (args:List AV) (hp:List Blk) (K:AV→List Blk→Prop):Prop:=∃(hs:List GraT),args= [.d (.sl 5 (rowsG hs))]∧hs.length≤1000000∧BIf hs.isEmpty (K (.d (.sl 5 [])) hp) (K (.gref hp.length 0 hs.length 5) (hp++ [growB 0 (flatA (rowsG hs))]))
theorem AQl9:∀args hp K,BCi9 args hp K→∃x hp',SCall prog 48 args hp x hp'∧K x hp':=by
 rintro _ hp K ⟨hs,rfl,hl,hK⟩
 have h1:=(BEs9 (rowsG hs) (by rw [AAh9];omega)).toS rfl hp
 cases hs with
 |nil=>exact ⟨_,_,SCall.toSl h1,by simpa [rowsG,AFz9,BIf] using hK⟩
 | cons a r=>
   refine ⟨_,_,h1, ?_⟩
   simpa [rowsG,shift,AFz9,AQi9,blkG,AHc9,BIf,growB] using hK
noncomputable def lpDfG:Code:=sub [1,1,1,0,1,2,3] (code f131)
def tmDfG (v n:Nat) (i j:Int):List AV:= [.gref 2 v n 5, .fn (.func 132) [] [.ptr 1 0, .ptr 0 0], .bad, .bad, .bad, .d (i64 i), .d (i64 j)]++Zaq 35 .bad
def UDrG:List (Nat×(List AV→List Blk→(AV→List Blk→Prop)→Prop)):= [(1000000+59,fun _ _ _=>False),(132,lendC BGw9)]
theorem CBt9:AAk9 prog UDrG:=Zbw (fun _ _ _ h=>h.elim) (Zbw (AFl9 ASd9) Zah)
def hpDfG (fr:Int) (v':Nat) (cs:List AV):List Blk:= [boxA (.fn (.func 95) [] []),boxA (.fn (.func 96) [] [.rptr [i64 fr]]),growB v' cs]
abbrev Qz51 (v0:Int) (v1:Int):=Zab (i64 v0)::Zab (i64 v1)::bds 35 []
theorem rDfG (v' n:Nat) (i j fr:Int) (cs:List AV):wpc prog ⟨[],UDrG,wl,y,false⟩ 100 lpDfG (tmDfG v' n i j) (hpDfG fr v' cs) b (maskK 3 [0,1,5,6] K)=(v'=v'∧BIf (decide (j<(n:Int))) (v'=v'∧BIf (decide (0≤j)&&decide (j<(n:Int))) (v'=v'∧∃(x0:Int) (x1:Int) (x2:Int) (x3:Int) (x4:Int),Zcs 5 (Zdf (Zav j*5) cs)=(Qz24 x0 x1 x2 x3 x4)∧∃(x5:GraT) (fr6:Int) (q7:Bool), [Zao (Qz24 x0 x1 x2 x3 x4),Zag [Zco (Fn.func 96) [Zdn [i64 fr]]],Zag [Zco (Fn.func 95) []]]= [Zao (Qz7 x5),Zag [Zco (Fn.func 96) [Zdn [i64 fr6]]],Zag [Zco (Fn.func 95) []]]∧q7=decide (Zdm x5<fr6)∧BIf (!q7) (v'=v'∧BIf (decide (0≤i)&&decide (i<(n:Int))) (v'=v'∧BIf (decide (Zav i*5+5≤Zaa cs)) (BIf (Zcb [Blk.mk [Zat (Fn.func 95) [] []] false false 0,Blk.mk [Zat (Fn.func 96) [] [Zag [i64 fr]]] false false 0,Blk.mk (Zcs (Zav i*5) cs++(Qz24 x0 x1 x2 x3 x4)++Zdf (Zav i*5+5) cs) false true v'] fun (blk8:Blk)=>lows 3 blk8.1) (K .normal (Zbu 2 v' n 5::Zat (Fn.func 132) [] [Zak 1 0,Zak 0 0]::bds 3 (Zab (i64 (Zae .i64 (i+1)))::Zab (i64 (Zae .i64 (j+1)))::bds 35 [])) [Blk.mk [Zat (Fn.func 95) [] []] false false 0,Blk.mk [Zat (Fn.func 96) [] [Zag [i64 fr]]] false false 0,Blk.mk (Zcs (Zav i*5) cs++(Qz24 x0 x1 x2 x3 x4)++Zdf (Zav i*5+5) cs) false true v'] b) False) False) False) (BIf (Zcb [Blk.mk [Zat (Fn.func 95) [] []] false false 0,Blk.mk [Zat (Fn.func 96) [] [Zag [i64 fr]]] false false 0,Blk.mk cs false true v'] fun (blk9:Blk)=>lows 3 blk9.1) (K .normal (Zbu 2 v' n 5::Zat (Fn.func 132) [] [Zak 1 0,Zak 0 0]::bds 3 (Zab (i64 i)::Zab (i64 (Zae .i64 (j+1)))::bds 35 [])) [Blk.mk [Zat (Fn.func 95) [] []] false false 0,Blk.mk [Zat (Fn.func 96) [] [Zag [i64 fr]]] false false 0,Blk.mk cs false true v'] b) False)) False) (BIf (Zcb [Blk.mk [Zat (Fn.func 95) [] []] false false 0,Blk.mk [Zat (Fn.func 96) [] [Zag [i64 fr]]] false false 0,Blk.mk cs false true v'] fun (blk10:Blk)=>lows 3 blk10.1) (K (Zbv 0) (Zbu 2 v' n 5::Zat (Fn.func 132) [] [Zak 1 0,Zak 0 0]::bds 3 (Qz51 i j)) [Blk.mk [Zat (Fn.func 95) [] []] false false 0,Blk.mk [Zat (Fn.func 96) [] [Zag [i64 fr]]] false false 0,Blk.mk cs false true v'] b) False)):=by kernel_rfl
theorem BFb9 (fr:Int) (v':Nat) (hs:List GraT):Zcb (hpDfG fr v' (flatA (rowsG hs))) (fun blk=>lows 3 blk.1)=true:=by
 simp only [hpDfG,List.all_cons,List.all_nil,Bool.and_true,Zaj]
 exact ⟨rfl,rfl,ACt9 3 _⟩
theorem wrDfG {Ev:Env prog} {b:Ev.β} {Q:Exit→St Ev.β→Prop} (v':Nat) (fr:Int) (hs:List GraT) (hl:hs.length<1000000)
   (hQ:∀cur:List GraT,cur.length=hs.length→cur.take (hs.filter fun x=> !(fun x:GraT=>decide (x.un<fr)) x).length=(hs.filter fun x=> !(fun x:GraT=>decide (x.un<fr)) x)→Q (.exit 0) ⟨tmDfG v' hs.length ((hs.filter fun x=> !(fun x:GraT=>decide (x.un<fr)) x).length:Nat) hs.length,hpDfG fr v' (flatA (rowsG cur)),b⟩)
   (j:Nat) (hj:hs.findIdx? (fun x:GraT=>decide (x.un<fr))=some j):WR Ev lpDfG ((hs.drop (j+1)).length+1) ⟨tmDfG v' hs.length (j:Nat) ((j+1:Nat):Int),hpDfG fr v' (flatA (rowsG hs)),b⟩ Q:=by
 obtain ⟨hj1,hj2⟩:=AFs9 hj
 refine WR.delL (X:=⟨[],UDrG,wlW Ev,Ev.Y,false⟩) (k:=100) (L:=3) [0,1,5,6] mixed (CX.Ok.of Zal CBt9) hs (fun x:GraT=>decide (x.un<fr)) (fun i j=>tmDfG v' hs.length (i:Nat) (j:Nat)) (fun c=>hpDfG fr v' (flatA (rowsG c))) (fun _=>rfl) 0 (fun i j cur x hx hi hj hcl K k1 k2=> ?_) (fun i cur K hcl k1=> ?_) hQ (hs.drop (j+1)) (j+1) j hs rfl hj1 (by omega) rfl hj2 rfl
 · refine Eq.mpr (rDfG _ _ _ K v' hs.length i j fr _) ?_
   refine ⟨rfl,Zbg (by simp;omega) ⟨rfl,Zbg (by simp;omega) ⟨rfl,_,_,_,_,_,by rw [Zcu];exact fl_at AFp9 hx,x,fr,_,rfl,rfl,Zbh (fun h1=> ?_) fun h1=> ?_⟩⟩⟩
   · rw [Zcq] at h1
     have hk2:=k2 h1
     have e:=BTj9 AFp9 (hs:=cur) (i:=i) (by omega) x
     refine ⟨rfl,Zbg (by simp;omega) ⟨rfl,Zbg (by rw [Zcu];have:=AZa9 AFp9 cur;rw [show flatA (rowsG cur)=flatA (cur.map graR) from rfl,this];simp;omega) ?_⟩⟩
     rw [Zcu,wrapN (by omega),wrapN (by omega)]
     have hlow:=BFb9 fr v' (cur.set i x)
     simp only [hpDfG,rowsG] at hk2 hlow
     rw [←e] at hk2 hlow
     exact Zbg hlow hk2
   · rw [Zfu] at h1
     rw [wrapN (by omega)]
     exact Zbg (BFb9 fr v' cur) (k1 h1)
 · refine Eq.mpr (rDfG _ _ _ K v' hs.length i hs.length fr _) ?_
   exact ⟨rfl,Zdl (by simp) (Zbg (BFb9 fr v' cur) k1)⟩
def BXd9 {β:Type}:WLT β:=fun c tm hp b K=>∃(v':Nat) (fr i j:Int) (hs out:List GraT),c= .loop lpDfG∧ABd9 [0,1,5,6] 0 tm=tmDfG v' hs.length i j∧hp=hpDfG fr v' (flatA (rowsG hs))∧(hs.length<1000000∧0≤i∧i=idxS (fun x:GraT=>decide (x.un<fr)) hs∧j=Zae Zay (i+1)∧out=hs.filter fun x=> !(fun x:GraT=>decide (x.un<fr)) x)∧
 ∀(cur:List GraT),cur.length=hs.length→cur.take out.length=out→K (.exit 0) (tmDfG v' hs.length (out.length:Nat) hs.length) (hpDfG fr v' (flatA (rowsG cur))) b
theorem BIr9 {Ev:Env prog} (c:Code) (tm:List AV) (hp:List Blk) (b:Ev.β) (K:Exit→List AV→List Blk→Ev.β→Prop) (h:BXd9 c tm hp b K):W Ev c ⟨tm,hp,b⟩ (fun e s=>K e s.tm s.hp s.b):=by
 obtain ⟨v',fr,i,j,hs,_,rfl,htm,rfl,⟨hl,h0,hi,rfl,rfl⟩,hK⟩:=h
 cases hf:hs.findIdx? (fun x:GraT=>decide (x.un<fr)) with
 |none=>rw [AAy9 hf] at hi;omega
 | some j0=>
   rw [AAg9 hf] at hi
   subst hi
   have hj1:=(AFs9 hf).1
   rw [wrapN (by omega)] at htm
   refine W.cast (htm▸AAe9 _ tm 0) (Zce _) ?_
   exact W.rounds (wrDfG (Q:=fun e s=>K e s.tm s.hp s.b) v' fr hs hl hK j0 hf)
def TDfG:List (Nat×(List AV→(AV→Prop)→Prop)):= [(4000011,cNone)]
theorem BPk9:AAb9 prog TDfG:=Zai (ABx9 _) Zal
def UDfG:List (Nat×(List AV→List Blk→(AV→List Blk→Prop)→Prop)):= [(1000000+59,fun _ _ _=>False),(54,lendC BGa9)]
theorem BPi9:AAk9 prog UDfG:=Zbw (fun _ _ _ h=>h.elim) (Zbw (AFl9 AZn9) Zah)
def wlDfG {β:Type} (y:ACv9 β):WLT β:=wlZ prog ⟨TDfG,UDfG,fun _ _ _ _ _=>False,y,false⟩ BXd9
theorem CAp9 (v' n:Nat) (fr:Int) (cs:List AV):wpc prog ⟨TDfG,UDfG,wlDfG y,y,false⟩ 100 (code f131) (ACe9 f131 [.gref 2 v' n 5, .fn (.func 132) [] [.ptr 1 0, .ptr 0 0]]) (hpDfG fr v' cs) b (fnKS prog f131 Kr)=(v'=v'∧∃(xs0:List (List Dv)),cs=flatA xs0∧Zaa xs0=n∧(∀(r:List Dv),r∈xs0→Zaa r=5)∧∃(l1:List GraT) (fr2:Int) (q3:Int), [Zab (Zaf 5 xs0),Zat (Fn.func 132) [] [Zag [Zco (Fn.func 96) [Zdn [i64 fr]]],Zag [Zco (Fn.func 95) []]]]= [Zab (Zaf 5 (rowsG l1)),Zat (Fn.func 132) [] [Zag [Zco (Fn.func 96) [Zdn [i64 fr2]]],Zag [Zco (Fn.func 95) []]]]∧(Zaa l1≤9223372036854775807∧q3=idxS (fun (x4:GraT)=>decide (Zdm x4<fr2)) l1)∧BIf (q3==(-1:Int)) (Kr (Zbu 2 v' n 5) [Blk.mk [Zat (Fn.func 95) [] []] false false 0,Blk.mk [Zat (Fn.func 96) [] [Zag [i64 fr]]] false false 0,Blk.mk cs false true v'] b) (∃(v5:Nat) (fr6:Int) (i7:Int) (j8:Int) (hs9:List GraT) (out10:List GraT),Zaz lpDfG=Zaz lpDfG∧(Zbu 2 v' n 5::Zat (Fn.func 132) [] [Zak 1 0,Zak 0 0]::bds 3 (Zab (i64 q3)::Zab (i64 (Zae .i64 (q3+1)))::bds 35 []))=(Zbu 2 v5 (Zaa hs9) 5::Zat (Fn.func 132) [] [Zak 1 0,Zak 0 0]::bds 3 (Qz51 i7 j8))∧ [Blk.mk [Zat (Fn.func 95) [] []] false false 0,Blk.mk [Zat (Fn.func 96) [] [Zag [i64 fr]]] false false 0,Blk.mk cs false true v']= [Blk.mk [Zat (Fn.func 95) [] []] false false 0,Blk.mk [Zat (Fn.func 96) [] [Zag [i64 fr6]]] false false 0,Blk.mk (flatA (rowsG hs9)) false true v5]∧(Zaa hs9<1000000∧(0:Int)≤i7∧i7=idxS (fun (x11:GraT)=>decide (Zdm x11<fr6)) hs9∧j8=Zae .i64 (i7+1)∧out10=Zcg (fun (x12:GraT)=> !decide (Zdm x12<fr6)) hs9)∧∀(cur:List GraT),Zaa cur=Zaa hs9→Zcs (Zaa out10) cur=out10→v5=v5∧BIf (true&&decide (((Zaa out10:Nat):Int)≤((Zaa hs9:Nat):Int))) (BIf (true&&decide (((Zaa out10:Nat):Int)≤((Zaa hs9:Nat):Int))) (v5=v5∧Kr (Zbu 2 (v5+1) (Zav ((Zaa out10:Nat):Int)) 5) [Blk.mk [Zat (Fn.func 95) [] []] false false 0,Blk.mk [Zat (Fn.func 96) [] [Zag [i64 fr6]]] false false 0,Blk.mk (Zcs (Zav ((Zaa out10:Nat):Int)*5) (Zcs (Zav ((Zaa out10:Nat):Int)*5) (flatA (rowsG cur))++flatA (Zaq (Zaa hs9 - Zav ((Zaa out10:Nat):Int)) [i64 0,i64 0,i64 0,i64 0,i64 0]))) false true (v5+1)] b) False) False)):=by kernel_rfl
theorem BTv9 (fr:Int):wpc prog ⟨TDfG,UDfG,wlDfG y,y,false⟩ 100 (code f131) (ACe9 f131 [.d (.sl 5 []), .fn (.func 132) [] [.ptr 1 0, .ptr 0 0]]) [boxA (.fn (.func 95) [] []),boxA (.fn (.func 96) [] [.rptr [i64 fr]])] b (fnKS prog f131 Kr)=(∃(l0:List GraT) (fr1:Int) (q2:Int), [Zab (Zaf 5 []),Zat (Fn.func 132) [] [Zag [Zco (Fn.func 96) [Zdn [i64 fr]]],Zag [Zco (Fn.func 95) []]]]= [Zab (Zaf 5 (rowsG l0)),Zat (Fn.func 132) [] [Zag [Zco (Fn.func 96) [Zdn [i64 fr1]]],Zag [Zco (Fn.func 95) []]]]∧(Zaa l0≤9223372036854775807∧q2=idxS (fun (x3:GraT)=>decide (Zdm x3<fr1)) l0)∧BIf (q2==(-1:Int)) (Kr (Zab (Zaf 5 [])) [Blk.mk [Zat (Fn.func 95) [] []] false false 0,Blk.mk [Zat (Fn.func 96) [] [Zag [i64 fr]]] false false 0] b) (∃(v4:Nat) (fr5:Int) (i6:Int) (j7:Int) (hs8:List GraT) (out9:List GraT),Zaz lpDfG=Zaz lpDfG∧(Zab (Zaf 5 [])::Zat (Fn.func 132) [] [Zak 1 0,Zak 0 0]::bds 3 (Zab (i64 q2)::Zab (i64 (Zae .i64 (q2+1)))::bds 35 []))=(Zbu 2 v4 (Zaa hs8) 5::Zat (Fn.func 132) [] [Zak 1 0,Zak 0 0]::bds 3 (Qz51 i6 j7))∧ [Blk.mk [Zat (Fn.func 95) [] []] false false 0,Blk.mk [Zat (Fn.func 96) [] [Zag [i64 fr]]] false false 0]= [Blk.mk [Zat (Fn.func 95) [] []] false false 0,Blk.mk [Zat (Fn.func 96) [] [Zag [i64 fr5]]] false false 0,Blk.mk (flatA (rowsG hs8)) false true v4]∧(Zaa hs8<1000000∧(0:Int)≤i6∧i6=idxS (fun (x10:GraT)=>decide (Zdm x10<fr5)) hs8∧j7=Zae .i64 (i6+1)∧out9=Zcg (fun (x11:GraT)=> !decide (Zdm x11<fr5)) hs8)∧∀(cur:List GraT),Zaa cur=Zaa hs8→Zcs (Zaa out9) cur=out9→v4=v4∧BIf (true&&decide (((Zaa out9:Nat):Int)≤((Zaa hs8:Nat):Int))) (BIf (true&&decide (((Zaa out9:Nat):Int)≤((Zaa hs8:Nat):Int))) (v4=v4∧Kr (Zbu 2 (v4+1) (Zav ((Zaa out9:Nat):Int)) 5) [Blk.mk [Zat (Fn.func 95) [] []] false false 0,Blk.mk [Zat (Fn.func 96) [] [Zag [i64 fr5]]] false false 0,Blk.mk (Zcs (Zav ((Zaa out9:Nat):Int)*5) (Zcs (Zav ((Zaa out9:Nat):Int)*5) (flatA (rowsG cur))++flatA (Zaq (Zaa hs8 - Zav ((Zaa out9:Nat):Int)) [i64 0,i64 0,i64 0,i64 0,i64 0]))) false true (v4+1)] b) False) False)):=by kernel_rfl
def GCA:List (Nat×(List AV→List Blk→(AV→List Blk→Prop)→Prop)):= [(1000000+63,fun _ _ _=>False)]
theorem AUx9:AAk9 prog GCA:=Zbw (fun _ _ _ h=>h.elim) Zah
theorem BLi9 (xs:List (List Dv)):wpFnS prog ⟨[],GCA,wl,y,false⟩ 100 f97 [.d (.sl 3 xs)] b Kr=(∀(t:Bool),(t=true→xs= [])→BIf t (Kr (Zab (Zdc (.slice none 0 0))) [] b) (BIf (true&&decide (Zaa xs*24≤140737488355328)) (BIf (decide (0<Zaa xs)) (Kr (Zbu 0 0 (Zaa xs) 3) [Blk.mk (flatA xs) false true 0] b) (Kr (AV.full 3 []) [] b)) False)):=by kernel_rfl
theorem BEt9:ASl9 prog 97 3:=fun xs hl=>by
 refine Zgc (n:=100) (u:=false) (fun _=>fun _ _ _ _ _=>False) mixed Zal AUx9 (fun Ev _ _ _ _ _ h=>h.elim) func97 (by rfl) (by rfl) (by split<;>rfl) fun Ev bb=> ?_
 rw [BLi9]
 refine fun t ht=>Zbh (fun h=>by rw [ht h];exact ⟨.nilFull rfl,rfl⟩) fun h=>Zbg (by simp<;>omega) ?_
 cases xs with
 |nil=>exact Zdl rfl ⟨.rfl,rfl⟩
 |cons a xs=>exact Zbg (by simp) ⟨.rfl,rfl⟩
theorem AMe9 (x:AskT):(askR x).length=3:=rfl
theorem ANb9 (l:List AskT):∀r∈rowsA l,r.length=3:=by
 intro r hr
 simp only [rowsA,Zbb] at hr
 obtain ⟨x,_,rfl⟩:=hr;rfl
def BOs9 (args:List AV) (K:AV→Prop):Prop:=∃l:List AskT,args= [.d (.sl 3 (rowsA l))]∧l.length≤1000000∧K (.d (.sl 3 (rowsA l)))
theorem BGr9:∀args K,BOs9 args K→∃x,PCall prog 97 args x∧K x:=by
 rintro _ K ⟨l,rfl,hl,hk⟩;exact ⟨_,ASl9.pc BEt9 (rowsA l) (by rw [AAx9];exact hl) (ANb9 l),hk⟩
def BNj9 (args:List AV) (hp:List Blk) (K:AV→List Blk→Prop):Prop:=∃(hs:List AskT),args= [.d (.sl 3 (rowsA hs))]∧hs.length≤1000000∧BIf hs.isEmpty (K (.d (.sl 3 [])) hp) (K (.gref hp.length 0 hs.length 3) (hp++ [growB 0 (flatA (rowsA hs))]))
theorem BCj9:∀args hp K,BNj9 args hp K→∃x hp',SCall prog 97 args hp x hp'∧K x hp':=by
 rintro _ hp K ⟨hs,rfl,hl,hK⟩
 have h1:=(BEt9 (rowsA hs) (by rw [AAx9];omega)).toS rfl hp
 cases hs with
 |nil=>exact ⟨_,_,SCall.toSl h1,by simpa [rowsA,AFz9,BIf] using hK⟩
 | cons a r=>
   refine ⟨_,_,h1, ?_⟩
   simpa [rowsA,shift,AFz9,AQi9,blkG,AHc9,BIf,growB] using hK
noncomputable def lpDfA:Code:=sub [1,1,1,0,1,2,3] (code f147)
def tmDfA (v n:Nat) (i j:Int):List AV:= [.gref 2 v n 3, .fn (.func 148) [] [.ptr 1 0, .ptr 0 0], .bad, .bad, .bad, .d (i64 i), .d (i64 j)]++Zaq 35 .bad
def UDrA:List (Nat×(List AV→List Blk→(AV→List Blk→Prop)→Prop)):= [(1000000+63,fun _ _ _=>False),(148,lendC BGx9)]
theorem CBu9:AAk9 prog UDrA:=Zbw (fun _ _ _ h=>h.elim) (Zbw (AFl9 ASe9) Zah)
def hpDfA (sl:Int) (v':Nat) (cs:List AV):List Blk:= [boxA (.fn (.func 118) [] []),boxA (.fn (.func 138) [] [.rptr [i64 sl]]),growB v' cs]
theorem rDfA (v' n:Nat) (i j sl:Int) (cs:List AV):wpc prog ⟨[],UDrA,wl,y,false⟩ 100 lpDfA (tmDfA v' n i j) (hpDfA sl v' cs) b (maskK 3 [0,1,5,6] K)=(v'=v'∧BIf (decide (j<(n:Int))) (v'=v'∧BIf (decide (0≤j)&&decide (j<(n:Int))) (v'=v'∧∃(x0:Int) (x1:Int) (x2:Int),Zcs 3 (Zdf (Zav j*3) cs)=(Qz27 x0 x1 x2)∧∃(x3:AskT) (sl4:Int) (q5:Bool), [Zao (Qz27 x0 x1 x2),Zag [Zco (Fn.func 138) [Zdn [i64 sl]]],Zag [Zco (Fn.func 118) []]]= [Zao (Qz13 x3),Zag [Zco (Fn.func 138) [Zdn [i64 sl4]]],Zag [Zco (Fn.func 118) []]]∧q5=(Zde x3==sl4)∧BIf (!q5) (v'=v'∧BIf (decide (0≤i)&&decide (i<(n:Int))) (v'=v'∧BIf (decide (Zav i*3+3≤Zaa cs)) (BIf (Zcb [Blk.mk [Zat (Fn.func 118) [] []] false false 0,Blk.mk [Zat (Fn.func 138) [] [Zag [i64 sl]]] false false 0,Blk.mk (Zcs (Zav i*3) cs++(Qz27 x0 x1 x2)++Zdf (Zav i*3+3) cs) false true v'] fun (blk6:Blk)=>lows 3 blk6.1) (K .normal (Zbu 2 v' n 3::Zat (Fn.func 148) [] [Zak 1 0,Zak 0 0]::bds 3 (Zab (i64 (Zae .i64 (i+1)))::Zab (i64 (Zae .i64 (j+1)))::bds 35 [])) [Blk.mk [Zat (Fn.func 118) [] []] false false 0,Blk.mk [Zat (Fn.func 138) [] [Zag [i64 sl]]] false false 0,Blk.mk (Zcs (Zav i*3) cs++(Qz27 x0 x1 x2)++Zdf (Zav i*3+3) cs) false true v'] b) False) False) False) (BIf (Zcb [Blk.mk [Zat (Fn.func 118) [] []] false false 0,Blk.mk [Zat (Fn.func 138) [] [Zag [i64 sl]]] false false 0,Blk.mk cs false true v'] fun (blk7:Blk)=>lows 3 blk7.1) (K .normal (Zbu 2 v' n 3::Zat (Fn.func 148) [] [Zak 1 0,Zak 0 0]::bds 3 (Zab (i64 i)::Zab (i64 (Zae .i64 (j+1)))::bds 35 [])) [Blk.mk [Zat (Fn.func 118) [] []] false false 0,Blk.mk [Zat (Fn.func 138) [] [Zag [i64 sl]]] false false 0,Blk.mk cs false true v'] b) False)) False) (BIf (Zcb [Blk.mk [Zat (Fn.func 118) [] []] false false 0,Blk.mk [Zat (Fn.func 138) [] [Zag [i64 sl]]] false false 0,Blk.mk cs false true v'] fun (blk8:Blk)=>lows 3 blk8.1) (K (Zbv 0) (Zbu 2 v' n 3::Zat (Fn.func 148) [] [Zak 1 0,Zak 0 0]::bds 3 (Qz51 i j)) [Blk.mk [Zat (Fn.func 118) [] []] false false 0,Blk.mk [Zat (Fn.func 138) [] [Zag [i64 sl]]] false false 0,Blk.mk cs false true v'] b) False)):=by kernel_rfl
theorem BFc9 (sl:Int) (v':Nat) (hs:List AskT):Zcb (hpDfA sl v' (flatA (rowsA hs))) (fun blk=>lows 3 blk.1)=true:=by
 simp only [hpDfA,List.all_cons,List.all_nil,Bool.and_true,Zaj]
 exact ⟨rfl,rfl,ACt9 3 _⟩
theorem wrDfA {Ev:Env prog} {b:Ev.β} {Q:Exit→St Ev.β→Prop} (v':Nat) (sl:Int) (hs:List AskT) (hl:hs.length<1000000)
   (hQ:∀cur:List AskT,cur.length=hs.length→cur.take (hs.filter fun x=> !(fun x:AskT=>x.sl==sl) x).length=(hs.filter fun x=> !(fun x:AskT=>x.sl==sl) x)→Q (.exit 0) ⟨tmDfA v' hs.length ((hs.filter fun x=> !(fun x:AskT=>x.sl==sl) x).length:Nat) hs.length,hpDfA sl v' (flatA (rowsA cur)),b⟩)
   (j:Nat) (hj:hs.findIdx? (fun x:AskT=>x.sl==sl)=some j):WR Ev lpDfA ((hs.drop (j+1)).length+1) ⟨tmDfA v' hs.length (j:Nat) ((j+1:Nat):Int),hpDfA sl v' (flatA (rowsA hs)),b⟩ Q:=by
 obtain ⟨hj1,hj2⟩:=AFs9 hj
 refine WR.delL (X:=⟨[],UDrA,wlW Ev,Ev.Y,false⟩) (k:=100) (L:=3) [0,1,5,6] mixed (CX.Ok.of Zal CBu9) hs (fun x:AskT=>x.sl==sl) (fun i j=>tmDfA v' hs.length (i:Nat) (j:Nat)) (fun c=>hpDfA sl v' (flatA (rowsA c))) (fun _=>rfl) 0 (fun i j cur x hx hi hj hcl K k1 k2=> ?_) (fun i cur K hcl k1=> ?_) hQ (hs.drop (j+1)) (j+1) j hs rfl hj1 (by omega) rfl hj2 rfl
 · refine Eq.mpr (rDfA _ _ _ K v' hs.length i j sl _) ?_
   refine ⟨rfl,Zbg (by simp;omega) ⟨rfl,Zbg (by simp;omega) ⟨rfl,_,_,_,by rw [Zcu];exact fl_at AMe9 hx,x,sl,_,rfl,rfl,Zbh (fun h1=> ?_) fun h1=> ?_⟩⟩⟩
   · rw [Zcq] at h1
     have hk2:=k2 h1
     have e:=BTj9 AMe9 (hs:=cur) (i:=i) (by omega) x
     refine ⟨rfl,Zbg (by simp;omega) ⟨rfl,Zbg (by rw [Zcu];have:=AZa9 AMe9 cur;rw [show flatA (rowsA cur)=flatA (cur.map askR) from rfl,this];simp;omega) ?_⟩⟩
     rw [Zcu,wrapN (by omega),wrapN (by omega)]
     have hlow:=BFc9 sl v' (cur.set i x)
     simp only [hpDfA,rowsA] at hk2 hlow
     rw [←e] at hk2 hlow
     exact Zbg hlow hk2
   · rw [Zfu] at h1
     rw [wrapN (by omega)]
     exact Zbg (BFc9 sl v' cur) (k1 h1)
 · refine Eq.mpr (rDfA _ _ _ K v' hs.length i hs.length sl _) ?_
   exact ⟨rfl,Zdl (by simp) (Zbg (BFc9 sl v' cur) k1)⟩
def BXe9 {β:Type}:WLT β:=fun c tm hp b K=>∃(v':Nat) (sl i j:Int) (hs out:List AskT),c= .loop lpDfA∧ABd9 [0,1,5,6] 0 tm=tmDfA v' hs.length i j∧hp=hpDfA sl v' (flatA (rowsA hs))∧(hs.length<1000000∧0≤i∧i=idxS (fun x:AskT=>x.sl==sl) hs∧j=Zae Zay (i+1)∧out=hs.filter fun x=> !(fun x:AskT=>x.sl==sl) x)∧
 ∀(cur:List AskT),cur.length=hs.length→cur.take out.length=out→K (.exit 0) (tmDfA v' hs.length (out.length:Nat) hs.length) (hpDfA sl v' (flatA (rowsA cur))) b
theorem BIs9 {Ev:Env prog} (c:Code) (tm:List AV) (hp:List Blk) (b:Ev.β) (K:Exit→List AV→List Blk→Ev.β→Prop) (h:BXe9 c tm hp b K):W Ev c ⟨tm,hp,b⟩ (fun e s=>K e s.tm s.hp s.b):=by
 obtain ⟨v',sl,i,j,hs,_,rfl,htm,rfl,⟨hl,h0,hi,rfl,rfl⟩,hK⟩:=h
 cases hf:hs.findIdx? (fun x:AskT=>x.sl==sl) with
 |none=>rw [AAy9 hf] at hi;omega
 | some j0=>
   rw [AAg9 hf] at hi
   subst hi
   have hj1:=(AFs9 hf).1
   rw [wrapN (by omega)] at htm
   refine W.cast (htm▸AAe9 _ tm 0) (Zce _) ?_
   exact W.rounds (wrDfA (Q:=fun e s=>K e s.tm s.hp s.b) v' sl hs hl hK j0 hf)
def TDfA:List (Nat×(List AV→(AV→Prop)→Prop)):= [(4000011,cNone)]
theorem BPl9:AAb9 prog TDfA:=Zai (ABx9 _) Zal
def UDfA:List (Nat×(List AV→List Blk→(AV→List Blk→Prop)→Prop)):= [(1000000+63,fun _ _ _=>False),(90,lendC BGb9)]
theorem BPj9:AAk9 prog UDfA:=Zbw (fun _ _ _ h=>h.elim) (Zbw (AFl9 AZo9) Zah)
def wlDfA {β:Type} (y:ACv9 β):WLT β:=wlZ prog ⟨TDfA,UDfA,fun _ _ _ _ _=>False,y,false⟩ BXe9
theorem CAr9 (v' n:Nat) (sl:Int) (cs:List AV):wpc prog ⟨TDfA,UDfA,wlDfA y,y,false⟩ 100 (code f147) (ACe9 f147 [.gref 2 v' n 3, .fn (.func 148) [] [.ptr 1 0, .ptr 0 0]]) (hpDfA sl v' cs) b (fnKS prog f147 Kr)=(v'=v'∧∃(xs0:List (List Dv)),cs=flatA xs0∧Zaa xs0=n∧(∀(r:List Dv),r∈xs0→Zaa r=3)∧∃(l1:List AskT) (sl2:Int) (q3:Int), [Zab (Zaf 3 xs0),Zat (Fn.func 148) [] [Zag [Zco (Fn.func 138) [Zdn [i64 sl]]],Zag [Zco (Fn.func 118) []]]]= [Zab (Zaf 3 (rowsA l1)),Zat (Fn.func 148) [] [Zag [Zco (Fn.func 138) [Zdn [i64 sl2]]],Zag [Zco (Fn.func 118) []]]]∧(Zaa l1≤9223372036854775807∧q3=idxS (fun (x4:AskT)=>Zde x4==sl2) l1)∧BIf (q3==(-1:Int)) (Kr (Zbu 2 v' n 3) [Blk.mk [Zat (Fn.func 118) [] []] false false 0,Blk.mk [Zat (Fn.func 138) [] [Zag [i64 sl]]] false false 0,Blk.mk cs false true v'] b) (∃(v5:Nat) (sl6:Int) (i7:Int) (j8:Int) (hs9:List AskT) (out10:List AskT),Zaz lpDfA=Zaz lpDfA∧(Zbu 2 v' n 3::Zat (Fn.func 148) [] [Zak 1 0,Zak 0 0]::bds 3 (Zab (i64 q3)::Zab (i64 (Zae .i64 (q3+1)))::bds 35 []))=(Zbu 2 v5 (Zaa hs9) 3::Zat (Fn.func 148) [] [Zak 1 0,Zak 0 0]::bds 3 (Qz51 i7 j8))∧ [Blk.mk [Zat (Fn.func 118) [] []] false false 0,Blk.mk [Zat (Fn.func 138) [] [Zag [i64 sl]]] false false 0,Blk.mk cs false true v']= [Blk.mk [Zat (Fn.func 118) [] []] false false 0,Blk.mk [Zat (Fn.func 138) [] [Zag [i64 sl6]]] false false 0,Blk.mk (flatA (rowsA hs9)) false true v5]∧(Zaa hs9<1000000∧(0:Int)≤i7∧i7=idxS (fun (x11:AskT)=>Zde x11==sl6) hs9∧j8=Zae .i64 (i7+1)∧out10=Zcg (fun (x12:AskT)=> !AskT.sl x12==sl6) hs9)∧∀(cur:List AskT),Zaa cur=Zaa hs9→Zcs (Zaa out10) cur=out10→v5=v5∧BIf (true&&decide (((Zaa out10:Nat):Int)≤((Zaa hs9:Nat):Int))) (BIf (true&&decide (((Zaa out10:Nat):Int)≤((Zaa hs9:Nat):Int))) (v5=v5∧Kr (Zbu 2 (v5+1) (Zav ((Zaa out10:Nat):Int)) 3) [Blk.mk [Zat (Fn.func 118) [] []] false false 0,Blk.mk [Zat (Fn.func 138) [] [Zag [i64 sl6]]] false false 0,Blk.mk (Zcs (Zav ((Zaa out10:Nat):Int)*3) (Zcs (Zav ((Zaa out10:Nat):Int)*3) (flatA (rowsA cur))++flatA (Zaq (Zaa hs9 - Zav ((Zaa out10:Nat):Int)) [i64 0,i64 0,i64 0]))) false true (v5+1)] b) False) False)):=by kernel_rfl
theorem BTw9 (sl:Int):wpc prog ⟨TDfA,UDfA,wlDfA y,y,false⟩ 100 (code f147) (ACe9 f147 [.d (.sl 3 []), .fn (.func 148) [] [.ptr 1 0, .ptr 0 0]]) [boxA (.fn (.func 118) [] []),boxA (.fn (.func 138) [] [.rptr [i64 sl]])] b (fnKS prog f147 Kr)=(∃(l0:List AskT) (sl1:Int) (q2:Int), [Zab (Zaf 3 []),Zat (Fn.func 148) [] [Zag [Zco (Fn.func 138) [Zdn [i64 sl]]],Zag [Zco (Fn.func 118) []]]]= [Zab (Zaf 3 (rowsA l0)),Zat (Fn.func 148) [] [Zag [Zco (Fn.func 138) [Zdn [i64 sl1]]],Zag [Zco (Fn.func 118) []]]]∧(Zaa l0≤9223372036854775807∧q2=idxS (fun (x3:AskT)=>Zde x3==sl1) l0)∧BIf (q2==(-1:Int)) (Kr (Zab (Zaf 3 [])) [Blk.mk [Zat (Fn.func 118) [] []] false false 0,Blk.mk [Zat (Fn.func 138) [] [Zag [i64 sl]]] false false 0] b) (∃(v4:Nat) (sl5:Int) (i6:Int) (j7:Int) (hs8:List AskT) (out9:List AskT),Zaz lpDfA=Zaz lpDfA∧(Zab (Zaf 3 [])::Zat (Fn.func 148) [] [Zak 1 0,Zak 0 0]::bds 3 (Zab (i64 q2)::Zab (i64 (Zae .i64 (q2+1)))::bds 35 []))=(Zbu 2 v4 (Zaa hs8) 3::Zat (Fn.func 148) [] [Zak 1 0,Zak 0 0]::bds 3 (Qz51 i6 j7))∧ [Blk.mk [Zat (Fn.func 118) [] []] false false 0,Blk.mk [Zat (Fn.func 138) [] [Zag [i64 sl]]] false false 0]= [Blk.mk [Zat (Fn.func 118) [] []] false false 0,Blk.mk [Zat (Fn.func 138) [] [Zag [i64 sl5]]] false false 0,Blk.mk (flatA (rowsA hs8)) false true v4]∧(Zaa hs8<1000000∧(0:Int)≤i6∧i6=idxS (fun (x10:AskT)=>Zde x10==sl5) hs8∧j7=Zae .i64 (i6+1)∧out9=Zcg (fun (x11:AskT)=> !AskT.sl x11==sl5) hs8)∧∀(cur:List AskT),Zaa cur=Zaa hs8→Zcs (Zaa out9) cur=out9→v4=v4∧BIf (true&&decide (((Zaa out9:Nat):Int)≤((Zaa hs8:Nat):Int))) (BIf (true&&decide (((Zaa out9:Nat):Int)≤((Zaa hs8:Nat):Int))) (v4=v4∧Kr (Zbu 2 (v4+1) (Zav ((Zaa out9:Nat):Int)) 3) [Blk.mk [Zat (Fn.func 118) [] []] false false 0,Blk.mk [Zat (Fn.func 138) [] [Zag [i64 sl5]]] false false 0,Blk.mk (Zcs (Zav ((Zaa out9:Nat):Int)*3) (Zcs (Zav ((Zaa out9:Nat):Int)*3) (flatA (rowsA cur))++flatA (Zaq (Zaa hs8 - Zav ((Zaa out9:Nat):Int)) [i64 0,i64 0,i64 0]))) false true (v4+1)] b) False) False)):=by kernel_rfl
def GCU:List (Nat×(List AV→List Blk→(AV→List Blk→Prop)→Prop)):= [(1000000+61,fun _ _ _=>False)]
theorem BVy9:AAk9 prog GCU:=Zbw (fun _ _ _ h=>h.elim) Zah
theorem BLg9 (xs:List (List Dv)):wpFnS prog ⟨[],GCU,wl,y,false⟩ 100 f93 [.d (.sl 4 xs)] b Kr=(∀(t:Bool),(t=true→xs= [])→BIf t (Kr (Zab (Zdc (.slice none 0 0))) [] b) (BIf (true&&decide (Zaa xs*32≤140737488355328)) (BIf (decide (0<Zaa xs)) (Kr (Zbu 0 0 (Zaa xs) 4) [Blk.mk (flatA xs) false true 0] b) (Kr (AV.full 4 []) [] b)) False)):=by kernel_rfl
theorem BTk9:ASl9 prog 93 4:=fun xs hl=>by
 refine Zgc (n:=100) (u:=false) (fun _=>fun _ _ _ _ _=>False) mixed Zal BVy9 (fun Ev _ _ _ _ _ h=>h.elim) func93 (by rfl) (by rfl) (by split<;>rfl) fun Ev bb=> ?_
 rw [BLg9]
 refine fun t ht=>Zbh (fun h=>by rw [ht h];exact ⟨.nilFull rfl,rfl⟩) fun h=>Zbg (by simp<;>omega) ?_
 cases xs with
 |nil=>exact Zdl rfl ⟨.rfl,rfl⟩
 |cons a xs=>exact Zbg (by simp) ⟨.rfl,rfl⟩
theorem BNk9 (l:List UseT):∀r∈rowsU l,r.length=4:=by
 intro r hr
 simp only [rowsU,Zbb] at hr
 obtain ⟨x,_,rfl⟩:=hr;rfl
def BGp9 (args:List AV) (K:AV→Prop):Prop:=∃l:List UseT,args= [.d (.sl 4 (rowsU l))]∧l.length≤1000000∧K (.d (.sl 4 (rowsU l)))
theorem ASc9:∀args K,BGp9 args K→∃x,PCall prog 93 args x∧K x:=by
 rintro _ K ⟨l,rfl,hl,hk⟩;exact ⟨_,ASl9.pc BTk9 (rowsU l) (by rw [AAi9];exact hl) (BNk9 l),hk⟩
theorem AWd9:Tryz.f131.body=some (code f131):=by rfl
def delVG (v':Nat) (fr:Int) (hs:List GraT):Nat:=if (hs.findIdx? (fun x:GraT=>decide (x.un<fr))).isSome then v'+1 else v'
theorem CAq9 (Ev:Env prog):CX.Ok Ev ⟨TDfG,UDfG,wlDfG Ev.Y,Ev.Y,false⟩:=
 CX.Ok.ofWl BPk9 BPi9 (BWm9 (X:=⟨TDfG,UDfG,fun _ _ _ _ _=>False,Ev.Y,false⟩) (CX.Ok.ofWl BPk9 BPi9 fun _ _ _ _ _ h=>h.elim) BIr9)
theorem BXy9 (fr:Int):SCall prog 131 [.d (.sl 5 []), .fn (.func 132) [] [.ptr 1 0, .ptr 0 0]] [boxA (.fn (.func 95) [] []),boxA (.fn (.func 96) [] [.rptr [i64 fr]])] (.d (.sl 5 [])) [boxA (.fn (.func 95) [] []),boxA (.fn (.func 96) [] [.rptr [i64 fr]])]:=by
 refine Zfz func131 AWd9 (by rfl) fun Ev b=> ?_
 refine AAu9 (X:=⟨TDfG,UDfG,wlDfG Ev.Y,Ev.Y,false⟩) (n:=100) mixed (CAq9 Ev) ?_ fun e tm hp b hK=>AEv9 hK
 rw [BTv9]
 exact ⟨[],fr, -1,rfl,⟨by simp,rfl⟩,Zbg (by decide) ⟨rfl,rfl⟩⟩
theorem CCw9 (v':Nat) (fr:Int) (hs:List GraT) (hl:hs.length<1000000):
   SCall prog 131 [.gref 2 v' hs.length 5, .fn (.func 132) [] [.ptr 1 0, .ptr 0 0]] (hpDfG fr v' (flatA (rowsG hs))) (.gref 2 (delVG v' fr hs) (hs.filter (fun x:GraT=> !(fun x:GraT=>decide (x.un<fr)) x)).length 5) (hpDfG fr (delVG v' fr hs) (flatA (rowsG (hs.filter (fun x:GraT=> !(fun x:GraT=>decide (x.un<fr)) x))))):=by
 refine Zfz func131 AWd9 (by rfl) fun Ev b=> ?_
 refine AAu9 (X:=⟨TDfG,UDfG,wlDfG Ev.Y,Ev.Y,false⟩) (n:=100) mixed (CAq9 Ev) ?_ fun e tm hp b hK=>AEv9 hK
 refine Eq.mpr (CAp9 _ _ _ v' hs.length fr _) ?_
 refine ⟨rfl,rowsG hs,rfl,AAh9 hs,AQn9 hs,hs,fr,_,rfl,⟨by omega,rfl⟩,Zbh (fun h1=> ?_) fun h1=> ?_⟩
 · have hn:hs.findIdx? (fun x:GraT=>decide (x.un<fr))=none:=by
     cases hf:hs.findIdx? (fun x:GraT=>decide (x.un<fr)) with
     |none=>rfl
     |some j=>rw [AAg9 hf] at h1;simp at h1
   rw [delVG,hn,BEq9 hn]
   exact ⟨rfl,rfl⟩
 · cases hf:hs.findIdx? (fun x:GraT=>decide (x.un<fr)) with
   |none=>rw [AAy9 hf] at h1;simp at h1
   | some j=>
     have hle:(hs.filter (fun x:GraT=> !(fun x:GraT=>decide (x.un<fr)) x)).length≤hs.length:=Zdu _ _
     refine ⟨v',fr,_,_,hs,_,rfl,rfl,rfl,⟨hl,by rw [AAg9 hf];omega,rfl,rfl,rfl⟩,fun cur hcl hct=>⟨rfl,Zbg (by simp;exact hle) (Zbg (by simp;exact hle) ⟨rfl, ?_⟩)⟩⟩
     rw [Zcu,delVG,hf]
     refine ⟨rfl, ?_⟩
     have hcur:flatA (rowsG cur)=flatA (cur.map graR):=rfl
     have e:((flatA (rowsG cur)).take ((hs.filter (fun x:GraT=> !(fun x:GraT=>decide (x.un<fr)) x)).length*5)).length=(hs.filter (fun x:GraT=> !(fun x:GraT=>decide (x.un<fr)) x)).length*5:=by
       rw [Zdb,hcur,AZa9 AFp9,hcl];omega
     rw [Zel (by rw [e];exact Zau _),List.take_take,Nat.min_self,hcur,ARv9 AFp9,hct]
     rfl
def sDelG (args:List AV) (hp:List Blk) (K:AV→List Blk→Prop):Prop:=match hp with
 | [b0,b1]=>∃(fr:Int),args= [.d (.sl 5 []), .fn (.func 132) [] [.ptr 1 0, .ptr 0 0]]∧b0=boxA (.fn (.func 95) [] [])∧b1=boxA (.fn (.func 96) [] [.rptr [i64 fr]])∧K (.d (.sl 5 [])) [boxA (.fn (.func 95) [] []),boxA (.fn (.func 96) [] [.rptr [i64 fr]])]
 | [b0,b1,b2]=>∃(v' n:Nat) (fr:Int) (hs out:List GraT),args= [.gref 2 v' n 5, .fn (.func 132) [] [.ptr 1 0, .ptr 0 0]]∧b0=boxA (.fn (.func 95) [] [])∧b1=boxA (.fn (.func 96) [] [.rptr [i64 fr]])∧b2=growB v' (flatA (rowsG hs))∧(n=hs.length∧hs.length<1000000∧out=hs.filter (fun x:GraT=> !(fun x:GraT=>decide (x.un<fr)) x))∧
   ∀v',K (.gref 2 v' out.length 5) [boxA (.fn (.func 95) [] []),boxA (.fn (.func 96) [] [.rptr [i64 fr]]),growB v' (flatA (rowsG out))]
 |_=>False
theorem BRc9:∀args hp K,sDelG args hp K→∃x hp',SCall prog 131 args hp x hp'∧K x hp':=by
 intro args hp K h
 unfold sDelG at h
 split at h
 · obtain ⟨fr,rfl,rfl,rfl,h⟩:=h
   exact ⟨_,_,BXy9 fr,h⟩
 · obtain ⟨v',_,fr,hs,_,rfl,rfl,rfl,rfl,⟨rfl,hl,rfl⟩,h⟩:=h
   exact ⟨_,_,CCw9 v' fr hs hl,h _⟩
 · exact h.elim
def UWoG:List (Nat×(List AV→List Blk→(AV→List Blk→Prop)→Prop)):= [(1000000+59,fun _ _ _=>False),(48,BCi9),(131,sDelG)]
theorem CBp9:AAk9 prog UWoG:=Zbw (fun _ _ _ h=>h.elim) (Zbw AQl9 (Zbw BRc9 Zah))
theorem CCq9 (hs:List GraT) (fr:Int):wpFn prog ⟨[],UWoG,wl,y,false⟩ 100 f94 [.d (.sl 5 (rowsG hs)), .fn (.func 95) [] [], .fn (.func 96) [] [.rptr [i64 fr]]] b R=(∃(hs0:List GraT), [Zab (Zaf 5 (rowsG hs))]= [Zab (Zaf 5 (rowsG hs0))]∧Zaa hs0≤1000000∧BIf (List.isEmpty hs0) (∃(fr1:Int), [Zab (Zaf 5 []),Zat (Fn.func 132) [] [Zak 1 0,Zak 0 0]]= [Zab (Zaf 5 []),Zat (Fn.func 132) [] [Zak 1 0,Zak 0 0]]∧Blk.mk [Zat (Fn.func 95) [] []] false false 0=Blk.mk [Zat (Fn.func 95) [] []] false false 0∧Blk.mk [Zat (Fn.func 96) [] [Zag [i64 fr]]] false false 0=Blk.mk [Zat (Fn.func 96) [] [Zag [i64 fr1]]] false false 0∧R (.d (Zaf 5 [])) b) (∃(v2:Nat) (n3:Nat) (fr4:Int) (hs5:List GraT) (out6:List GraT), [Zbu 2 0 (Zaa hs0) 5,Zat (Fn.func 132) [] [Zak 1 0,Zak 0 0]]= [Zbu 2 v2 n3 5,Zat (Fn.func 132) [] [Zak 1 0,Zak 0 0]]∧Blk.mk [Zat (Fn.func 95) [] []] false false 0=Blk.mk [Zat (Fn.func 95) [] []] false false 0∧Blk.mk [Zat (Fn.func 96) [] [Zag [i64 fr]]] false false 0=Blk.mk [Zat (Fn.func 96) [] [Zag [i64 fr4]]] false false 0∧Blk.mk (flatA (rowsG hs0)) false true 0=Blk.mk (flatA (rowsG hs5)) false true v2∧(n3=Zaa hs5∧Zaa hs5<1000000∧out6=Zcg (fun (x7:GraT)=> !decide (Zdm x7<fr4)) hs5)∧∀(v':Nat),v'=v'∧∃(xs8:List (List Dv)),flatA (rowsG out6)=flatA xs8∧Zaa xs8=Zaa out6∧(∀(r:List Dv),r∈xs8→Zaa r=5)∧R (.d (Zaf 5 xs8)) b)):=by kernel_rfl
theorem pcWoG (hs:List GraT) (fr:Int) (hl:hs.length<1000000):PCall prog 94 [.d (.sl 5 (rowsG hs)), .fn (.func 95) [] [], .fn (.func 96) [] [.rptr [i64 fr]]] (.d (.sl 5 (rowsG (hs.filter (fun x:GraT=> !(fun x:GraT=>decide (x.un<fr)) x))))):=by
 refine Zbe (n:=100) (u:=false) mixed Zal CBp9 func94 (by rfl) (by rfl) fun Ev bb=> ?_
 rw [CCq9]
 refine ⟨hs,rfl,by omega,Zbh (fun h1=> ?_) fun h1=> ?_⟩
 · have h2:hs= []:=List.isEmpty_iff.1 h1
   subst h2
   exact ⟨fr,rfl,rfl,rfl,rfl⟩
 · refine ⟨0,_,fr,hs,_,rfl,rfl,rfl,rfl,⟨rfl,hl,rfl⟩,fun v'=>⟨rfl,rowsG (hs.filter (fun x:GraT=> !(fun x:GraT=>decide (x.un<fr)) x)),rfl,AAh9 _,AQn9 _,rfl⟩⟩
def cWoG (args:List AV) (K:AV→Prop):Prop:=∃(hs z:List GraT) (fr:Int),args= [.d (.sl 5 (rowsG hs)), .fn (.func 95) [] [], .fn (.func 96) [] [.rptr [i64 fr]]]∧(hs.length<1000000∧z=hs.filter (fun x:GraT=> !(fun x:GraT=>decide (x.un<fr)) x))∧K (.d (.sl 5 (rowsG z)))
theorem CAw9:∀args K,cWoG args K→∃x,PCall prog 94 args x∧K x:=by
 rintro _ K ⟨hs,_,fr,rfl,⟨hl,rfl⟩,hk⟩;exact ⟨_,pcWoG hs fr hl,hk⟩
theorem AWe9:Tryz.f147.body=some (code f147):=by rfl
def delVA (v':Nat) (sl:Int) (hs:List AskT):Nat:=if (hs.findIdx? (fun x:AskT=>x.sl==sl)).isSome then v'+1 else v'
theorem CAs9 (Ev:Env prog):CX.Ok Ev ⟨TDfA,UDfA,wlDfA Ev.Y,Ev.Y,false⟩:=
 CX.Ok.ofWl BPl9 BPj9 (BWm9 (X:=⟨TDfA,UDfA,fun _ _ _ _ _=>False,Ev.Y,false⟩) (CX.Ok.ofWl BPl9 BPj9 fun _ _ _ _ _ h=>h.elim) BIs9)
theorem BXz9 (sl:Int):SCall prog 147 [.d (.sl 3 []), .fn (.func 148) [] [.ptr 1 0, .ptr 0 0]] [boxA (.fn (.func 118) [] []),boxA (.fn (.func 138) [] [.rptr [i64 sl]])] (.d (.sl 3 [])) [boxA (.fn (.func 118) [] []),boxA (.fn (.func 138) [] [.rptr [i64 sl]])]:=by
 refine Zfz func147 AWe9 (by rfl) fun Ev b=> ?_
 refine AAu9 (X:=⟨TDfA,UDfA,wlDfA Ev.Y,Ev.Y,false⟩) (n:=100) mixed (CAs9 Ev) ?_ fun e tm hp b hK=>AEv9 hK
 rw [BTw9]
 exact ⟨[],sl, -1,rfl,⟨by simp,rfl⟩,Zbg (by decide) ⟨rfl,rfl⟩⟩
theorem CCx9 (v':Nat) (sl:Int) (hs:List AskT) (hl:hs.length<1000000):
   SCall prog 147 [.gref 2 v' hs.length 3, .fn (.func 148) [] [.ptr 1 0, .ptr 0 0]] (hpDfA sl v' (flatA (rowsA hs))) (.gref 2 (delVA v' sl hs) (hs.filter (fun x:AskT=> !(fun x:AskT=>x.sl==sl) x)).length 3) (hpDfA sl (delVA v' sl hs) (flatA (rowsA (hs.filter (fun x:AskT=> !(fun x:AskT=>x.sl==sl) x))))):=by
 refine Zfz func147 AWe9 (by rfl) fun Ev b=> ?_
 refine AAu9 (X:=⟨TDfA,UDfA,wlDfA Ev.Y,Ev.Y,false⟩) (n:=100) mixed (CAs9 Ev) ?_ fun e tm hp b hK=>AEv9 hK
 refine Eq.mpr (CAr9 _ _ _ v' hs.length sl _) ?_
 refine ⟨rfl,rowsA hs,rfl,AAx9 hs,ANb9 hs,hs,sl,_,rfl,⟨by omega,rfl⟩,Zbh (fun h1=> ?_) fun h1=> ?_⟩
 · have hn:hs.findIdx? (fun x:AskT=>x.sl==sl)=none:=by
     cases hf:hs.findIdx? (fun x:AskT=>x.sl==sl) with
     |none=>rfl
     |some j=>rw [AAg9 hf] at h1;simp at h1
   rw [delVA,hn,BEq9 hn]
   exact ⟨rfl,rfl⟩
 · cases hf:hs.findIdx? (fun x:AskT=>x.sl==sl) with
   |none=>rw [AAy9 hf] at h1;simp at h1
   | some j=>
     have hle:(hs.filter (fun x:AskT=> !(fun x:AskT=>x.sl==sl) x)).length≤hs.length:=Zdu _ _
     refine ⟨v',sl,_,_,hs,_,rfl,rfl,rfl,⟨hl,by rw [AAg9 hf];omega,rfl,rfl,rfl⟩,fun cur hcl hct=>⟨rfl,Zbg (by simp;exact hle) (Zbg (by simp;exact hle) ⟨rfl, ?_⟩)⟩⟩
     rw [Zcu,delVA,hf]
     refine ⟨rfl, ?_⟩
     have hcur:flatA (rowsA cur)=flatA (cur.map askR):=rfl
     have e:((flatA (rowsA cur)).take ((hs.filter (fun x:AskT=> !(fun x:AskT=>x.sl==sl) x)).length*3)).length=(hs.filter (fun x:AskT=> !(fun x:AskT=>x.sl==sl) x)).length*3:=by
       rw [Zdb,hcur,AZa9 AMe9,hcl];omega
     rw [Zel (by rw [e];exact Zau _),List.take_take,Nat.min_self,hcur,ARv9 AMe9,hct]
     rfl
def sDelA (args:List AV) (hp:List Blk) (K:AV→List Blk→Prop):Prop:=match hp with
 | [b0,b1]=>∃(sl:Int),args= [.d (.sl 3 []), .fn (.func 148) [] [.ptr 1 0, .ptr 0 0]]∧b0=boxA (.fn (.func 118) [] [])∧b1=boxA (.fn (.func 138) [] [.rptr [i64 sl]])∧K (.d (.sl 3 [])) [boxA (.fn (.func 118) [] []),boxA (.fn (.func 138) [] [.rptr [i64 sl]])]
 | [b0,b1,b2]=>∃(v' n:Nat) (sl:Int) (hs out:List AskT),args= [.gref 2 v' n 3, .fn (.func 148) [] [.ptr 1 0, .ptr 0 0]]∧b0=boxA (.fn (.func 118) [] [])∧b1=boxA (.fn (.func 138) [] [.rptr [i64 sl]])∧b2=growB v' (flatA (rowsA hs))∧(n=hs.length∧hs.length<1000000∧out=hs.filter (fun x:AskT=> !(fun x:AskT=>x.sl==sl) x))∧
   ∀v',K (.gref 2 v' out.length 3) [boxA (.fn (.func 118) [] []),boxA (.fn (.func 138) [] [.rptr [i64 sl]]),growB v' (flatA (rowsA out))]
 |_=>False
theorem BRd9:∀args hp K,sDelA args hp K→∃x hp',SCall prog 147 args hp x hp'∧K x hp':=by
 intro args hp K h
 unfold sDelA at h
 split at h
 · obtain ⟨sl,rfl,rfl,rfl,h⟩:=h
   exact ⟨_,_,BXz9 sl,h⟩
 · obtain ⟨v',_,sl,hs,_,rfl,rfl,rfl,rfl,⟨rfl,hl,rfl⟩,h⟩:=h
   exact ⟨_,_,CCx9 v' sl hs hl,h _⟩
 · exact h.elim
def UWoA:List (Nat×(List AV→List Blk→(AV→List Blk→Prop)→Prop)):= [(1000000+63,fun _ _ _=>False),(97,BNj9),(147,sDelA)]
theorem CBq9:AAk9 prog UWoA:=Zbw (fun _ _ _ h=>h.elim) (Zbw BCj9 (Zbw BRd9 Zah))
theorem CCr9 (hs:List AskT) (sl:Int):wpFn prog ⟨[],UWoA,wl,y,false⟩ 100 f137 [.d (.sl 3 (rowsA hs)), .fn (.func 118) [] [], .fn (.func 138) [] [.rptr [i64 sl]]] b R=(∃(hs0:List AskT), [Zab (Zaf 3 (rowsA hs))]= [Zab (Zaf 3 (rowsA hs0))]∧Zaa hs0≤1000000∧BIf (List.isEmpty hs0) (∃(sl1:Int), [Zab (Zaf 3 []),Zat (Fn.func 148) [] [Zak 1 0,Zak 0 0]]= [Zab (Zaf 3 []),Zat (Fn.func 148) [] [Zak 1 0,Zak 0 0]]∧Blk.mk [Zat (Fn.func 118) [] []] false false 0=Blk.mk [Zat (Fn.func 118) [] []] false false 0∧Blk.mk [Zat (Fn.func 138) [] [Zag [i64 sl]]] false false 0=Blk.mk [Zat (Fn.func 138) [] [Zag [i64 sl1]]] false false 0∧R (.d (Zaf 3 [])) b) (∃(v2:Nat) (n3:Nat) (sl4:Int) (hs5:List AskT) (out6:List AskT), [Zbu 2 0 (Zaa hs0) 3,Zat (Fn.func 148) [] [Zak 1 0,Zak 0 0]]= [Zbu 2 v2 n3 3,Zat (Fn.func 148) [] [Zak 1 0,Zak 0 0]]∧Blk.mk [Zat (Fn.func 118) [] []] false false 0=Blk.mk [Zat (Fn.func 118) [] []] false false 0∧Blk.mk [Zat (Fn.func 138) [] [Zag [i64 sl]]] false false 0=Blk.mk [Zat (Fn.func 138) [] [Zag [i64 sl4]]] false false 0∧Blk.mk (flatA (rowsA hs0)) false true 0=Blk.mk (flatA (rowsA hs5)) false true v2∧(n3=Zaa hs5∧Zaa hs5<1000000∧out6=Zcg (fun (x7:AskT)=> !AskT.sl x7==sl4) hs5)∧∀(v':Nat),v'=v'∧∃(xs8:List (List Dv)),flatA (rowsA out6)=flatA xs8∧Zaa xs8=Zaa out6∧(∀(r:List Dv),r∈xs8→Zaa r=3)∧R (.d (Zaf 3 xs8)) b)):=by kernel_rfl
theorem pcWoA (hs:List AskT) (sl:Int) (hl:hs.length<1000000):PCall prog 137 [.d (.sl 3 (rowsA hs)), .fn (.func 118) [] [], .fn (.func 138) [] [.rptr [i64 sl]]] (.d (.sl 3 (rowsA (hs.filter (fun x:AskT=> !(fun x:AskT=>x.sl==sl) x))))):=by
 refine Zbe (n:=100) (u:=false) mixed Zal CBq9 func137 (by rfl) (by rfl) fun Ev bb=> ?_
 rw [CCr9]
 refine ⟨hs,rfl,by omega,Zbh (fun h1=> ?_) fun h1=> ?_⟩
 · have h2:hs= []:=List.isEmpty_iff.1 h1
   subst h2
   exact ⟨sl,rfl,rfl,rfl,rfl⟩
 · refine ⟨0,_,sl,hs,_,rfl,rfl,rfl,rfl,⟨rfl,hl,rfl⟩,fun v'=>⟨rfl,rowsA (hs.filter (fun x:AskT=> !(fun x:AskT=>x.sl==sl) x)),rfl,AAx9 _,ANb9 _,rfl⟩⟩
def cWoA (args:List AV) (K:AV→Prop):Prop:=∃(hs z:List AskT) (sl:Int),args= [.d (.sl 3 (rowsA hs)), .fn (.func 118) [] [], .fn (.func 138) [] [.rptr [i64 sl]]]∧(hs.length<1000000∧z=hs.filter (fun x:AskT=> !(fun x:AskT=>x.sl==sl) x))∧K (.d (.sl 3 (rowsA z)))
theorem CAx9:∀args K,cWoA args K→∃x,PCall prog 137 args x∧K x:=by
 rintro _ K ⟨hs,_,sl,rfl,⟨hl,rfl⟩,hk⟩;exact ⟨_,pcWoA hs sl hl,hk⟩
def TEx:List (Nat×(List AV→(AV→Prop)→Prop)):= [(93,BGp9),(97,BOs9),(94,cWoG)]
theorem CFb9:AAb9 prog TEx:=Zai ASc9 (Zai BGr9 (Zai CAw9 Zal))
def TUa:List (Nat×(List AV→(AV→Prop)→Prop)):= [(137,cWoA)]
theorem CEk9:AAb9 prog TUa:=Zai CAx9 Zal
abbrev Qz64 (v0:List UseT) (v1:List GraT) (v2:List AskT):List AV:= [Zab (Zaf 4 (rowsU v0)),Zab (Zaf 5 (rowsG v1)),Zab (Zaf 3 (rowsA v2))]
theorem BLc9 (t:TabT) (fr:Int):wpFn prog ⟨TEx, [],wl,y,false⟩ 100 f47 [tabA t, .d (i64 fr)] b R=(∃(l0:List UseT), [Zab (Zaf 4 (rowsU (Zbj t)))]= [Zab (Zaf 4 (rowsU l0))]∧Zaa l0≤1000000∧∃(hs1:List GraT) (z2:List GraT) (fr3:Int), [Zab (Zaf 5 (rowsG (Zbl t))),Zat (Fn.func 95) [] [],Zat (Fn.func 96) [] [Zag [i64 fr]]]= [Zab (Zaf 5 (rowsG hs1)),Zat (Fn.func 95) [] [],Zat (Fn.func 96) [] [Zag [i64 fr3]]]∧(Zaa hs1<1000000∧z2=Zcg (fun (x4:GraT)=> !decide (Zdm x4<fr3)) hs1)∧∃(l5:List AskT), [Zab (Zaf 3 (rowsA (Zbo t)))]= [Zab (Zaf 3 (rowsA l5))]∧Zaa l5≤1000000∧R (.agg (Qz64 l0 z2 l5)) b):=by kernel_rfl
theorem BBt9 (t:TabT) (sl:Int):wpFn prog ⟨TUa, [],wl,y,false⟩ 100 f105 [tabA t, .d (i64 sl)] b R=(∃(hs0:List AskT) (z1:List AskT) (sl2:Int), [Zab (Zaf 3 (rowsA (Zbo t))),Zat (Fn.func 118) [] [],Zat (Fn.func 138) [] [Zag [i64 sl]]]= [Zab (Zaf 3 (rowsA hs0)),Zat (Fn.func 118) [] [],Zat (Fn.func 138) [] [Zag [i64 sl2]]]∧(Zaa hs0<1000000∧z1=Zcg (fun (x3:AskT)=> !AskT.sl x3==sl2) hs0)∧R (.d (Zaf 3 (rowsA z1))) b):=by kernel_rfl
def TabLt (t:TabT):Prop:=t.us.length<1000000∧t.gs.length<1000000∧t.ak.length<1000000
def ADn9 (t:TabT) (fr:Int):TabT:=⟨t.us,t.gs.filter fun x=> !decide (x.un<fr),t.ak⟩
theorem BRs9 (t:TabT) (fr:Int) (h:TabLt t):PCall prog 47 [tabA t, .d (i64 fr)] (tabA (ADn9 t fr)):=by
 refine Zbe (n:=100) (u:=false) mixed CFb9 Zah func47 (by rfl) (by rfl) fun Ev bb=> ?_
 rw [BLc9]
 exact ⟨t.us,rfl,by have:=h.1;omega,t.gs,_,fr,rfl,⟨h.2.1,rfl⟩,t.ak,rfl,by have:=h.2.2;omega,rfl⟩
def BOo9 (args:List AV) (K:AV→Prop):Prop:=∃(t z:TabT) (fr:Int),args= [tabA t, .d (i64 fr)]∧(TabLt t∧z=ADn9 t fr)∧K (tabA z)
theorem BGk9:∀args K,BOo9 args K→∃x,PCall prog 47 args x∧K x:=by
 rintro _ K ⟨t,_,fr,rfl,⟨h,rfl⟩,hk⟩;exact ⟨_,BRs9 t fr h,hk⟩
def AGs9 (t:TabT) (sl:Int):List AskT:=t.ak.filter fun x=> !(x.sl==sl)
theorem BYw9 (t:TabT) (sl:Int) (h:TabLt t):PCall prog 105 [tabA t, .d (i64 sl)] (.d (.sl 3 (rowsA (AGs9 t sl)))):=by
 refine Zbe (n:=100) (u:=false) mixed CEk9 Zah func105 (by rfl) (by rfl) fun Ev bb=> ?_
 rw [BBt9]
 exact ⟨t.ak,_,sl,rfl,⟨h.2.2,rfl⟩,rfl⟩
def BUg9 (args:List AV) (K:AV→Prop):Prop:=∃(t:TabT) (z:List AskT) (sl:Int),args= [tabA t, .d (i64 sl)]∧(TabLt t∧z=AGs9 t sl)∧K (.d (.sl 3 (rowsA z)))
theorem AWg9:∀args K,BUg9 args K→∃x,PCall prog 105 args x∧K x:=by
 rintro _ K ⟨t,_,sl,rfl,⟨h,rfl⟩,hk⟩;exact ⟨_,BYw9 t sl h,hk⟩
def nilSl:AV:= .d (.s (.slice none 0 0))
theorem BTe9 (n:Int):wpFnS prog ⟨[],GCG,wl,y,false⟩ 100 f146 [nilSl, .d (i64 n)] b Kr=(BIf (decide (n<(0:Int))) False (BIf (decide (Zae .i64 (n - 0)>(0:Int))) (BIf (true&&decide ((0:Int)<Zae .i64 (n - 0))&&decide (Zae .i64 (n - 0)*(40:Int)≤(281474976710656:Int))&&decide (Zae .i64 (n - 0)≤(9223372036854775807:Int))&&true&&true&&true&&true) (0=0∧Kr (Zbu 0 1 0 5) [Blk.mk [] false true 1] b) False) (Kr (Zab (Zdc (.slice none 0 0))) [] b))):=by kernel_rfl
theorem BTd9 (n:Int):wpFnS prog ⟨[],GCU,wl,y,false⟩ 100 f149 [nilSl, .d (i64 n)] b Kr=(BIf (decide (n<(0:Int))) False (BIf (decide (Zae .i64 (n - 0)>(0:Int))) (BIf (true&&decide ((0:Int)<Zae .i64 (n - 0))&&decide (Zae .i64 (n - 0)*(32:Int)≤(281474976710656:Int))&&decide (Zae .i64 (n - 0)≤(9223372036854775807:Int))&&true&&true&&true&&true) (0=0∧Kr (Zbu 0 1 0 4) [Blk.mk [] false true 1] b) False) (Kr (Zab (Zdc (.slice none 0 0))) [] b))):=by kernel_rfl
theorem CAj9 (n:Int) (h0:0<n) (hn:n≤1000000):FCall prog 146 [nilSl, .d (i64 n)] (.gref 0 1 0 5) [growB 1 []]:=by
 refine FCall.ofFnW (n:=100) (u:=false) (fun _=>fun _ _ _ _ _=>False) mixed Zal BAg9 (fun Ev _ _ _ _ _ h=>h.elim) func146 (by rfl) (by rfl) (by rfl) fun Ev bb=> ?_
 rw [BTe9]
 have e:Zae Zay (n - 0)=n:=by rw [AAt9 (by omega) (by omega)];omega
 rw [e]
 refine Zdl (by simp<;>omega) (Zbg (by simp<;>omega) (Zbg ?_ ⟨rfl,rfl,rfl⟩))
 simp only [Bool.and_true,Bool.true_and,Zaj,decide_eq_true_eq];omega
theorem CAi9 (n:Int) (h0:0<n) (hn:n≤1000000):FCall prog 149 [nilSl, .d (i64 n)] (.gref 0 1 0 4) [growB 1 []]:=by
 refine FCall.ofFnW (n:=100) (u:=false) (fun _=>fun _ _ _ _ _=>False) mixed Zal BVy9 (fun Ev _ _ _ _ _ h=>h.elim) func149 (by rfl) (by rfl) (by rfl) fun Ev bb=> ?_
 rw [BTd9]
 have e:Zae Zay (n - 0)=n:=by rw [AAt9 (by omega) (by omega)];omega
 rw [e]
 refine Zdl (by simp<;>omega) (Zbg (by simp<;>omega) (Zbg ?_ ⟨rfl,rfl,rfl⟩))
 simp only [Bool.and_true,Bool.true_and,Zaj,decide_eq_true_eq];omega
def BYc9 (args:List AV) (hp:List Blk) (K:AV→List Blk→Prop):Prop:=∃(n:Int),args= [nilSl, .d (i64 n)]∧(0<n∧n≤1000000)∧K (.gref hp.length 1 0 5) (hp++ [growB 1 []])
theorem BJd9:∀args hp K,BYc9 args hp K→∃x hp',SCall prog 146 args hp x hp'∧K x hp':=by
 rintro _ hp K ⟨n,rfl,⟨h0,hn⟩,h⟩
 exact ⟨_,_,(CAj9 n h0 hn).toS rfl hp,by simpa [shift,AJk9,AFz9,AQi9,growB] using h⟩
def BYb9 (args:List AV) (hp:List Blk) (K:AV→List Blk→Prop):Prop:=∃(n:Int),args= [nilSl, .d (i64 n)]∧(0<n∧n≤1000000)∧K (.gref hp.length 1 0 4) (hp++ [growB 1 []])
theorem BJc9:∀args hp K,BYb9 args hp K→∃x hp',SCall prog 149 args hp x hp'∧K x hp':=by
 rintro _ hp K ⟨n,rfl,⟨h0,hn⟩,h⟩
 exact ⟨_,_,(CAi9 n h0 hn).toS rfl hp,by simpa [shift,AJk9,AFz9,AQi9,growB] using h⟩
def UCoG:List (Nat×(List AV→List Blk→(AV→List Blk→Prop)→Prop)):= [(146,BYc9),(1000059,fun _ _ _=>False)]
theorem CBw9:AAk9 prog UCoG:=Zbw BJd9 BAg9
def UCoU:List (Nat×(List AV→List Blk→(AV→List Blk→Prop)→Prop)):= [(149,BYb9),(1000061,fun _ _ _=>False)]
theorem CBv9:AAk9 prog UCoU:=Zbw BJc9 BVy9
theorem BTz9 (x z m:List (List Dv)):wpFn prog ⟨[],UCoG,wl,y,true⟩ 1000 f136 [.full 1 [[.sl 5 x], [.sl 5 z], [.sl 5 m]]] b R=(∃(xs0:List (List Dv)),some [Zaf 5 x]=some [Zaf 5 xs0]∧BIf (decide (Zae .i64 ((0:Int)+((Zaa xs0:Nat):Int))<(0:Int))) False (∃(xs1:List (List Dv)),some [Zaf 5 z]=some [Zaf 5 xs1]∧BIf (decide (Zae .i64 (Zae .i64 ((0:Int)+((Zaa xs0:Nat):Int))+((Zaa xs1:Nat):Int))<(0:Int))) False (∃(xs2:List (List Dv)),some [Zaf 5 m]=some [Zaf 5 xs2]∧BIf (decide (Zae .i64 (Zae .i64 (Zae .i64 ((0:Int)+((Zaa xs0:Nat):Int))+((Zaa xs1:Nat):Int))+((Zaa xs2:Nat):Int))<(0:Int))) False (∃(n3:Int), [Zab (Zdc (.slice none 0 0)),Zab (i64 (Zae .i64 (Zae .i64 (Zae .i64 ((0:Int)+((Zaa xs0:Nat):Int))+((Zaa xs1:Nat):Int))+((Zaa xs2:Nat):Int))))]= [Zab (Zdc (.slice none 0 0)),Zab (i64 n3)]∧((0:Int)<n3∧n3≤(1000000:Int))∧∃(xs4:List (List Dv)),some [Zaf 5 x]=some [Zaf 5 xs4]∧1=1∧BIf (decide ((0+Zaa xs4)*40≤140737488355328)) (∃(xs5:List (List Dv)),some [Zaf 5 z]=some [Zaf 5 xs5]∧2=2∧BIf (decide ((0+Zaa xs4+Zaa xs5)*40≤140737488355328)) (∃(xs6:List (List Dv)),some [Zaf 5 m]=some [Zaf 5 xs6]∧3=3∧BIf (decide ((0+Zaa xs4+Zaa xs5+Zaa xs6)*40≤140737488355328)) (4=4∧∃(xs7:List (List Dv)), []++flatA xs4++flatA xs5++flatA xs6=flatA xs7∧Zaa xs7=0+Zaa xs4+Zaa xs5+Zaa xs6∧(∀(r:List Dv),r∈xs7→Zaa r=5)∧R (.d (Zaf 5 xs7)) b) False) False) False)))):=by kernel_rfl
theorem BTy9 (x z m:List (List Dv)):wpFn prog ⟨[],UCoU,wl,y,true⟩ 1000 f140 [.full 1 [[.sl 4 x], [.sl 4 z], [.sl 4 m]]] b R=(∃(xs0:List (List Dv)),some [Zaf 4 x]=some [Zaf 4 xs0]∧BIf (decide (Zae .i64 ((0:Int)+((Zaa xs0:Nat):Int))<(0:Int))) False (∃(xs1:List (List Dv)),some [Zaf 4 z]=some [Zaf 4 xs1]∧BIf (decide (Zae .i64 (Zae .i64 ((0:Int)+((Zaa xs0:Nat):Int))+((Zaa xs1:Nat):Int))<(0:Int))) False (∃(xs2:List (List Dv)),some [Zaf 4 m]=some [Zaf 4 xs2]∧BIf (decide (Zae .i64 (Zae .i64 (Zae .i64 ((0:Int)+((Zaa xs0:Nat):Int))+((Zaa xs1:Nat):Int))+((Zaa xs2:Nat):Int))<(0:Int))) False (∃(n3:Int), [Zab (Zdc (.slice none 0 0)),Zab (i64 (Zae .i64 (Zae .i64 (Zae .i64 ((0:Int)+((Zaa xs0:Nat):Int))+((Zaa xs1:Nat):Int))+((Zaa xs2:Nat):Int))))]= [Zab (Zdc (.slice none 0 0)),Zab (i64 n3)]∧((0:Int)<n3∧n3≤(1000000:Int))∧∃(xs4:List (List Dv)),some [Zaf 4 x]=some [Zaf 4 xs4]∧1=1∧BIf (decide ((0+Zaa xs4)*32≤140737488355328)) (∃(xs5:List (List Dv)),some [Zaf 4 z]=some [Zaf 4 xs5]∧2=2∧BIf (decide ((0+Zaa xs4+Zaa xs5)*32≤140737488355328)) (∃(xs6:List (List Dv)),some [Zaf 4 m]=some [Zaf 4 xs6]∧3=3∧BIf (decide ((0+Zaa xs4+Zaa xs5+Zaa xs6)*32≤140737488355328)) (4=4∧∃(xs7:List (List Dv)), []++flatA xs4++flatA xs5++flatA xs6=flatA xs7∧Zaa xs7=0+Zaa xs4+Zaa xs5+Zaa xs6∧(∀(r:List Dv),r∈xs7→Zaa r=4)∧R (.d (Zaf 4 xs7)) b) False) False) False)))):=by kernel_rfl
theorem BZh9 (x z m:List GraT) (h0:0<x.length+z.length+m.length) (hl:x.length+z.length+m.length≤1000000):
   PCall prog 136 [.full 1 [[.sl 5 (rowsG x)], [.sl 5 (rowsG z)], [.sl 5 (rowsG m)]]] (.d (.sl 5 (rowsG (x++z++m)))):=by
 refine Zbe (n:=1000) (u:=true) mixed Zal CBw9 func136 (by rfl) (by rfl) fun Ev bb=> ?_
 rw [BTz9]
 have e1:Zae Zay ((0:Int)+(((rowsG x).length:Nat):Int))=((x.length:Nat):Int):=by rw [AAh9,AAt9 (by omega) (by omega)];omega
 have e2:Zae Zay (((x.length:Nat):Int)+(((rowsG z).length:Nat):Int))=((x.length+z.length:Nat):Int):=by rw [AAh9,AAt9 (by omega) (by omega)];omega
 have e3:Zae Zay (((x.length+z.length:Nat):Int)+(((rowsG m).length:Nat):Int))=((x.length+z.length+m.length:Nat):Int):=by rw [AAh9,AAt9 (by omega) (by omega)];omega
 refine ⟨rowsG x,rfl, ?_⟩
 rw [e1]
 refine Zdl (by simp) ⟨rowsG z,rfl, ?_⟩
 rw [e2]
 refine Zdl (by simp;omega) ⟨rowsG m,rfl, ?_⟩
 rw [e3]
 refine Zdl (by simp;omega) ⟨_,rfl,⟨by omega,by omega⟩,rowsG x,rfl,rfl,Zbg (by rw [AAh9];simp;omega) ⟨rowsG z,rfl,rfl,Zbg (by rw [AAh9,AAh9];simp;omega) ⟨rowsG m,rfl,rfl,Zbg (by rw [AAh9,AAh9,AAh9];simp;omega) ⟨rfl,rowsG (x++z++m), ?_, ?_,AQn9 _,rfl⟩⟩⟩⟩
 · have f:∀l:List GraT,flatA (rowsG l)=flatA (l.map graR):=fun _=>rfl
   rw [f,f,f,f,ATz9,ATz9,List.nil_append]
 · rw [AAh9,AAh9,AAh9,AAh9,Zcr,Zcr];omega
def CBi9 (args:List AV) (K:AV→Prop):Prop:=∃(x m q:List GraT) (g:GraT),args= [.full 1 [[.sl 5 (rowsG x)], [.sl 5 [graR g]], [.sl 5 (rowsG m)]]]∧(x.length+m.length<1000000∧q=x++ [g]++m)∧K (.d (.sl 5 (rowsG q)))
theorem BMi9:∀args K,CBi9 args K→∃x,PCall prog 136 args x∧K x:=by
 rintro _ K ⟨x,m,_,g,rfl,⟨hl,rfl⟩,hk⟩;exact ⟨_,BZh9 x [g] m (by simp;omega) (by simp;omega),hk⟩
def TInG:List (Nat×(List AV→(AV→Prop)→Prop)):= [(136,CBi9),(54,BGd9)]
theorem CCd9:AAb9 prog TInG:=Zai BMi9 (Zai AZq9 Zal)
theorem CAa9 (l:List GraT) (g:GraT):wpFn prog ⟨TInG, [],wl,y,false⟩ 100 f104 [.d (.sl 5 (rowsG l)),graA g, .fn (.func 95) [] []] b R=(∃(l0:List GraT) (g1:GraT) (q2:Int), [Zab (Zaf 5 (rowsG l)),Zat (Fn.func 135) [] [Zag [Zco (Fn.func 95) []],Zag (Qz18 g)]]= [Zab (Zaf 5 (rowsG l0)),Zat (Fn.func 135) [] [Zag [Zco (Fn.func 95) []],Zag (Qz18 g1)]]∧(Zaa l0≤9223372036854775807∧q2=idxS (fun (x3:GraT)=>decide (GraT.sl x3>GraT.sl g1)) l0)∧BIf (decide (q2<(0:Int))) (BIf (true&&decide ((0:Int)≤(0:Int)∧(0:Int)≤((Zaa (rowsG l):Nat):Int)∧((Zaa (rowsG l):Nat):Int)≤((Zaa (rowsG l):Nat):Int)∧((Zaa (rowsG l):Nat):Int)≤((Zaa (rowsG l):Nat):Int))) (BIf (true&&decide ((0:Int)≤((Zaa (rowsG l):Nat):Int)∧((Zaa (rowsG l):Nat):Int)≤((Zaa (rowsG l):Nat):Int)∧((Zaa (rowsG l):Nat):Int)≤((Zaa (rowsG l):Nat):Int)∧((Zaa (rowsG l):Nat):Int)≤((Zaa (rowsG l):Nat):Int))) (∃(x4:List GraT) (m5:List GraT) (q6:List GraT) (g7:GraT), [AV.full 1 [[Zaf 5 (Zcs (Zav ((Zaa (rowsG l):Nat):Int) - Zav (0:Int)) (Zdf (Zav (0:Int)) (rowsG l)))], [Zaf 5 [Qz18 g]], [Zaf 5 (Zcs (Zav ((Zaa (rowsG l):Nat):Int) - Zav ((Zaa (rowsG l):Nat):Int)) (Zdf (Zav ((Zaa (rowsG l):Nat):Int)) (rowsG l)))]]]= [AV.full 1 [[Zaf 5 (rowsG x4)], [Zaf 5 [Qz18 g7]], [Zaf 5 (rowsG m5)]]]∧(Zaa x4+Zaa m5<1000000∧q6=x4++ [g7]++m5)∧R (.d (Zaf 5 (rowsG q6))) b) False) False) (BIf (true&&decide ((0:Int)≤(0:Int)∧(0:Int)≤q2∧q2≤((Zaa (rowsG l):Nat):Int)∧((Zaa (rowsG l):Nat):Int)≤((Zaa (rowsG l):Nat):Int))) (BIf (true&&decide ((0:Int)≤q2∧q2≤((Zaa (rowsG l):Nat):Int)∧((Zaa (rowsG l):Nat):Int)≤((Zaa (rowsG l):Nat):Int)∧((Zaa (rowsG l):Nat):Int)≤((Zaa (rowsG l):Nat):Int))) (∃(x8:List GraT) (m9:List GraT) (q10:List GraT) (g11:GraT), [AV.full 1 [[Zaf 5 (Zcs (Zav q2 - Zav (0:Int)) (Zdf (Zav (0:Int)) (rowsG l)))], [Zaf 5 [Qz18 g]], [Zaf 5 (Zcs (Zav ((Zaa (rowsG l):Nat):Int) - Zav q2) (Zdf (Zav q2) (rowsG l)))]]]= [AV.full 1 [[Zaf 5 (rowsG x8)], [Zaf 5 [Qz18 g11]], [Zaf 5 (rowsG m9)]]]∧(Zaa x8+Zaa m9<1000000∧q10=x8++ [g11]++m9)∧R (.d (Zaf 5 (rowsG q10))) b) False) False)):=by kernel_rfl
theorem BZg9 (x z m:List UseT) (h0:0<x.length+z.length+m.length) (hl:x.length+z.length+m.length≤1000000):
   PCall prog 140 [.full 1 [[.sl 4 (rowsU x)], [.sl 4 (rowsU z)], [.sl 4 (rowsU m)]]] (.d (.sl 4 (rowsU (x++z++m)))):=by
 refine Zbe (n:=1000) (u:=true) mixed Zal CBv9 func140 (by rfl) (by rfl) fun Ev bb=> ?_
 rw [BTy9]
 have e1:Zae Zay ((0:Int)+(((rowsU x).length:Nat):Int))=((x.length:Nat):Int):=by rw [AAi9,AAt9 (by omega) (by omega)];omega
 have e2:Zae Zay (((x.length:Nat):Int)+(((rowsU z).length:Nat):Int))=((x.length+z.length:Nat):Int):=by rw [AAi9,AAt9 (by omega) (by omega)];omega
 have e3:Zae Zay (((x.length+z.length:Nat):Int)+(((rowsU m).length:Nat):Int))=((x.length+z.length+m.length:Nat):Int):=by rw [AAi9,AAt9 (by omega) (by omega)];omega
 refine ⟨rowsU x,rfl, ?_⟩
 rw [e1]
 refine Zdl (by simp) ⟨rowsU z,rfl, ?_⟩
 rw [e2]
 refine Zdl (by simp;omega) ⟨rowsU m,rfl, ?_⟩
 rw [e3]
 refine Zdl (by simp;omega) ⟨_,rfl,⟨by omega,by omega⟩,rowsU x,rfl,rfl,Zbg (by rw [AAi9];simp;omega) ⟨rowsU z,rfl,rfl,Zbg (by rw [AAi9,AAi9];simp;omega) ⟨rowsU m,rfl,rfl,Zbg (by rw [AAi9,AAi9,AAi9];simp;omega) ⟨rfl,rowsU (x++z++m), ?_, ?_,BNk9 _,rfl⟩⟩⟩⟩
 · have f:∀l:List UseT,flatA (rowsU l)=flatA (l.map useR):=fun _=>rfl
   rw [f,f,f,f,ATz9,ATz9,List.nil_append]
 · rw [AAi9,AAi9,AAi9,AAi9,Zcr,Zcr];omega
def CBh9 (args:List AV) (K:AV→Prop):Prop:=∃(x m q:List UseT) (g:UseT),args= [.full 1 [[.sl 4 (rowsU x)], [.sl 4 [useR g]], [.sl 4 (rowsU m)]]]∧(x.length+m.length<1000000∧q=x++ [g]++m)∧K (.d (.sl 4 (rowsU q)))
theorem BMh9:∀args K,CBh9 args K→∃x,PCall prog 140 args x∧K x:=by
 rintro _ K ⟨x,m,_,g,rfl,⟨hl,rfl⟩,hk⟩;exact ⟨_,BZg9 x [g] m (by simp;omega) (by simp;omega),hk⟩
def TInU:List (Nat×(List AV→(AV→Prop)→Prop)):= [(140,CBh9),(133,BGc9)]
theorem CCc9:AAb9 prog TInU:=Zai BMh9 (Zai AZp9 Zal)
theorem BZz9 (l:List UseT) (g:UseT):wpFn prog ⟨TInU, [],wl,y,false⟩ 100 f107 [.d (.sl 4 (rowsU l)),useA g, .fn (.func 108) [] []] b R=(∃(l0:List UseT) (g1:UseT) (q2:Int), [Zab (Zaf 4 (rowsU l)),Zat (Fn.func 139) [] [Zag [Zco (Fn.func 108) []],Zag (Qz15 g)]]= [Zab (Zaf 4 (rowsU l0)),Zat (Fn.func 139) [] [Zag [Zco (Fn.func 108) []],Zag (Qz15 g1)]]∧(Zaa l0≤9223372036854775807∧q2=idxS (fun (x3:UseT)=>decide (UseT.sl x3>UseT.sl g1)) l0)∧BIf (decide (q2<(0:Int))) (BIf (true&&decide ((0:Int)≤(0:Int)∧(0:Int)≤((Zaa (rowsU l):Nat):Int)∧((Zaa (rowsU l):Nat):Int)≤((Zaa (rowsU l):Nat):Int)∧((Zaa (rowsU l):Nat):Int)≤((Zaa (rowsU l):Nat):Int))) (BIf (true&&decide ((0:Int)≤((Zaa (rowsU l):Nat):Int)∧((Zaa (rowsU l):Nat):Int)≤((Zaa (rowsU l):Nat):Int)∧((Zaa (rowsU l):Nat):Int)≤((Zaa (rowsU l):Nat):Int)∧((Zaa (rowsU l):Nat):Int)≤((Zaa (rowsU l):Nat):Int))) (∃(x4:List UseT) (m5:List UseT) (q6:List UseT) (g7:UseT), [AV.full 1 [[Zaf 4 (Zcs (Zav ((Zaa (rowsU l):Nat):Int) - Zav (0:Int)) (Zdf (Zav (0:Int)) (rowsU l)))], [Zaf 4 [Qz15 g]], [Zaf 4 (Zcs (Zav ((Zaa (rowsU l):Nat):Int) - Zav ((Zaa (rowsU l):Nat):Int)) (Zdf (Zav ((Zaa (rowsU l):Nat):Int)) (rowsU l)))]]]= [AV.full 1 [[Zaf 4 (rowsU x4)], [Zaf 4 [Qz15 g7]], [Zaf 4 (rowsU m5)]]]∧(Zaa x4+Zaa m5<1000000∧q6=x4++ [g7]++m5)∧R (.d (Zaf 4 (rowsU q6))) b) False) False) (BIf (true&&decide ((0:Int)≤(0:Int)∧(0:Int)≤q2∧q2≤((Zaa (rowsU l):Nat):Int)∧((Zaa (rowsU l):Nat):Int)≤((Zaa (rowsU l):Nat):Int))) (BIf (true&&decide ((0:Int)≤q2∧q2≤((Zaa (rowsU l):Nat):Int)∧((Zaa (rowsU l):Nat):Int)≤((Zaa (rowsU l):Nat):Int)∧((Zaa (rowsU l):Nat):Int)≤((Zaa (rowsU l):Nat):Int))) (∃(x8:List UseT) (m9:List UseT) (q10:List UseT) (g11:UseT), [AV.full 1 [[Zaf 4 (Zcs (Zav q2 - Zav (0:Int)) (Zdf (Zav (0:Int)) (rowsU l)))], [Zaf 4 [Qz15 g]], [Zaf 4 (Zcs (Zav ((Zaa (rowsU l):Nat):Int) - Zav q2) (Zdf (Zav q2) (rowsU l)))]]]= [AV.full 1 [[Zaf 4 (rowsU x8)], [Zaf 4 [Qz15 g11]], [Zaf 4 (rowsU m9)]]]∧(Zaa x8+Zaa m9<1000000∧q10=x8++ [g11]++m9)∧R (.d (Zaf 4 (rowsU q10))) b) False) False)):=by kernel_rfl
def insP {α:Type} (p:α→Bool) (g:α):List α→List α
 | []=> [g]
 |x::r=>if p x=true then g::x::r else x::insP p g r
theorem AOt9 {α:Type} {p:α→Bool} {g:α}:∀ {l:List α},l.findIdx? p=none→insP p g l=l++ [g]
 | [],_=>rfl
 | x::r,h=>by
   rw [Zep] at h
   cases hp:p x with
   |true=>rw [hp] at h;simp at h
   | false=>
     rw [hp] at h
     simp only [Zdi,if_false,Option.map_eq_none_iff] at h
     rw [insP,hp,if_neg (by decide),AOt9 h];rfl
theorem AOs9 {α:Type} {p:α→Bool} {g:α}:∀ {l:List α} {j:Nat},l.findIdx? p=some j→insP p g l=l.take j++ [g]++l.drop j
 | [],j,h=>by simp at h
 | x::r,j,h=>by
   rw [Zep] at h
   cases hp:p x with
   |true=>rw [hp] at h;simp at h;subst h;rw [insP,hp,if_pos rfl];rfl
   | false=>
     rw [hp] at h
     simp only [Zdi,if_false,Zan] at h
     obtain ⟨j',h1,rfl⟩:=h
     rw [insP,hp,if_neg (by decide),AOs9 h1];rfl
theorem AVl9 {α:Type} (row:α→List Dv) (l:List α) (i:Nat):((l.map row).take i)=(l.take i).map row:=by simp
theorem AVm9 {α:Type} (row:α→List Dv) (l:List α) (i:Nat):((l.map row).drop i)=(l.drop i).map row:=by simp
def insSG (g:GraT) (l:List GraT):List GraT:=insP (fun x:GraT=>decide (x.sl>g.sl)) g l
theorem CDo9 (l:List GraT) (g:GraT) (hl:l.length<1000000):PCall prog 104 [.d (.sl 5 (rowsG l)),graA g, .fn (.func 95) [] []] (.d (.sl 5 (rowsG (insSG g l)))):=by
 refine Zbe (n:=100) (u:=false) mixed CCd9 Zah func104 (by rfl) (by rfl) fun Ev bb=> ?_
 rw [CAa9,AAh9]
 refine ⟨l,g,_,rfl,⟨by omega,rfl⟩, ?_⟩
 cases hf:l.findIdx? (fun x:GraT=>decide (x.sl>g.sl)) with
 | none=>
   rw [AAy9 hf]
   refine Zbg (by decide) (Zbg (by simp) (Zbg (by simp) ⟨l, [],_,g, ?_,⟨by simpa using hl,rfl⟩, ?_⟩))
   · simp only [rowsG,Zcu,Zfd,Zfe,Nat.sub_zero,Nat.sub_self,List.take_zero,List.map_nil]
     rw [show (l.map graR).take l.length=l.map graR by rw [List.take_of_length_le (by simp)]]
   · rw [insSG,AOt9 hf,Zfw]
 | some j=>
   have hj:=(AFs9 hf).1
   rw [AAg9 hf]
   refine Zdl (by simp) (Zbg (by simp;omega) (Zbg (by simp;omega) ⟨l.take j,l.drop j,_,g, ?_,⟨by rw [Zdb,List.length_drop];omega,rfl⟩, ?_⟩))
   · simp only [rowsG,Zcu,Zfd,Zfe,Nat.sub_zero]
     rw [show ((l.map graR).drop j).take (l.length - j)=(l.drop j).map graR by rw [AVm9,List.take_of_length_le (by simp)],AVl9]
   · rw [insSG,AOs9 hf]
def cInsG (args:List AV) (K:AV→Prop):Prop:=∃(l z:List GraT) (g:GraT),args= [.d (.sl 5 (rowsG l)),graA g, .fn (.func 95) [] []]∧(l.length<1000000∧z=insSG g l)∧K (.d (.sl 5 (rowsG z)))
theorem BUs9:∀args K,cInsG args K→∃x,PCall prog 104 args x∧K x:=by
 rintro _ K ⟨l,_,g,rfl,⟨hl,rfl⟩,hk⟩;exact ⟨_,CDo9 l g hl,hk⟩
def insSU (g:UseT) (l:List UseT):List UseT:=insP (fun x:UseT=>decide (x.sl>g.sl)) g l
theorem CDn9 (l:List UseT) (g:UseT) (hl:l.length<1000000):PCall prog 107 [.d (.sl 4 (rowsU l)),useA g, .fn (.func 108) [] []] (.d (.sl 4 (rowsU (insSU g l)))):=by
 refine Zbe (n:=100) (u:=false) mixed CCc9 Zah func107 (by rfl) (by rfl) fun Ev bb=> ?_
 rw [BZz9,AAi9]
 refine ⟨l,g,_,rfl,⟨by omega,rfl⟩, ?_⟩
 cases hf:l.findIdx? (fun x:UseT=>decide (x.sl>g.sl)) with
 | none=>
   rw [AAy9 hf]
   refine Zbg (by decide) (Zbg (by simp) (Zbg (by simp) ⟨l, [],_,g, ?_,⟨by simpa using hl,rfl⟩, ?_⟩))
   · simp only [rowsU,Zcu,Zfd,Zfe,Nat.sub_zero,Nat.sub_self,List.take_zero,List.map_nil]
     rw [show (l.map useR).take l.length=l.map useR by rw [List.take_of_length_le (by simp)]]
   · rw [insSU,AOt9 hf,Zfw]
 | some j=>
   have hj:=(AFs9 hf).1
   rw [AAg9 hf]
   refine Zdl (by simp) (Zbg (by simp;omega) (Zbg (by simp;omega) ⟨l.take j,l.drop j,_,g, ?_,⟨by rw [Zdb,List.length_drop];omega,rfl⟩, ?_⟩))
   · simp only [rowsU,Zcu,Zfd,Zfe,Nat.sub_zero]
     rw [show ((l.map useR).drop j).take (l.length - j)=(l.drop j).map useR by rw [AVm9,List.take_of_length_le (by simp)],AVl9]
   · rw [insSU,AOs9 hf]
def cInsU (args:List AV) (K:AV→Prop):Prop:=∃(l z:List UseT) (g:UseT),args= [.d (.sl 4 (rowsU l)),useA g, .fn (.func 108) [] []]∧(l.length<1000000∧z=insSU g l)∧K (.d (.sl 4 (rowsU z)))
theorem BUr9:∀args K,cInsU args K→∃x,PCall prog 107 args x∧K x:=by
 rintro _ K ⟨l,_,g,rfl,⟨hl,rfl⟩,hk⟩;exact ⟨_,CDn9 l g hl,hk⟩
def useI (u:UseT):AV:= .d (.s (.iface 149 (.agg #[.int .i64 u.sl, .int .i64 u.of, .int .i64 u.pe, .int .i64 u.st])))
def graI (g:GraT):AV:= .d (.s (.iface 140 (.agg #[.int .i64 g.sl, .int .i64 g.of, .int .i64 g.pe, .int .i64 g.st, .int .i64 g.un])))
def TRfd:List (Nat×(List AV→(AV→Prop)→Prop)):= [(4000001,cNone),(73,BLx9),(84,BUv9),(170,BMk9),(167,BMl9)]
theorem AXg9:AAb9 prog TRfd:=Zai (ABx9 _) (Zai APh9 (Zai AXa9 (Zai APj9 (Zai APk9 Zal))))
def wlRfd {β:Type} (y:ACv9 β):WLT β:=wlI prog TRfd IVa y (fun _ _ _ _ _=>False)
theorem BYe9 (t:TabT) (ly:LayT) (u:UseT):wpFn prog ⟨TRfd, [],wlRfd y,y,false⟩ 100 f103 [tabA t,layA ly,useI u] b R=(∃(t0:TabT) (l1:LayT) (q2:Bool), [Zao (Qz3 t),Zao (Qz5 ly)]= [Zao (Qz3 t0),Zao (Qz5 l1)]∧((Zaa (Zbj t0)<10000∧Zaa (Zbl t0)<10000∧Zaa (Zbo t0)<10000)∧q2=ACy9 t0 l1)∧BIf (!q2) (R (.d (i64 1)) b) (true=true∧∃(u3:UseT) (l4:LayT) (z5:Bool), [Zao (Qz10 u),Zao (Qz5 ly)]= [Zao (Qz10 u3),Zao (Qz5 l4)]∧z5=useOk u3 l4∧BIf (!z5) (R (.d (i64 1)) b) (∃(u6:UseT), [Zao (Qz10 u)]= [Zao (Qz10 u6)]∧∃(t7:TabT) (s8:Int) (q9:Bool), [Zao (Qz3 t),Zab (i64 (UseT.sl u6))]= [Zao (Qz3 t7),Zab (i64 s8)]∧((Zaa (Zbj t7)<10000∧Zaa (Zbl t7)<10000∧Zaa (Zbo t7)<10000)∧q9=busyT t7 s8)∧BIf q9 (R (.d (i64 5)) b) (BIf (decide (Zae .i64 (((Zaa (rowsU (Zbj t)):Nat):Int)+((Zaa (rowsG (Zbl t)):Nat):Int))≥(24:Int))) (R (.d (i64 10)) b) (R (.d (i64 0)) b))))):=by kernel_rfl
theorem BYf9 (t:TabT) (ly:LayT) (u:GraT):wpFn prog ⟨TRfd, [],wlRfd y,y,false⟩ 100 f103 [tabA t,layA ly,graI u] b R=(∃(t0:TabT) (l1:LayT) (q2:Bool), [Zao (Qz3 t),Zao (Qz5 ly)]= [Zao (Qz3 t0),Zao (Qz5 l1)]∧((Zaa (Zbj t0)<10000∧Zaa (Zbl t0)<10000∧Zaa (Zbo t0)<10000)∧q2=ACy9 t0 l1)∧BIf (!q2) (R (.d (i64 1)) b) (true=true∧∃(u3:GraT) (l4:LayT) (z5:Bool), [Zao (Qz7 u),Zao (Qz5 ly)]= [Zao (Qz7 u3),Zao (Qz5 l4)]∧z5=graOk u3 l4∧BIf (!z5) (R (.d (i64 1)) b) (∃(u6:GraT), [Zao (Qz7 u)]= [Zao (Qz7 u6)]∧∃(t7:TabT) (s8:Int) (q9:Bool), [Zao (Qz3 t),Zab (i64 (GraT.sl u6))]= [Zao (Qz3 t7),Zab (i64 s8)]∧((Zaa (Zbj t7)<10000∧Zaa (Zbl t7)<10000∧Zaa (Zbo t7)<10000)∧q9=busyT t7 s8)∧BIf q9 (R (.d (i64 5)) b) (BIf (decide (Zae .i64 (((Zaa (rowsU (Zbj t)):Nat):Int)+((Zaa (rowsG (Zbl t)):Nat):Int))≥(24:Int))) (R (.d (i64 10)) b) (R (.d (i64 0)) b))))):=by kernel_rfl
def refS (t:TabT) (ly:LayT) (sl:Int) (ok:Bool):Int:=if ACy9 t ly&&ok then (if busyT t sl then 5 else if (t.us.length:Int)+(t.gs.length:Int)≥24 then 10 else 0) else 1
theorem CDf9 (t:TabT) (ly:LayT) (u:UseT) (ht:TabOk t):PCall prog 103 [tabA t,layA ly,useI u] (.d (i64 (refS t ly u.sl (useOk u ly)))):=by
 refine PCall.ofFnE (n:=100) (u:=false) (fun Ev=>wlRfd Ev.Y) mixed AXg9 Zah (fun Ev=>BWx9 mixed AXg9 ASk9 fun _ _ _ _ _ h=>h.elim) func103 (by rfl) (by rfl) fun Ev bb=> ?_
 rw [BYe9,AAi9,AAh9]
 have hw:Zae Zay ((t.us.length:Int)+(t.gs.length:Int))=(t.us.length:Int)+(t.gs.length:Int):=AAt9 (by have:=ht.1;have:=ht.2.1;omega) (by have:=ht.1;have:=ht.2.1;omega)
 rw [hw]
 refine ⟨t,ly,_,rfl,⟨ht,rfl⟩,Zbh (fun h1=> ?_) fun h1=>⟨rfl,u,ly,_,rfl,rfl,Zbh (fun h2=> ?_) fun h2=>⟨u,rfl,t,u.sl,_,rfl,⟨ht,rfl⟩,Zbh (fun h3=> ?_) fun h3=>Zbh (fun h4=> ?_) fun h4=> ?_⟩⟩⟩
 · rw [Zcq] at h1
   rw [refS,h1];rfl
 · rw [Zcq] at h2
   rw [refS,h2,Zem];rfl
 all_goals (rw [Zfu] at h1 h2;rw [refS,h1,h2,h3])
 · rfl
 · rw [if_pos (by rfl),if_neg (by decide),if_pos (of_decide_eq_true h4)]
 · rw [if_pos (by rfl),if_neg (by decide),if_neg (of_decide_eq_false h4)]
def cRefU (args:List AV) (K:AV→Prop):Prop:=∃(t:TabT) (ly:LayT) (u:UseT) (q:Int),args= [tabA t,layA ly,useI u]∧(TabOk t∧q=refS t ly u.sl (useOk u ly))∧K (.d (i64 q))
theorem BUl9:∀args K,cRefU args K→∃x,PCall prog 103 args x∧K x:=by
 rintro _ K ⟨t,ly,u,_,rfl,⟨h,rfl⟩,hk⟩;exact ⟨_,CDf9 t ly u h,hk⟩
theorem CDg9 (t:TabT) (ly:LayT) (u:GraT) (ht:TabOk t):PCall prog 103 [tabA t,layA ly,graI u] (.d (i64 (refS t ly u.sl (graOk u ly)))):=by
 refine PCall.ofFnE (n:=100) (u:=false) (fun Ev=>wlRfd Ev.Y) mixed AXg9 Zah (fun Ev=>BWx9 mixed AXg9 ASk9 fun _ _ _ _ _ h=>h.elim) func103 (by rfl) (by rfl) fun Ev bb=> ?_
 rw [BYf9,AAi9,AAh9]
 have hw:Zae Zay ((t.us.length:Int)+(t.gs.length:Int))=(t.us.length:Int)+(t.gs.length:Int):=AAt9 (by have:=ht.1;have:=ht.2.1;omega) (by have:=ht.1;have:=ht.2.1;omega)
 rw [hw]
 refine ⟨t,ly,_,rfl,⟨ht,rfl⟩,Zbh (fun h1=> ?_) fun h1=>⟨rfl,u,ly,_,rfl,rfl,Zbh (fun h2=> ?_) fun h2=>⟨u,rfl,t,u.sl,_,rfl,⟨ht,rfl⟩,Zbh (fun h3=> ?_) fun h3=>Zbh (fun h4=> ?_) fun h4=> ?_⟩⟩⟩
 · rw [Zcq] at h1
   rw [refS,h1];rfl
 · rw [Zcq] at h2
   rw [refS,h2,Zem];rfl
 all_goals (rw [Zfu] at h1 h2;rw [refS,h1,h2,h3])
 · rfl
 · rw [if_pos (by rfl),if_neg (by decide),if_pos (of_decide_eq_true h4)]
 · rw [if_pos (by rfl),if_neg (by decide),if_neg (of_decide_eq_false h4)]
def cRefG (args:List AV) (K:AV→Prop):Prop:=∃(t:TabT) (ly:LayT) (u:GraT) (q:Int),args= [tabA t,layA ly,graI u]∧(TabOk t∧q=refS t ly u.sl (graOk u ly))∧K (.d (i64 q))
theorem BUm9:∀args K,cRefG args K→∃x,PCall prog 103 args x∧K x:=by
 rintro _ K ⟨t,ly,u,_,rfl,⟨h,rfl⟩,hk⟩;exact ⟨_,CDg9 t ly u h,hk⟩
def TAu:List (Nat×(List AV→(AV→Prop)→Prop)):= [(103,cRefU),(107,cInsU),(48,BOr9),(105,BUg9)]
theorem CFe9:AAb9 prog TAu:=Zai BUl9 (Zai BUr9 (Zai BGq9 (Zai AWg9 Zal)))
def TAg:List (Nat×(List AV→(AV→Prop)→Prop)):= [(103,cRefG),(104,cInsG),(93,BGp9),(105,BUg9)]
theorem CFf9:AAb9 prog TAg:=Zai BUm9 (Zai BUs9 (Zai ASc9 (Zai AWg9 Zal)))
abbrev Qz6:List AV:= [Zab (Zdc (.slice none 0 0)),Zab (Zdc (.slice none 0 0)),Zab (Zdc (.slice none 0 0))]
abbrev Qz42 (v0:TabT) (v1:LayT) (v2:UseT):List AV:= [Zao (Qz3 v0),Zao (Qz5 v1),Zab (Zdc (Value.iface 149 (Value.agg (Array.mk [Zeo Zay (UseT.sl v2),Zeo Zay (UseT.of v2),Zeo Zay (UseT.pe v2),Zeo Zay (UseT.st v2)]))))]
theorem CBn9 (t:TabT) (ly:LayT) (u:UseT):wpFn prog ⟨TAu, [],wl,y,false⟩ 100 f56 [tabA t,layA ly,useA u] b R=(∃(t0:TabT) (ly1:LayT) (u2:UseT) (q3:Int),(Qz42 t ly u)=(Qz42 t0 ly1 u2)∧((Zaa (Zbj t0)<10000∧Zaa (Zbl t0)<10000∧Zaa (Zbo t0)<10000)∧q3=refS t0 ly1 (UseT.sl u2) (useOk u2 ly1))∧BIf (q3 !=(0:Int)) (R (.tup [Zao Qz6,Zab (i64 q3)]) b) (∃(l4:List UseT) (z5:List UseT) (g6:UseT), [Zab (Zaf 4 (rowsU (Zbj t))),Zao (Qz10 u),Zat (Fn.func 108) [] []]= [Zab (Zaf 4 (rowsU l4)),Zao (Qz10 g6),Zat (Fn.func 108) [] []]∧(Zaa l4<1000000∧z5=insSU g6 l4)∧∃(l7:List GraT), [Zab (Zaf 5 (rowsG (Zbl t)))]= [Zab (Zaf 5 (rowsG l7))]∧Zaa l7≤1000000∧∃(t8:TabT) (z9:List AskT) (sl10:Int), [Zao (Qz3 t),Zab (i64 (UseT.sl u))]= [Zao (Qz3 t8),Zab (i64 sl10)]∧((Zaa (Zbj t8)<1000000∧Zaa (Zbl t8)<1000000∧Zaa (Zbo t8)<1000000)∧z9=AGs9 t8 sl10)∧R (.tup [Zao (Qz64 z5 l7 z9),Zab (i64 0)]) b)):=by kernel_rfl
abbrev Qz39 (v0:TabT) (v1:LayT) (v2:GraT):List AV:= [Zao (Qz3 v0),Zao (Qz5 v1),Zab (Zdc (Value.iface 140 (Value.agg (Array.mk [Zeo Zay (GraT.sl v2),Zeo Zay (GraT.of v2),Zeo Zay (Zfv v2),Zeo Zay (GraT.st v2),Zeo Zay (Zdm v2)]))))]
theorem CBo9 (t:TabT) (ly:LayT) (u:GraT):wpFn prog ⟨TAg, [],wl,y,false⟩ 100 f52 [tabA t,layA ly,graA u] b R=(∃(t0:TabT) (ly1:LayT) (u2:GraT) (q3:Int),(Qz39 t ly u)=(Qz39 t0 ly1 u2)∧((Zaa (Zbj t0)<10000∧Zaa (Zbl t0)<10000∧Zaa (Zbo t0)<10000)∧q3=refS t0 ly1 (GraT.sl u2) (graOk u2 ly1))∧BIf (q3 !=(0:Int)) (R (.tup [Zao Qz6,Zab (i64 q3)]) b) (∃(l4:List UseT), [Zab (Zaf 4 (rowsU (Zbj t)))]= [Zab (Zaf 4 (rowsU l4))]∧Zaa l4≤1000000∧∃(l5:List GraT) (z6:List GraT) (g7:GraT), [Zab (Zaf 5 (rowsG (Zbl t))),Zao (Qz7 u),Zat (Fn.func 95) [] []]= [Zab (Zaf 5 (rowsG l5)),Zao (Qz7 g7),Zat (Fn.func 95) [] []]∧(Zaa l5<1000000∧z6=insSG g7 l5)∧∃(t8:TabT) (z9:List AskT) (sl10:Int), [Zao (Qz3 t),Zab (i64 (GraT.sl u))]= [Zao (Qz3 t8),Zab (i64 sl10)]∧((Zaa (Zbj t8)<1000000∧Zaa (Zbl t8)<1000000∧Zaa (Zbo t8)<1000000)∧z9=AGs9 t8 sl10)∧R (.tup [Zao (Qz64 l4 z6 z9),Zab (i64 0)]) b)):=by kernel_rfl
theorem BBz9 (e:Int):LeV (AV.tup [Zao [Zab (Zdc (Zcl none 0 0)),Zab (Zdc (Zcl none 0 0)),Zab (Zdc (Zcl none 0 0))],Zab (i64 e)]) (AV.tup [tabA ⟨[], [], []⟩,Zab (i64 e)]):=
 LeV.tups (.cons (LeV.aggs (by repeat' (first|exact .nil|refine .cons .rfl ?_|refine .cons (.nil rfl) ?_))) (.cons .rfl .nil))
def refEU (t:TabT) (ly:LayT) (u:UseT):Int:=refS t ly u.sl (useOk u ly)
def addSU (t:TabT) (ly:LayT) (u:UseT):TabT:=if refEU t ly u=0 then ⟨insSU u t.us,t.gs,AGs9 t u.sl⟩ else ⟨[], [], []⟩
theorem CDr9 (t:TabT) (ly:LayT) (u:UseT) (ht:TabOk t):PCall prog 56 [tabA t,layA ly,useA u] (.tup [tabA (addSU t ly u), .d (i64 (refEU t ly u))]):=by
 refine PCall.ofFnV (n:=100) (u:=false) (fun _=>fun _ _ _ _ _=>False) mixed CFe9 Zah (fun Ev _ _ _ _ _ h=>h.elim) func56 (by rfl) (by rfl) fun Ev bb=> ?_
 rw [CBn9]
 refine ⟨t,ly,u,_,rfl,⟨ht,rfl⟩,Zbh (fun h1=> ?_) fun h1=>⟨t.us,_,u,rfl,⟨by have:=ht.1;omega,rfl⟩,t.gs,rfl,by have:=ht.2.1;omega,t,_,u.sl,rfl,⟨⟨by have:=ht.1;omega,by have:=ht.2.1;omega,by have:=ht.2.2;omega⟩,rfl⟩, ?_⟩⟩
 · have h2:¬refEU t ly u=0:=by rw [refEU];simpa using h1
   rw [addSU,if_neg h2]
   exact BBz9 _
 · have h2:refEU t ly u=0:=by rw [refEU];simpa using h1
   rw [addSU,if_pos h2,h2]
   exact .rfl
def cAddU (args:List AV) (K:AV→Prop):Prop:=∃(t z:TabT) (ly:LayT) (u:UseT) (e:Int),args= [tabA t,layA ly,useA u]∧(TabOk t∧z=addSU t ly u∧e=refEU t ly u)∧K (.tup [tabA z, .d (i64 e)])
theorem BUx9:∀args K,cAddU args K→∃x,PCall prog 56 args x∧K x:=by
 rintro _ K ⟨t,_,ly,u,_,rfl,⟨h,rfl,rfl⟩,hk⟩;exact ⟨_,CDr9 t ly u h,hk⟩
def refEG (t:TabT) (ly:LayT) (u:GraT):Int:=refS t ly u.sl (graOk u ly)
def addSG (t:TabT) (ly:LayT) (u:GraT):TabT:=if refEG t ly u=0 then ⟨t.us,insSG u t.gs,AGs9 t u.sl⟩ else ⟨[], [], []⟩
theorem CDs9 (t:TabT) (ly:LayT) (u:GraT) (ht:TabOk t):PCall prog 52 [tabA t,layA ly,graA u] (.tup [tabA (addSG t ly u), .d (i64 (refEG t ly u))]):=by
 refine PCall.ofFnV (n:=100) (u:=false) (fun _=>fun _ _ _ _ _=>False) mixed CFf9 Zah (fun Ev _ _ _ _ _ h=>h.elim) func52 (by rfl) (by rfl) fun Ev bb=> ?_
 rw [CBo9]
 refine ⟨t,ly,u,_,rfl,⟨ht,rfl⟩,Zbh (fun h1=> ?_) fun h1=>⟨t.us,rfl,by have:=ht.1;omega,t.gs,_,u,rfl,⟨by have:=ht.2.1;omega,rfl⟩,t,_,u.sl,rfl,⟨⟨by have:=ht.1;omega,by have:=ht.2.1;omega,by have:=ht.2.2;omega⟩,rfl⟩, ?_⟩⟩
 · have h2:¬refEG t ly u=0:=by rw [refEG];simpa using h1
   rw [addSG,if_neg h2]
   exact BBz9 _
 · have h2:refEG t ly u=0:=by rw [refEG];simpa using h1
   rw [addSG,if_pos h2,h2]
   exact .rfl
def cAddG (args:List AV) (K:AV→Prop):Prop:=∃(t z:TabT) (ly:LayT) (u:GraT) (e:Int),args= [tabA t,layA ly,graA u]∧(TabOk t∧z=addSG t ly u∧e=refEG t ly u)∧K (.tup [tabA z, .d (i64 e)])
theorem BUy9:∀args K,cAddG args K→∃x,PCall prog 52 args x∧K x:=by
 rintro _ K ⟨t,_,ly,u,_,rfl,⟨h,rfl,rfl⟩,hk⟩;exact ⟨_,CDs9 t ly u h,hk⟩
noncomputable def lpG1:Code:=sub [1,8,1,1,1,1,0,1,2,3] (code f13)
def tmG1 (s:SideT) (me fr:Int) (x:AV) (n i:Int):List AV:= [.bad, .bad, .d (i64 me), .bad, .d (i64 fr), .ptr 0 0, .ptr 1 0, .bad, .bad, .bad, .ptr 2 0, .rptr (sideD s)]++Zaq 31 .bad++ [x, .d (i64 n), .d (i64 i)]++Zaq 90 .bad
def grtB (us:List UseT) (x:AV) (ak:List AskT):Blk:=⟨[.d (.sl 4 (rowsU us)),x, .d (.sl 3 (rowsA ak))],false,false,0⟩
def resB:Blk:=⟨[.d (.s (.slice none 0 0)), .d (.s (.slice none 0 0)), .d (.s (.slice none 0 0))],false,false,0⟩
def TG1:List (Nat×(List AV→(AV→Prop)→Prop)):= [(37,cFind),(49,APg9),(50,CBa9)]
theorem CCf9:AAb9 prog TG1:=Zai AUn9 (Zai AMd9 (Zai BMb9 Zal))
theorem rG1 (s:SideT) (ly:LayT) (us:List UseT) (ak:List AskT) (me fr:Int) (n:Nat) (i:Int) (cs:List AV):wpc prog ⟨TG1,GCG,wl,y,false⟩ 100 lpG1 (tmG1 s me fr (.gref 3 0 n 5) n i) [layB ly,grtB us (.gref 3 0 n 5) ak,resB,growB 0 cs] b (maskK 4 [2,4,5,6,10,11,43,44,45] K)=(BIf (decide (i<(n:Int))) (0=0∧BIf (decide (0≤i)&&decide (i<(n:Int))) (0=0∧∃(x0:Int) (x1:Int) (x2:Int) (x3:Int) (x4:Int),Zcs 5 (Zdf (Zav i*5) cs)=(Qz24 x0 x1 x2 x3 x4)∧∃(s5:SideT) (pe6:Int) (q7:NearT) (e8:Bool), [Zag (Qz2 s),Zab (i64 x2)]= [Zag (Qz2 s5),Zab (i64 pe6)]∧(Zaa (Zas s5)≤9223372036854775807∧q7=nearO (sFind s5 pe6)∧e8=Option.isSome (sFind s5 pe6))∧BIf e8 (∃(s9:SideT) (n10:NearT) (q11:Bool), [Zag (Qz2 s),Zao (Qz1 q7)]= [Zag (Qz2 s9),Zao (Qz1 n10)]∧q11=AJn9 s9 n10∧BIf q11 (∃(s12:SideT) (n13:NearT) (sl14:Int) (of15:Int) (q16:Bool), [Zag (Qz2 s),Zao (Qz1 q7),Zao [Zab (i64 x0),Zab (i64 x1)]]= [Zag (Qz2 s12),Zao (Qz1 n13),Zao [Zab (i64 sl14),Zab (i64 of15)]]∧((Zaa (Zbp n13)≤9223372036854775807∧Zaa (Zcc n13)≤9223372036854775807)∧q16=AKo9 s12 n13 sl14 of15)∧BIf q16 (0=0∧BIf (decide (0≤i)&&decide (i<(n:Int))) (0=0∧0=0∧BIf (decide (Zav i*5+4+1≤Zaa cs)) (BIf (Zcb [Blk.mk (Qz5 ly) false false 0,Blk.mk [Zab (Zaf 4 (rowsU us)),Zbu 3 0 n 5,Zab (Zaf 3 (rowsA ak))] false false 0,Blk.mk Qz6 false false 0,Blk.mk (Zcs (Zav i*5+4) cs++ [Zab (i64 (if Zae .i64 (fr+8)>x4 then Zae .i64 (fr+8) else x4))]++Zdf (Zav i*5+4+1) cs) false true 0] fun (blk17:Blk)=>lows 4 blk17.1) (K .normal (Zad::Zad::Zab (i64 me)::Zad::Zab (i64 fr)::Zak 0 0::Zak 1 0::bds 3 (Zak 2 0::Zag (Qz2 s)::bds 31 (Zbu 3 0 n 5::Zab (i64 (n:Int))::Zab (i64 (Zae .i64 (i+1)))::bds 90 []))) [Blk.mk (Qz5 ly) false false 0,Blk.mk [Zab (Zaf 4 (rowsU us)),Zbu 3 0 n 5,Zab (Zaf 3 (rowsA ak))] false false 0,Blk.mk Qz6 false false 0,Blk.mk (Zcs (Zav i*5+4) cs++ [Zab (i64 (if Zae .i64 (fr+8)>x4 then Zae .i64 (fr+8) else x4))]++Zdf (Zav i*5+4+1) cs) false true 0] b) False) False) False) (BIf (Zcb [Blk.mk (Qz5 ly) false false 0,Blk.mk [Zab (Zaf 4 (rowsU us)),Zbu 3 0 n 5,Zab (Zaf 3 (rowsA ak))] false false 0,Blk.mk Qz6 false false 0,Blk.mk cs false true 0] fun (blk18:Blk)=>lows 4 blk18.1) (K .normal (Zad::Zad::Zab (i64 me)::Zad::Zab (i64 fr)::Zak 0 0::Zak 1 0::bds 3 (Zak 2 0::Zag (Qz2 s)::bds 31 (Zbu 3 0 n 5::Zab (i64 (n:Int))::Zab (i64 (Zae .i64 (i+1)))::bds 90 []))) [Blk.mk (Qz5 ly) false false 0,Blk.mk [Zab (Zaf 4 (rowsU us)),Zbu 3 0 n 5,Zab (Zaf 3 (rowsA ak))] false false 0,Blk.mk Qz6 false false 0,Blk.mk cs false true 0] b) False)) (BIf (Zcb [Blk.mk (Qz5 ly) false false 0,Blk.mk [Zab (Zaf 4 (rowsU us)),Zbu 3 0 n 5,Zab (Zaf 3 (rowsA ak))] false false 0,Blk.mk Qz6 false false 0,Blk.mk cs false true 0] fun (blk19:Blk)=>lows 4 blk19.1) (K .normal (Zad::Zad::Zab (i64 me)::Zad::Zab (i64 fr)::Zak 0 0::Zak 1 0::bds 3 (Zak 2 0::Zag (Qz2 s)::bds 31 (Zbu 3 0 n 5::Zab (i64 (n:Int))::Zab (i64 (Zae .i64 (i+1)))::bds 90 []))) [Blk.mk (Qz5 ly) false false 0,Blk.mk [Zab (Zaf 4 (rowsU us)),Zbu 3 0 n 5,Zab (Zaf 3 (rowsA ak))] false false 0,Blk.mk Qz6 false false 0,Blk.mk cs false true 0] b) False)) (BIf (Zcb [Blk.mk (Qz5 ly) false false 0,Blk.mk [Zab (Zaf 4 (rowsU us)),Zbu 3 0 n 5,Zab (Zaf 3 (rowsA ak))] false false 0,Blk.mk Qz6 false false 0,Blk.mk cs false true 0] fun (blk20:Blk)=>lows 4 blk20.1) (K .normal (Zad::Zad::Zab (i64 me)::Zad::Zab (i64 fr)::Zak 0 0::Zak 1 0::bds 3 (Zak 2 0::Zag (Qz2 s)::bds 31 (Zbu 3 0 n 5::Zab (i64 (n:Int))::Zab (i64 (Zae .i64 (i+1)))::bds 90 []))) [Blk.mk (Qz5 ly) false false 0,Blk.mk [Zab (Zaf 4 (rowsU us)),Zbu 3 0 n 5,Zab (Zaf 3 (rowsA ak))] false false 0,Blk.mk Qz6 false false 0,Blk.mk cs false true 0] b) False)) False) (BIf (Zcb [Blk.mk (Qz5 ly) false false 0,Blk.mk [Zab (Zaf 4 (rowsU us)),Zbu 3 0 n 5,Zab (Zaf 3 (rowsA ak))] false false 0,Blk.mk Qz6 false false 0,Blk.mk cs false true 0] fun (blk21:Blk)=>lows 4 blk21.1) (K (Zbv 0) (Zad::Zad::Zab (i64 me)::Zad::Zab (i64 fr)::Zak 0 0::Zak 1 0::bds 3 (Zak 2 0::Zag (Qz2 s)::bds 31 (Zbu 3 0 n 5::Zab (i64 (n:Int))::Zab (i64 i)::bds 90 []))) [Blk.mk (Qz5 ly) false false 0,Blk.mk [Zab (Zaf 4 (rowsU us)),Zbu 3 0 n 5,Zab (Zaf 3 (rowsA ak))] false false 0,Blk.mk Qz6 false false 0,Blk.mk cs false true 0] b) False)):=by kernel_rfl
def AEs9 (s:SideT) (g:GraT):Bool:=(sFind s g.pe).isSome&&(AJn9 s (nearO (sFind s g.pe))&&AKo9 s (nearO (sFind s g.pe)) g.sl g.of)
def BDt9 (fr:Int) (g:GraT):GraT:=⟨g.sl,g.of,g.pe,g.st,if Zae Zay (fr+8)>g.un then Zae Zay (fr+8) else g.un⟩
def ACs9 (s:SideT) (fr:Int) (g:GraT):GraT:=if AEs9 s g=true then BDt9 fr g else g
def curG (s:SideT) (fr:Int) (gs:List GraT) (i:Nat):List GraT:=(gs.take i).map (ACs9 s fr)++gs.drop i
theorem BTx9 (s:SideT) (fr:Int) (gs:List GraT) (i:Nat):(curG s fr gs i).length=gs.length:=by simp [curG];omega
theorem BOc9 {s:SideT} {fr:Int} {gs:List GraT} {i:Nat} {g:GraT} (h:gs[i]? =some g):(curG s fr gs i)[i]? =some g:=by
 have hi:=(Zac.1 h).1
 rw [curG,List.getElem?_append_right (by simp;omega)]
 simp only [List.length_map,Zdb,Nat.min_eq_left (Nat.le_of_lt hi),Nat.sub_self]
 rw [List.getElem?_drop];simpa using h
theorem AWf9 {s:SideT} {fr:Int} {gs:List GraT} {i:Nat} {g:GraT} (h:gs[i]? =some g):curG s fr gs (i+1)=(curG s fr gs i).set i (ACs9 s fr g):=by
 have hi:=(Zac.1 h).1
 rw [curG,curG,List.take_add_one,h,List.set_append_right _ _ (by simp;omega)]
 simp only [List.length_map,Zdb,Nat.min_eq_left (Nat.le_of_lt hi),Nat.sub_self,Option.toList_some,List.map_append,Zdv,List.map_nil,Zbt,Zgb,List.nil_append]
 congr 1
 rw [Zeu hi,List.set_cons_zero]
theorem APd9 {s:SideT} {fr:Int} {gs:List GraT} {i:Nat} {g:GraT} (h:gs[i]? =some g) (hr:AEs9 s g=false):curG s fr gs (i+1)=curG s fr gs i:=by
 rw [AWf9 h,ACs9,hr,if_neg (by decide)]
 exact ABl9 (BOc9 h)
theorem CAg9 {cur:List GraT} {i:Nat} {g:GraT} (h:cur[i]? =some g) (z:Int):(flatA (rowsG cur)).take (i*5+4)++ [Zab (i64 z)]++(flatA (rowsG cur)).drop (i*5+4+1)=flatA (rowsG (cur.set i ⟨g.sl,g.of,g.pe,g.st,z⟩)):=by
 have hi:=(Zac.1 h).1
 have e:=BTj9 AFp9 (hs:=cur) (i:=i) hi ⟨g.sl,g.of,g.pe,g.st,z⟩
 have ea:=fl_at AFp9 h
 have f:∀l:List GraT,flatA (rowsG l)=flatA (l.map graR):=fun _=>rfl
 rw [f,f,←e,List.take_add]
 have e4:((flatA (cur.map graR)).drop (i*5)).take 4=((graR g).map Zab).take 4:=by rw [←ea,List.take_take];rfl
 rw [e4]
 simp only [graR,Zdv,List.map_nil,List.take_succ_cons,List.take_zero,Zbt,Zgb,List.nil_append]
def g1B (ly:LayT) (us:List UseT) (ak:List AskT) (n:Nat) (gs:List GraT):List Blk:= [layB ly,grtB us (.gref 3 0 n 5) ak,resB,growB 0 (flatA (rowsG gs))]
theorem CDx9 (ly:LayT) (us:List UseT) (ak:List AskT) (n:Nat) (gs:List GraT):Zcb (g1B ly us ak n gs) (fun blk=>lows 4 blk.1)=true:=by
 simp only [g1B,List.all_cons,List.all_nil,Bool.and_true,Zaj]
 exact ⟨rfl,rfl,rfl,ACt9 4 _⟩
def AGj9 (s:SideT):Prop:=s.ns.length≤9223372036854775807∧∀x∈s.ns,AFb9 x
theorem BDp9 {s:SideT} (hs:AGj9 s) (pe:Int):AFb9 (nearO (sFind s pe)):=by
 cases h:sFind s pe with
 |none=>exact ⟨by decide,by decide,by decide⟩
 |some n=>exact hs.2 n (List.mem_of_find?_eq_some h)
theorem wrG1 {Ev:Env prog} {b:Ev.β} {Q:Exit→St Ev.β→Prop} (s:SideT) (ly:LayT) (us:List UseT) (ak:List AskT) (me fr:Int) (gs:List GraT) (hs:AGj9 s) (hl:gs.length<1000000)
   (hQ:Q (.exit 0) ⟨tmG1 s me fr (.gref 3 0 gs.length 5) gs.length gs.length,g1B ly us ak gs.length (curG s fr gs gs.length),b⟩):WR Ev lpG1 (gs.length+1) ⟨tmG1 s me fr (.gref 3 0 gs.length 5) gs.length (0:Nat),g1B ly us ak gs.length (curG s fr gs 0),b⟩ Q:=by
 have low:=CDx9 ly us ak gs.length
 refine WR.scanG (X:=⟨TG1,GCG,wlW Ev,Ev.Y,false⟩) (k:=100) (L:=4) [2,4,5,6,10,11,43,44,45] mixed (CX.Ok.of CCf9 BAg9) gs (fun _=>false) (fun i=>tmG1 s me fr (.gref 3 0 gs.length 5) gs.length (i:Nat)) (fun i=>g1B ly us ak gs.length (curG s fr gs i)) (fun _=>rfl) 0 0 (fun i g _ hi hg K _ k2=> ?_) (fun K k1=> ?_) (fun _=>hQ) (fun h=>by simp at h) gs.length 0 (by simp) (Zau _) rfl
 · refine Eq.mpr (rG1 _ _ _ K s ly us ak me fr gs.length i _) ?_
   have hk:=k2 rfl
   have hc:=BOc9 (s:=s) (fr:=fr) hg
   have hn:=BDp9 hs g.pe
   refine Zbg (by simp;omega) ⟨rfl,Zbg (by simp;omega) ⟨rfl,_,_,_,_,_,by rw [Zcu];exact fl_at AFp9 hc,s,g.pe,_,_,rfl,⟨hs.1,rfl,rfl⟩,Zbh (fun h1=>⟨s,nearO (sFind s g.pe),_,rfl,rfl,Zbh (fun h2=>⟨s,nearO (sFind s g.pe),g.sl,g.of,_,rfl,⟨⟨by have:=hn.1;omega,by have:=hn.2.2;omega⟩,rfl⟩,Zbh (fun h3=> ?_) fun h3=> ?_⟩) fun h2=> ?_⟩) fun h1=> ?_⟩⟩
   · have hr:AEs9 s g=true:=by rw [AEs9,h1,h2,h3];rfl
     have e4:=CAg9 hc (BDt9 fr g).un
     have es:curG s fr gs (i+1)=(curG s fr gs i).set i ⟨g.sl,g.of,g.pe,g.st,(BDt9 fr g).un⟩:=by rw [AWf9 hg,ACs9,if_pos hr];rfl
     have hl2:=low (curG s fr gs (i+1))
     simp only [g1B,es,←e4] at hk hl2
     refine ⟨rfl,Zbg (by simp;omega) ⟨rfl,rfl,Zbg ?_ ?_⟩⟩
     · have:=AZa9 AFp9 (curG s fr gs i)
       rw [Zcu,show flatA (rowsG (curG s fr gs i))=flatA ((curG s fr gs i).map graR) from rfl,this,BTx9]
       simp;omega
     · rw [Zcu,wrapN (by omega)]
       exact Zbg hl2 hk
   · have hr:AEs9 s g=false:=by rw [AEs9,h1,h2,h3];rfl
     rw [APd9 hg hr] at hk
     rw [wrapN (by omega)]
     exact Zbg (low _) hk
   · have hr:AEs9 s g=false:=by rw [AEs9,h1,h2];rfl
     rw [APd9 hg hr] at hk
     rw [wrapN (by omega)]
     exact Zbg (low _) hk
   · have hr:AEs9 s g=false:=by rw [AEs9,h1];rfl
     rw [APd9 hg hr] at hk
     rw [wrapN (by omega)]
     exact Zbg (low _) hk
 · refine Eq.mpr (rG1 _ _ _ K s ly us ak me fr gs.length gs.length _) ?_
   exact Zdl (by simp) (Zbg (low _) k1)
theorem BEi9 {tm:List AV} {hp:List Blk} {c off:Nat} {blk:Blk} {x y:AV} {gs:List Nat} (hc:hp[c]? =some blk) (hx:blk.cells[off]? =some x) (hs:SealR hp x y) (hg:∀g∈occ x,g∈gs) (ho:y.isOwn=false) (hcg:(frz hp gs)[c]? =some blk):
   FrzOk ⟨tm,hp, []⟩ ⟨tm,(frz hp gs).set c {blk with cells:=blk.cells.set off y}, []⟩:=by
 intro S X yv w m B hv a hr
 obtain ⟨hl,hr,hpv⟩:=hr
 obtain ⟨S',h1,h2,h3,h4⟩:=Rel.frzAll gs hr
 refine ⟨S',⟨Agree.refl _ _ _,h1,h2,MStep.refl m⟩,hl, ?_,hpv⟩
 have hr':Rel S X yv w m ((tm.zip a.tmps.toList++B)++AAa9 hp hv) hp hv:=by simpa using hr
 have hvl:c<hv.length:=by rw [hr'.hl];exact (Zac.1 hc).1
 have hcv:hv[c]? =some hv[c]:=Zba hvl
 obtain ⟨pre,post,e1,e2⟩:=ABp9 hcg hcv
 have e3:=e2 {blk with cells:=blk.cells.set off y} hv[c]
 have hvs:hv.set c hv[c]=hv:=ABl9 hcv
 rw [hvs] at e3
 have hcp:AAa9 (frz hp gs) hv=AAa9 hp hv:=AEp9 hv (AOx9 gs hp)
 have h3':Rel S' X yv w m ((blk.cells.zip hv[c])++((tm.zip a.tmps.toList++B)++(pre++post))) (frz hp gs) hv:=by
   refine Rel.perm (A:=(tm.zip a.tmps.toList++B)++AAa9 hp hv) (by simpa using h3) ?_
   rw [←hcp,e1]
   have:((tm.zip a.tmps.toList++B)++(pre++blk.cells.zip hv[c]++post)).Perm ((blk.cells.zip hv[c])++((tm.zip a.tmps.toList++B)++(pre++post))):=by
     have p1:(pre++blk.cells.zip hv[c]++post).Perm (blk.cells.zip hv[c]++(pre++post)):=by
       rw [←Zbt];exact List.Perm.append_right _ List.perm_append_comm
     refine (List.Perm.append_left _ p1).trans ?_
     rw [←Zbt,←Zbt (blk.cells.zip hv[c])]
     exact List.Perm.append_right _ List.perm_append_comm
   exact this
 have key:∀(l:List AV) (vs:List Value) (o:Nat),l[o]? =some x→(∀p∈l.zip vs,RV S w m yv p.1 p.2)→RP S' w m yv (l.zip vs) ((l.set o y).zip vs):=by
   intro l
   induction l with
   |nil=>intro vs o h;simp at h
   | cons z l ih=>
     intro vs o h hrv
     cases vs with
     |nil=>rw [List.zip_nil_right,List.zip_nil_right];exact .nil
     | cons v vs=>
       cases o with
       | zero=>
         simp at h;subst h
         refine .turn ?_ (ALh9 ho) ?_
         · exact (AIs9 hr' h1 hs (fun g hgg p hp i hi=>h4 g (hg g hgg) p hp i hi) (hrv (z,v) (by simp))).opened
         · have:∀q:List (AV×Value),RP S' w m yv q q:=fun q=>by
             induction q with
             |nil=>exact .nil
             |cons p q ih=>exact .keep ih
           exact this _
       | succ o=>
         simp only [List.set_cons_succ,List.zip_cons_cons]
         exact .keep (ih vs o (by simpa using h) fun p hp=>hrv p (List.mem_cons_of_mem _ hp))
 have h5:=Rel.rp (key blk.cells hv[c] off hx fun p hp=>hr'.rv p (Zft _ (by rw [←hcp,e1];exact List.mem_append_left _ (Zft _ hp)))) h3'
 have h6:Rel S' X yv w m ((tm.zip a.tmps.toList++B)++AAa9 ((frz hp gs).set c {blk with cells:=blk.cells.set off y}) hv) (frz hp gs) hv:=by
   refine h5.perm ?_
   rw [e3]
   have p1:(pre++(blk.cells.set off y).zip hv[c]++post).Perm ((blk.cells.set off y).zip hv[c]++(pre++post)):=by
     rw [←Zbt];exact List.Perm.append_right _ List.perm_append_comm
   refine List.Perm.symm ((List.Perm.append_left _ p1).trans ?_)
   rw [←Zbt,←Zbt ((blk.cells.set off y).zip hv[c])]
   exact List.Perm.append_right _ List.perm_append_comm
 have h7:Rel S' X yv w m ((tm.zip a.tmps.toList++B)++AAa9 ((frz hp gs).set c {blk with cells:=blk.cells.set off y}) hv) ((frz hp gs).set c {blk with cells:=blk.cells.set off y}) hv:=by
   refine ⟨h6.lt,h6.rv,h6.pw,h6.nm,h6.sp,h6.mnd,by rw [List.length_set];exact h6.ml,by rw [List.length_set];exact h6.hl,fun g b' p vs g1 g2 g3=> ?_,h6.gl⟩
   by_cases hgc:c=g
   · subst hgc
     rw [List.getElem?_set_self (Zac.1 hcg).1] at g1
     cases g1
     have:=h6.bl c blk p vs hcg g2 g3
     simpa using this
   · rw [List.getElem?_set_ne hgc] at g1
     exact h6.bl g b' p vs g1 g2 g3
 simpa using h7
def frozB (cs:List AV):Blk:=⟨cs,true,true,0⟩
noncomputable def lpG2:Code:=sub [1,8,1,1,1,1,1,1,0,1,2,3] (code f13)
noncomputable def lpG3:Code:=sub [1,8,1,1,1,1,1,1,0,1,2,3,1,1,0,2,1,1,1,2,3] (code f13)
def tmG2 (s:SideT) (me fr:Int) (i:Int):List AV:= [.bad, .bad, .d (i64 me), .bad, .d (i64 fr), .ptr 0 0, .ptr 1 0, .bad, .bad, .bad, .ptr 2 0, .rptr (sideD s)]++Zaq 72 .bad++ [.d (.sl 31 (rowsN s.ns)), .d (i64 s.ns.length), .d (i64 i)]++Zaq 49 .bad
def tmG3 (L:Nat) (s:SideT) (me fr:Int) (i:Int) (ak:List AskT) (j:Int):List AV:= [.bad, .bad, .d (i64 me), .bad, .d (i64 fr), .ptr 0 0, .ptr 1 0, .bad, .bad, .bad, .ptr 2 0, .rptr (sideD s)]++Zaq 6 .bad++ [.ptr L 0]++Zaq 65 .bad++ [.d (.sl 31 (rowsN s.ns)), .d (i64 s.ns.length), .d (i64 i)]++Zaq 9 .bad++ [.d (.sl 3 (rowsA ak)), .d (i64 ak.length), .d (i64 j)]++Zaq 37 .bad
def TG3:List (Nat×(List AV→(AV→Prop)→Prop)):= [(49,APg9),(51,BOj9),(52,cAddG)]
theorem BNe9:AAb9 prog TG3:=Zai AMd9 (Zai BFv9 (Zai BUy9 Zal))
abbrev Qz21 (v0:LayT) (v1:TabT) (v2:NearT):= [Blk.mk (Qz5 v0) false false 0,Blk.mk (Qz3 v1) false false 0,Blk.mk Qz6 false false 0,Blk.mk (Qz1 v2) false false 0]
theorem rG3_3 (s:SideT) (ly:LayT) (t:TabT) (n:NearT) (me fr i:Int) (ak:List AskT) (j:Int):wpc prog ⟨TG3, [],wl,y,false⟩ 100 lpG3 (tmG3 3 s me fr i ak j) [layB ly,tabB t,resB,nearB n] b (maskK 4 [2,4,5,6,10,11,18,84,85,86,96,97,98] K)=(BIf (decide (j<((Zaa ak:Nat):Int))) (BIf (true&&decide (0≤j)) (∃(x0:Int) (x1:Int) (x2:Int),(rowsA ak)[Zav j]? =some [i64 x0,i64 x1,i64 x2]∧BIf (x2 !=me) (K .normal (Zad::Zad::Zab (i64 me)::Zad::Zab (i64 fr)::Zak 0 0::Zak 1 0::bds 3 (Zak 2 0::Zag (Qz2 s)::bds 6 (Zak 3 0::bds 65 (Zab (Zaf 31 (rowsN (Zas s)))::Zab (i64 ((Zaa (Zas s):Nat):Int))::Zab (i64 i)::bds 9 (Zab (Zaf 3 (rowsA ak))::Zab (i64 ((Zaa ak:Nat):Int))::Zab (i64 (Zae .i64 (j+1)))::bds 37 []))))) (Qz21 ly t n) b) (∃(s5:SideT) (sl6:Int) (of7:Int) (but8:Int) (q9:Bool), [Zag (Qz2 s),Zao [Zab (i64 x0),Zab (i64 x1)],Zab (i64 (NearT.fm n))]= [Zag (Qz2 s5),Zao [Zab (i64 sl6),Zab (i64 of7)],Zab (i64 but8)]∧((Zaa (Zas s5)≤9223372036854775807∧(∀(x:NearT),x∈Zas s5→Zaa (Zbp x)≤9223372036854775807∧Zaa (Zbn x)≤9223372036854775807∧Zaa (Zcc x)≤9223372036854775807)∧layOk (Zcn s5)=true)∧q9=usedS (Zas s5) sl6 of7 but8)∧BIf q9 (K .normal (Zad::Zad::Zab (i64 me)::Zad::Zab (i64 fr)::Zak 0 0::Zak 1 0::bds 3 (Zak 2 0::Zag (Qz2 s)::bds 6 (Zak 3 0::bds 65 (Zab (Zaf 31 (rowsN (Zas s)))::Zab (i64 ((Zaa (Zas s):Nat):Int))::Zab (i64 i)::bds 9 (Zab (Zaf 3 (rowsA ak))::Zab (i64 ((Zaa ak:Nat):Int))::Zab (i64 (Zae .i64 (j+1)))::bds 37 []))))) (Qz21 ly t n) b) (∃(t10:TabT) (z11:TabT) (ly12:LayT) (u13:GraT) (e14:Int), [Zao (Qz3 t),Zao (Qz5 ly),Zao [Zab (i64 x0),Zab (i64 x1),Zab (i64 (NearT.fm n)),Zab (i64 fr),Zab (i64 (Zae .i64 (fr+8)))]]= [Zao (Qz3 t10),Zao (Qz5 ly12),Zao (Qz7 u13)]∧((Zaa (Zbj t10)<10000∧Zaa (Zbl t10)<10000∧Zaa (Zbo t10)<10000)∧z11=addSG t10 ly12 u13∧e14=refEG t10 ly12 u13)∧BIf (e14==(0:Int)) (K .normal (Zad::Zad::Zab (i64 me)::Zad::Zab (i64 fr)::Zak 0 0::Zak 1 0::bds 3 (Zak 2 0::Zag (Qz2 s)::bds 6 (Zak 3 0::bds 65 (Zab (Zaf 31 (rowsN (Zas s)))::Zab (i64 ((Zaa (Zas s):Nat):Int))::Zab (i64 i)::bds 9 (Zab (Zaf 3 (rowsA ak))::Zab (i64 ((Zaa ak:Nat):Int))::Zab (i64 (Zae .i64 (j+1)))::bds 37 []))))) (Qz21 ly z11 n) b) (K .normal (Zad::Zad::Zab (i64 me)::Zad::Zab (i64 fr)::Zak 0 0::Zak 1 0::bds 3 (Zak 2 0::Zag (Qz2 s)::bds 6 (Zak 3 0::bds 65 (Zab (Zaf 31 (rowsN (Zas s)))::Zab (i64 ((Zaa (Zas s):Nat):Int))::Zab (i64 i)::bds 9 (Zab (Zaf 3 (rowsA ak))::Zab (i64 ((Zaa ak:Nat):Int))::Zab (i64 (Zae .i64 (j+1)))::bds 37 []))))) (Qz21 ly t n) b)))) False) (K (Zbv 4) (Zad::Zad::Zab (i64 me)::Zad::Zab (i64 fr)::Zak 0 0::Zak 1 0::bds 3 (Zak 2 0::Zag (Qz2 s)::bds 6 (Zak 3 0::bds 65 (Zab (Zaf 31 (rowsN (Zas s)))::Zab (i64 ((Zaa (Zas s):Nat):Int))::Zab (i64 i)::bds 9 (Zab (Zaf 3 (rowsA ak))::Zab (i64 ((Zaa ak:Nat):Int))::Zab (i64 j)::bds 37 []))))) (Qz21 ly t n) b)):=by kernel_rfl
abbrev Qz16 (v0:LayT) (v1:TabT) (v2:List AV) (v3:NearT):= [Blk.mk (Qz5 v0) false false 0,Blk.mk (Qz3 v1) false false 0,Blk.mk Qz6 false false 0,Blk.mk v2 true true 0,Blk.mk (Qz1 v3) false false 0]
theorem rG3_4 (s:SideT) (ly:LayT) (t:TabT) (n:NearT) (me fr i:Int) (ak:List AskT) (j:Int) (cs:List AV):wpc prog ⟨TG3, [],wl,y,false⟩ 100 lpG3 (tmG3 4 s me fr i ak j) [layB ly,tabB t,resB,frozB cs,nearB n] b (maskK 5 [2,4,5,6,10,11,18,84,85,86,96,97,98] K)=(BIf (decide (j<((Zaa ak:Nat):Int))) (BIf (true&&decide (0≤j)) (∃(x0:Int) (x1:Int) (x2:Int),(rowsA ak)[Zav j]? =some [i64 x0,i64 x1,i64 x2]∧BIf (x2 !=me) (BIf (Zcb (Qz16 ly t cs n) fun (blk5:Blk)=>lows 5 blk5.1) (K .normal (Zad::Zad::Zab (i64 me)::Zad::Zab (i64 fr)::Zak 0 0::Zak 1 0::bds 3 (Zak 2 0::Zag (Qz2 s)::bds 6 (Zak 4 0::bds 65 (Zab (Zaf 31 (rowsN (Zas s)))::Zab (i64 ((Zaa (Zas s):Nat):Int))::Zab (i64 i)::bds 9 (Zab (Zaf 3 (rowsA ak))::Zab (i64 ((Zaa ak:Nat):Int))::Zab (i64 (Zae .i64 (j+1)))::bds 37 []))))) (Qz16 ly t cs n) b) False) (∃(s6:SideT) (sl7:Int) (of8:Int) (but9:Int) (q10:Bool), [Zag (Qz2 s),Zao [Zab (i64 x0),Zab (i64 x1)],Zab (i64 (NearT.fm n))]= [Zag (Qz2 s6),Zao [Zab (i64 sl7),Zab (i64 of8)],Zab (i64 but9)]∧((Zaa (Zas s6)≤9223372036854775807∧(∀(x:NearT),x∈Zas s6→Zaa (Zbp x)≤9223372036854775807∧Zaa (Zbn x)≤9223372036854775807∧Zaa (Zcc x)≤9223372036854775807)∧layOk (Zcn s6)=true)∧q10=usedS (Zas s6) sl7 of8 but9)∧BIf q10 (BIf (Zcb (Qz16 ly t cs n) fun (blk11:Blk)=>lows 5 blk11.1) (K .normal (Zad::Zad::Zab (i64 me)::Zad::Zab (i64 fr)::Zak 0 0::Zak 1 0::bds 3 (Zak 2 0::Zag (Qz2 s)::bds 6 (Zak 4 0::bds 65 (Zab (Zaf 31 (rowsN (Zas s)))::Zab (i64 ((Zaa (Zas s):Nat):Int))::Zab (i64 i)::bds 9 (Zab (Zaf 3 (rowsA ak))::Zab (i64 ((Zaa ak:Nat):Int))::Zab (i64 (Zae .i64 (j+1)))::bds 37 []))))) (Qz16 ly t cs n) b) False) (∃(t12:TabT) (z13:TabT) (ly14:LayT) (u15:GraT) (e16:Int), [Zao (Qz3 t),Zao (Qz5 ly),Zao [Zab (i64 x0),Zab (i64 x1),Zab (i64 (NearT.fm n)),Zab (i64 fr),Zab (i64 (Zae .i64 (fr+8)))]]= [Zao (Qz3 t12),Zao (Qz5 ly14),Zao (Qz7 u15)]∧((Zaa (Zbj t12)<10000∧Zaa (Zbl t12)<10000∧Zaa (Zbo t12)<10000)∧z13=addSG t12 ly14 u15∧e16=refEG t12 ly14 u15)∧BIf (e16==(0:Int)) (BIf (Zcb (Qz16 ly z13 cs n) fun (blk17:Blk)=>lows 5 blk17.1) (K .normal (Zad::Zad::Zab (i64 me)::Zad::Zab (i64 fr)::Zak 0 0::Zak 1 0::bds 3 (Zak 2 0::Zag (Qz2 s)::bds 6 (Zak 4 0::bds 65 (Zab (Zaf 31 (rowsN (Zas s)))::Zab (i64 ((Zaa (Zas s):Nat):Int))::Zab (i64 i)::bds 9 (Zab (Zaf 3 (rowsA ak))::Zab (i64 ((Zaa ak:Nat):Int))::Zab (i64 (Zae .i64 (j+1)))::bds 37 []))))) (Qz16 ly z13 cs n) b) False) (BIf (Zcb (Qz16 ly t cs n) fun (blk18:Blk)=>lows 5 blk18.1) (K .normal (Zad::Zad::Zab (i64 me)::Zad::Zab (i64 fr)::Zak 0 0::Zak 1 0::bds 3 (Zak 2 0::Zag (Qz2 s)::bds 6 (Zak 4 0::bds 65 (Zab (Zaf 31 (rowsN (Zas s)))::Zab (i64 ((Zaa (Zas s):Nat):Int))::Zab (i64 i)::bds 9 (Zab (Zaf 3 (rowsA ak))::Zab (i64 ((Zaa ak:Nat):Int))::Zab (i64 (Zae .i64 (j+1)))::bds 37 []))))) (Qz16 ly t cs n) b) False)))) False) (BIf (Zcb (Qz16 ly t cs n) fun (blk19:Blk)=>lows 5 blk19.1) (K (Zbv 4) (Zad::Zad::Zab (i64 me)::Zad::Zab (i64 fr)::Zak 0 0::Zak 1 0::bds 3 (Zak 2 0::Zag (Qz2 s)::bds 6 (Zak 4 0::bds 65 (Zab (Zaf 31 (rowsN (Zas s)))::Zab (i64 ((Zaa (Zas s):Nat):Int))::Zab (i64 i)::bds 9 (Zab (Zaf 3 (rowsA ak))::Zab (i64 ((Zaa ak:Nat):Int))::Zab (i64 j)::bds 37 []))))) (Qz16 ly t cs n) b) False)):=by kernel_rfl
def newG (fr:Int) (n:NearT) (a:AskT):GraT:=⟨a.sl,a.of,n.fm,fr,Zae Zay (fr+8)⟩
def AAm9 (s:SideT) (ly:LayT) (me fr:Int) (n:NearT) (t:TabT) (a:AskT):TabT:=
 if (a.pe !=me||usedS s.ns a.sl a.of n.fm)=true then t else if refEG t ly (newG fr n a)=0 then addSG t ly (newG fr n a) else t
theorem AKf9 {t:TabT} {l:LayT} (h:ACy9 t l=true):t.us.length+t.gs.length≤24∧t.ak.length≤24:=by
 unfold ACy9 at h
 split at h<;>try (cases h;done)
 split at h<;>try (cases h;done)
 split at h<;>try (cases h;done)
 split at h<;>try (cases h;done)
 split at h<;>try (cases h;done)
 split at h<;>try (cases h;done)
 omega
theorem ATr9 {α:Type} (p:α→Bool) (g:α):∀l:List α,(insP p g l).length=l.length+1
 | []=>rfl
 | x::r=>by
   rw [insP]
   split
   · rfl
   · rw [Zei,ATr9 p g r,Zei]
theorem AHx9 {t:TabT} {ly:LayT} {sl:Int} {ok:Bool} (h:refS t ly sl ok=0):ACy9 t ly=true∧ok=true∧busyT t sl=false∧t.us.length+t.gs.length<24:=by
 unfold refS at h
 split at h
 · rename_i h1
   rw [Zaj] at h1
   split at h
   · cases h
   · rename_i h2
     split at h
     · cases h
     · rename_i h3
       exact ⟨h1.1,h1.2,by simpa using h2,by omega⟩
 · cases h
theorem BVc9 {t:TabT} {ly:LayT} {u:GraT} (h:refEG t ly u=0):TabOk (addSG t ly u):=by
 obtain ⟨h1,_,_,h4⟩:=AHx9 h
 have h5:=AKf9 h1
 rw [addSG,if_pos h]
 refine ⟨by simp only;omega, ?_, ?_⟩
 · simp only [insSG,ATr9];omega
 · have:=Zdu (fun x:AskT=> !(x.sl==u.sl)) t.ak
   simp only [AGs9];omega
theorem BVb9 {t:TabT} {ly:LayT} {u:UseT} (h:refEU t ly u=0):TabOk (addSU t ly u):=by
 obtain ⟨h1,_,_,h4⟩:=AHx9 h
 have h5:=AKf9 h1
 rw [addSU,if_pos h]
 refine ⟨?_,by simp only;omega, ?_⟩
 · simp only [insSU,ATr9];omega
 · have:=Zdu (fun x:AskT=> !(x.sl==u.sl)) t.ak
   simp only [AGs9];omega
theorem AYz9 {s:SideT} {ly:LayT} {me fr:Int} {n:NearT} {t:TabT} {a:AskT} (h:TabOk t):TabOk (AAm9 s ly me fr n t a):=by
 unfold AAm9
 split
 · exact h
 · split
   · rename_i h1;exact BVc9 h1
   · exact h
theorem AWa9 {s:SideT} {ly:LayT} {me fr:Int} {n:NearT}:∀(l:List AskT) {t:TabT},TabOk t→TabOk (l.foldl (AAm9 s ly me fr n) t)
 | [],t,h=>h
 |a::l,t,h=>AWa9 l (AYz9 h)
theorem AFq9 {α β:Type} (f:β→α→β) (t:β) {l:List α} {i:Nat} {a:α} (h:l[i]? =some a):(l.take (i+1)).foldl f t=f ((l.take i).foldl f t) a:=by
 rw [List.take_add_one,h,List.foldl_append];rfl
def g3B_3 (ly:LayT) (n:NearT) (t:TabT):List Blk:= [layB ly,tabB t,resB,nearB n]
theorem BTi9 (ly:LayT) (n:NearT) (t:TabT):Zcb (g3B_3 ly n t) (fun blk=>lows 4 blk.1)=true:=by
 simp only [g3B_3,List.all_cons,List.all_nil,Bool.and_true,Zaj]
 exact ⟨rfl,rfl,rfl,rfl⟩
theorem CCn9 {Ev:Env prog} {b:Ev.β} {Q:Exit→St Ev.β→Prop} (s:SideT) (ly:LayT) (t:TabT) (n:NearT) (me fr i:Int) (ak:List AskT) (hs:AIz9 s) (ht:TabOk t) (hl:ak.length<1000000)
   (hQ:Q (.exit 4) ⟨tmG3 3 s me fr i ak ak.length,g3B_3 ly n (ak.foldl (AAm9 s ly me fr n) t),b⟩):WR Ev lpG3 (ak.length+1) ⟨tmG3 3 s me fr i ak (0:Nat),g3B_3 ly n t,b⟩ Q:=by
 have low:=BTi9 ly n
 refine WR.scanG (X:=⟨TG3, [],wlW Ev,Ev.Y,false⟩) (k:=100) (L:=4) [2,4,5,6,10,11,18,84,85,86,96,97,98] mixed (CX.Ok.of BNe9 Zah) ak (fun _=>false) (fun j=>tmG3 3 s me fr i ak (j:Nat)) (fun j=>g3B_3 ly n ((ak.take j).foldl (AAm9 s ly me fr n) t)) (fun _=>rfl) 4 0 (fun j a _ hj ha K _ k2=> ?_) (fun K k1=> ?_) (fun _=>by rw [Zdx];exact hQ) (fun h=>by simp at h) ak.length 0 (by simp) (Zau _) rfl
 · have hk:=k2 rfl
   have htj:TabOk ((ak.take j).foldl (AAm9 s ly me fr n) t):=AWa9 _ ht
   rw [AFq9 _ _ ha] at hk
   generalize (ak.take j).foldl (AAm9 s ly me fr n) t=tj at hk htj ⊢
   refine Eq.mpr (rG3_3 _ _ _ K s ly tj n me fr i ak j) ?_
   refine Zbg (by simp;omega) (Zbg (natI j) ⟨_,_,_,ACr9 ha,Zbh (fun h1=> ?_) fun h1=>⟨s,a.sl,a.of,n.fm,_,rfl,⟨hs,rfl⟩,Zbh (fun h2=> ?_) fun h2=>⟨tj,_,ly,newG fr n a,_,rfl,⟨htj,rfl,rfl⟩,Zbh (fun h3=> ?_) fun h3=> ?_⟩⟩⟩)
   · rw [wrapN (by omega)]
     have e:AAm9 s ly me fr n tj a=tj:=by rw [AAm9,show (a.pe !=me)=true from h1];rfl
     rw [e] at hk;exact hk
   · rw [wrapN (by omega)]
     have e:AAm9 s ly me fr n tj a=tj:=by rw [AAm9,h2,Zee];rfl
     rw [e] at hk;exact hk
   · rw [wrapN (by omega)]
     have h3':refEG tj ly (newG fr n a)=0:=by simpa using h3
     have e:AAm9 s ly me fr n tj a=addSG tj ly (newG fr n a):=by rw [AAm9,show (a.pe !=me)=false from h1,h2,if_pos h3'];rfl
     rw [e] at hk
     exact hk
   · rw [wrapN (by omega)]
     have h3':¬refEG tj ly (newG fr n a)=0:=by simpa using h3
     have e:AAm9 s ly me fr n tj a=tj:=by rw [AAm9,show (a.pe !=me)=false from h1,h2,if_neg h3'];rfl
     rw [e] at hk
     exact hk
 · refine Eq.mpr (rG3_3 _ _ _ K s ly _ n me fr i ak ak.length) ?_
   exact Zdl (by simp) k1
def BQl9 {β:Type}:WLT β:=fun cd tm hp b K=>∃(s:SideT) (ly:LayT) (t:TabT) (n:NearT) (me fr i:Int) (ak:List AskT) (q:TabT),cd= .loop lpG3∧ABd9 [2,4,5,6,10,11,18,84,85,86,96,97,98] 0 tm=tmG3 3 s me fr i ak 0∧hp=g3B_3 ly n t∧(AIz9 s∧TabOk t∧ak.length<1000000∧q=ak.foldl (AAm9 s ly me fr n) t)∧K (.exit 4) (tmG3 3 s me fr i ak ak.length) (g3B_3 ly n q) b
theorem BIq9 {Ev:Env prog} (c:Code) (tm:List AV) (hp:List Blk) (b:Ev.β) (K:Exit→List AV→List Blk→Ev.β→Prop) (h:BQl9 c tm hp b K):W Ev c ⟨tm,hp,b⟩ (fun e s=>K e s.tm s.hp s.b):=by
 obtain ⟨s,ly,t,n,me,fr,i,ak,_,rfl,htm,rfl,⟨hs,ht,hl,rfl⟩,hK⟩:=h
 refine W.cast (htm▸AAe9 _ tm 0) (Zce _) ?_
 exact W.rounds (CCn9 (Q:=fun e s=>K e s.tm s.hp s.b) s ly t n me fr i ak hs ht hl hK)
def g3B_4 (cs:List AV) (ly:LayT) (n:NearT) (t:TabT):List Blk:= [layB ly,tabB t,resB,frozB cs,nearB n]
theorem BTh9 (cs:List AV) (hcs:lows 5 cs=true) (ly:LayT) (n:NearT) (t:TabT):Zcb (g3B_4 cs ly n t) (fun blk=>lows 5 blk.1)=true:=by
 simp only [g3B_4,List.all_cons,List.all_nil,Bool.and_true,Zaj]
 exact ⟨rfl,rfl,rfl,hcs,rfl⟩
theorem CCm9 {Ev:Env prog} {b:Ev.β} {Q:Exit→St Ev.β→Prop} (cs:List AV) (hcs:lows 5 cs=true) (s:SideT) (ly:LayT) (t:TabT) (n:NearT) (me fr i:Int) (ak:List AskT) (hs:AIz9 s) (ht:TabOk t) (hl:ak.length<1000000)
   (hQ:Q (.exit 4) ⟨tmG3 4 s me fr i ak ak.length,g3B_4 cs ly n (ak.foldl (AAm9 s ly me fr n) t),b⟩):WR Ev lpG3 (ak.length+1) ⟨tmG3 4 s me fr i ak (0:Nat),g3B_4 cs ly n t,b⟩ Q:=by
 have low:=BTh9 cs hcs ly n
 refine WR.scanG (X:=⟨TG3, [],wlW Ev,Ev.Y,false⟩) (k:=100) (L:=5) [2,4,5,6,10,11,18,84,85,86,96,97,98] mixed (CX.Ok.of BNe9 Zah) ak (fun _=>false) (fun j=>tmG3 4 s me fr i ak (j:Nat)) (fun j=>g3B_4 cs ly n ((ak.take j).foldl (AAm9 s ly me fr n) t)) (fun _=>rfl) 4 0 (fun j a _ hj ha K _ k2=> ?_) (fun K k1=> ?_) (fun _=>by rw [Zdx];exact hQ) (fun h=>by simp at h) ak.length 0 (by simp) (Zau _) rfl
 · have hk:=k2 rfl
   have htj:TabOk ((ak.take j).foldl (AAm9 s ly me fr n) t):=AWa9 _ ht
   rw [AFq9 _ _ ha] at hk
   generalize (ak.take j).foldl (AAm9 s ly me fr n) t=tj at hk htj ⊢
   refine Eq.mpr (rG3_4 _ _ _ K s ly tj n me fr i ak j cs) ?_
   refine Zbg (by simp;omega) (Zbg (natI j) ⟨_,_,_,ACr9 ha,Zbh (fun h1=> ?_) fun h1=>⟨s,a.sl,a.of,n.fm,_,rfl,⟨hs,rfl⟩,Zbh (fun h2=> ?_) fun h2=>⟨tj,_,ly,newG fr n a,_,rfl,⟨htj,rfl,rfl⟩,Zbh (fun h3=> ?_) fun h3=> ?_⟩⟩⟩)
   · rw [wrapN (by omega)]
     have e:AAm9 s ly me fr n tj a=tj:=by rw [AAm9,show (a.pe !=me)=true from h1];rfl
     rw [e] at hk;exact Zbg (low tj) hk
   · rw [wrapN (by omega)]
     have e:AAm9 s ly me fr n tj a=tj:=by rw [AAm9,h2,Zee];rfl
     rw [e] at hk;exact Zbg (low tj) hk
   · rw [wrapN (by omega)]
     have h3':refEG tj ly (newG fr n a)=0:=by simpa using h3
     have e:AAm9 s ly me fr n tj a=addSG tj ly (newG fr n a):=by rw [AAm9,show (a.pe !=me)=false from h1,h2,if_pos h3'];rfl
     rw [e] at hk
     exact Zbg (low _) hk
   · rw [wrapN (by omega)]
     have h3':¬refEG tj ly (newG fr n a)=0:=by simpa using h3
     have e:AAm9 s ly me fr n tj a=tj:=by rw [AAm9,show (a.pe !=me)=false from h1,h2,if_neg h3'];rfl
     rw [e] at hk
     exact Zbg (low _) hk
 · refine Eq.mpr (rG3_4 _ _ _ K s ly _ n me fr i ak ak.length cs) ?_
   exact Zdl (by simp) (Zbg (low _) k1)
def BQk9 {β:Type}:WLT β:=fun cd tm hp b K=>∃(cs:List AV) (s:SideT) (ly:LayT) (t:TabT) (n:NearT) (me fr i:Int) (ak:List AskT) (q:TabT),cd= .loop lpG3∧ABd9 [2,4,5,6,10,11,18,84,85,86,96,97,98] 0 tm=tmG3 4 s me fr i ak 0∧hp=g3B_4 cs ly n t∧(lows 5 cs=true∧AIz9 s∧TabOk t∧ak.length<1000000∧q=ak.foldl (AAm9 s ly me fr n) t)∧K (.exit 4) (tmG3 4 s me fr i ak ak.length) (g3B_4 cs ly n q) b
theorem BIp9 {Ev:Env prog} (c:Code) (tm:List AV) (hp:List Blk) (b:Ev.β) (K:Exit→List AV→List Blk→Ev.β→Prop) (h:BQk9 c tm hp b K):W Ev c ⟨tm,hp,b⟩ (fun e s=>K e s.tm s.hp s.b):=by
 obtain ⟨cs,s,ly,t,n,me,fr,i,ak,_,rfl,htm,rfl,⟨hcs,hs,ht,hl,rfl⟩,hK⟩:=h
 refine W.cast (htm▸AAe9 _ tm 0) (Zce _) ?_
 exact W.rounds (CCm9 (Q:=fun e s=>K e s.tm s.hp s.b) cs hcs s ly t n me fr i ak hs ht hl hK)
abbrev Qz19 (v0:LayT) (v1:TabT):= [Blk.mk (Qz5 v0) false false 0,Blk.mk (Qz3 v1) false false 0,Blk.mk Qz6 false false 0]
theorem rG2_3 (s:SideT) (ly:LayT) (t:TabT) (me fr i:Int):wpc prog ⟨TG3, [],BQl9,y,false⟩ 100 lpG2 (tmG2 s me fr i) [layB ly,tabB t,resB] b (maskK 3 [2,4,5,6,10,11,84,85,86] K)=(BIf (decide (i<((Zaa (Zas s):Nat):Int))) (BIf (true&&decide (0≤i)) (∃(x0:Int) (x1:Int) (x2:Int) (x3:Int) (x4:Int) (x5:Int) (x6:Int) (x7:Int) (x8:Int) (x9:Int) (x10:Int) (x11:Int) (xs12:List (List Dv)) (xs13:List (List Dv)) (xs14:List (List Dv)) (xs15:List (List Dv)) (b16:Bool) (xs17:List (List Dv)) (xs18:List (List Dv)) (xs19:List (List Dv)) (x20:Int) (x21:Int) (x22:Int) (x23:Int) (x24:Int) (x25:Int) (x26:Int) (x27:Int) (xs28:List (List Dv)) (xs29:List (List Dv)) (b30:Bool),(rowsN (Zas s))[Zav i]? =some [i64 x0,i64 x1,i64 x2,i64 x3,i64 x4,i64 x5,i64 x6,i64 x7,i64 x8,i64 x9,i64 x10,i64 x11,Zaf 4 xs12,Zaf 5 xs13,Zaf 3 xs14,Zaf 4 xs15,bo b16,Zaf 8 xs17,Zaf 8 xs18,Zaf 1 xs19,i64 x20,i64 x21,u64 x22,i64 x23,i64 x24,i64 x25,i64 x26,i64 x27,Zaf 1 xs28,Zaf 1 xs29,bo b30]∧∃(s33:SideT) (n34:NearT) (q35:Bool), [Zag (Qz2 s),Zao [Zab (i64 x0),Zab (i64 x1),Zab (i64 x2),Zab (i64 x3),Zab (i64 x4),Zab (i64 x5),Zab (i64 x6),Zab (i64 x7),Zab (i64 x8),Zab (i64 x9),Zab (i64 x10),Zab (i64 x11),Zab (Zaf 4 xs12),Zab (Zaf 5 xs13),Zab (Zaf 3 xs14),Zab (Zaf 4 xs15),Zab (bo b16),Zab (Zaf 8 xs17),Zab (Zaf 8 xs18),Zab (Zaf 1 xs19),Zab (i64 x20),Zab (i64 x21),Zab (u64 x22),Zab (i64 x23),Zab (i64 x24),Zab (i64 x25),Zab (i64 x26),Zab (i64 x27),Zab (Zaf 1 xs28),Zab (Zaf 1 xs29),Zab (bo b30)]]= [Zag (Qz2 s33),Zao (Qz1 n34)]∧q35=AJn9 s33 n34∧BIf (!q35) (K .normal (Zad::Zad::Zab (i64 me)::Zad::Zab (i64 fr)::Zak 0 0::Zak 1 0::bds 3 (Zak 2 0::Zag (Qz2 s)::bds 72 (Zab (Zaf 31 (rowsN (Zas s)))::Zab (i64 ((Zaa (Zas s):Nat):Int))::Zab (i64 (Zae .i64 (i+1)))::bds 49 []))) (Qz19 ly t) b) (∃(s36:SideT) (ly37:LayT) (t38:TabT) (n39:NearT) (me40:Int) (fr41:Int) (i42:Int) (ak43:List AskT) (q44:TabT),Zaz lpG3=Zaz lpG3∧(Zad::Zad::Zab (i64 me)::Zad::Zab (i64 fr)::Zak 0 0::Zak 1 0::bds 3 (Zak 2 0::Zag (Qz2 s)::bds 6 (Zak 3 0::bds 65 (Zab (Zaf 31 (rowsN (Zas s)))::Zab (i64 ((Zaa (Zas s):Nat):Int))::Zab (i64 i)::bds 9 (Zab (Zaf 3 xs14)::Zab (i64 ((Zaa xs14:Nat):Int))::Zab (i64 0)::bds 37 [])))))=(Zad::Zad::Zab (i64 me40)::Zad::Zab (i64 fr41)::Zak 0 0::Zak 1 0::bds 3 (Zak 2 0::Zag (Qz2 s36)::bds 6 (Zak 3 0::bds 65 (Zab (Zaf 31 (rowsN (Zas s36)))::Zab (i64 ((Zaa (Zas s36):Nat):Int))::Zab (i64 i42)::bds 9 (Zab (Zaf 3 (rowsA ak43))::Zab (i64 ((Zaa ak43:Nat):Int))::Zab (i64 0)::bds 37 [])))))∧ [Blk.mk (Qz5 ly) false false 0,Blk.mk (Qz3 t) false false 0,Blk.mk Qz6 false false 0,Blk.mk [Zab (i64 x0),Zab (i64 x1),Zab (i64 x2),Zab (i64 x3),Zab (i64 x4),Zab (i64 x5),Zab (i64 x6),Zab (i64 x7),Zab (i64 x8),Zab (i64 x9),Zab (i64 x10),Zab (i64 x11),Zab (Zaf 4 xs12),Zab (Zaf 5 xs13),Zab (Zaf 3 xs14),Zab (Zaf 4 xs15),Zab (bo b16),Zab (Zaf 8 xs17),Zab (Zaf 8 xs18),Zab (Zaf 1 xs19),Zab (i64 x20),Zab (i64 x21),Zab (u64 x22),Zab (i64 x23),Zab (i64 x24),Zab (i64 x25),Zab (i64 x26),Zab (i64 x27),Zab (Zaf 1 xs28),Zab (Zaf 1 xs29),Zab (bo b30)] false false 0]=(Qz21 ly37 t38 n39)∧((Zaa (Zas s36)≤9223372036854775807∧(∀(x:NearT),x∈Zas s36→Zaa (Zbp x)≤9223372036854775807∧Zaa (Zbn x)≤9223372036854775807∧Zaa (Zcc x)≤9223372036854775807)∧layOk (Zcn s36)=true)∧(Zaa (Zbj t38)<10000∧Zaa (Zbl t38)<10000∧Zaa (Zbo t38)<10000)∧Zaa ak43<1000000∧q44=List.foldl (AAm9 s36 ly37 me40 fr41 n39) t38 ak43)∧K .normal (Zad::Zad::Zab (i64 me40)::Zad::Zab (i64 fr41)::Zak 0 0::Zak 1 0::bds 3 (Zak 2 0::Zag (Qz2 s36)::bds 72 (Zab (Zaf 31 (rowsN (Zas s36)))::Zab (i64 ((Zaa (Zas s36):Nat):Int))::Zab (i64 (Zae .i64 (i42+1)))::bds 49 []))) (Qz19 ly37 q44) b)) False) (K (Zbv 2) (Zad::Zad::Zab (i64 me)::Zad::Zab (i64 fr)::Zak 0 0::Zak 1 0::bds 3 (Zak 2 0::Zag (Qz2 s)::bds 72 (Zab (Zaf 31 (rowsN (Zas s)))::Zab (i64 ((Zaa (Zas s):Nat):Int))::Zab (i64 i)::bds 49 []))) (Qz19 ly t) b)):=by kernel_rfl
abbrev Qz30 (v0:LayT) (v1:TabT) (v2:List AV):= [Blk.mk (Qz5 v0) false false 0,Blk.mk (Qz3 v1) false false 0,Blk.mk Qz6 false false 0,Blk.mk v2 true true 0]
theorem rG2_4 (s:SideT) (ly:LayT) (t:TabT) (me fr i:Int) (cs:List AV):wpc prog ⟨TG3, [],BQk9,y,false⟩ 100 lpG2 (tmG2 s me fr i) [layB ly,tabB t,resB,frozB cs] b (maskK 4 [2,4,5,6,10,11,84,85,86] K)=(BIf (decide (i<((Zaa (Zas s):Nat):Int))) (BIf (true&&decide (0≤i)) (∃(x0:Int) (x1:Int) (x2:Int) (x3:Int) (x4:Int) (x5:Int) (x6:Int) (x7:Int) (x8:Int) (x9:Int) (x10:Int) (x11:Int) (xs12:List (List Dv)) (xs13:List (List Dv)) (xs14:List (List Dv)) (xs15:List (List Dv)) (b16:Bool) (xs17:List (List Dv)) (xs18:List (List Dv)) (xs19:List (List Dv)) (x20:Int) (x21:Int) (x22:Int) (x23:Int) (x24:Int) (x25:Int) (x26:Int) (x27:Int) (xs28:List (List Dv)) (xs29:List (List Dv)) (b30:Bool),(rowsN (Zas s))[Zav i]? =some [i64 x0,i64 x1,i64 x2,i64 x3,i64 x4,i64 x5,i64 x6,i64 x7,i64 x8,i64 x9,i64 x10,i64 x11,Zaf 4 xs12,Zaf 5 xs13,Zaf 3 xs14,Zaf 4 xs15,bo b16,Zaf 8 xs17,Zaf 8 xs18,Zaf 1 xs19,i64 x20,i64 x21,u64 x22,i64 x23,i64 x24,i64 x25,i64 x26,i64 x27,Zaf 1 xs28,Zaf 1 xs29,bo b30]∧∃(s33:SideT) (n34:NearT) (q35:Bool), [Zag (Qz2 s),Zao [Zab (i64 x0),Zab (i64 x1),Zab (i64 x2),Zab (i64 x3),Zab (i64 x4),Zab (i64 x5),Zab (i64 x6),Zab (i64 x7),Zab (i64 x8),Zab (i64 x9),Zab (i64 x10),Zab (i64 x11),Zab (Zaf 4 xs12),Zab (Zaf 5 xs13),Zab (Zaf 3 xs14),Zab (Zaf 4 xs15),Zab (bo b16),Zab (Zaf 8 xs17),Zab (Zaf 8 xs18),Zab (Zaf 1 xs19),Zab (i64 x20),Zab (i64 x21),Zab (u64 x22),Zab (i64 x23),Zab (i64 x24),Zab (i64 x25),Zab (i64 x26),Zab (i64 x27),Zab (Zaf 1 xs28),Zab (Zaf 1 xs29),Zab (bo b30)]]= [Zag (Qz2 s33),Zao (Qz1 n34)]∧q35=AJn9 s33 n34∧BIf (!q35) (BIf (Zcb (Qz30 ly t cs) fun (blk36:Blk)=>lows 4 blk36.1) (K .normal (Zad::Zad::Zab (i64 me)::Zad::Zab (i64 fr)::Zak 0 0::Zak 1 0::bds 3 (Zak 2 0::Zag (Qz2 s)::bds 72 (Zab (Zaf 31 (rowsN (Zas s)))::Zab (i64 ((Zaa (Zas s):Nat):Int))::Zab (i64 (Zae .i64 (i+1)))::bds 49 []))) (Qz30 ly t cs) b) False) (∃(cs37:List AV) (s38:SideT) (ly39:LayT) (t40:TabT) (n41:NearT) (me42:Int) (fr43:Int) (i44:Int) (ak45:List AskT) (q46:TabT),Zaz lpG3=Zaz lpG3∧(Zad::Zad::Zab (i64 me)::Zad::Zab (i64 fr)::Zak 0 0::Zak 1 0::bds 3 (Zak 2 0::Zag (Qz2 s)::bds 6 (Zak 4 0::bds 65 (Zab (Zaf 31 (rowsN (Zas s)))::Zab (i64 ((Zaa (Zas s):Nat):Int))::Zab (i64 i)::bds 9 (Zab (Zaf 3 xs14)::Zab (i64 ((Zaa xs14:Nat):Int))::Zab (i64 0)::bds 37 [])))))=(Zad::Zad::Zab (i64 me42)::Zad::Zab (i64 fr43)::Zak 0 0::Zak 1 0::bds 3 (Zak 2 0::Zag (Qz2 s38)::bds 6 (Zak 4 0::bds 65 (Zab (Zaf 31 (rowsN (Zas s38)))::Zab (i64 ((Zaa (Zas s38):Nat):Int))::Zab (i64 i44)::bds 9 (Zab (Zaf 3 (rowsA ak45))::Zab (i64 ((Zaa ak45:Nat):Int))::Zab (i64 0)::bds 37 [])))))∧ [Blk.mk (Qz5 ly) false false 0,Blk.mk (Qz3 t) false false 0,Blk.mk Qz6 false false 0,Blk.mk cs true true 0,Blk.mk [Zab (i64 x0),Zab (i64 x1),Zab (i64 x2),Zab (i64 x3),Zab (i64 x4),Zab (i64 x5),Zab (i64 x6),Zab (i64 x7),Zab (i64 x8),Zab (i64 x9),Zab (i64 x10),Zab (i64 x11),Zab (Zaf 4 xs12),Zab (Zaf 5 xs13),Zab (Zaf 3 xs14),Zab (Zaf 4 xs15),Zab (bo b16),Zab (Zaf 8 xs17),Zab (Zaf 8 xs18),Zab (Zaf 1 xs19),Zab (i64 x20),Zab (i64 x21),Zab (u64 x22),Zab (i64 x23),Zab (i64 x24),Zab (i64 x25),Zab (i64 x26),Zab (i64 x27),Zab (Zaf 1 xs28),Zab (Zaf 1 xs29),Zab (bo b30)] false false 0]=(Qz16 ly39 t40 cs37 n41)∧(lows 5 cs37=true∧(Zaa (Zas s38)≤9223372036854775807∧(∀(x:NearT),x∈Zas s38→Zaa (Zbp x)≤9223372036854775807∧Zaa (Zbn x)≤9223372036854775807∧Zaa (Zcc x)≤9223372036854775807)∧layOk (Zcn s38)=true)∧(Zaa (Zbj t40)<10000∧Zaa (Zbl t40)<10000∧Zaa (Zbo t40)<10000)∧Zaa ak45<1000000∧q46=List.foldl (AAm9 s38 ly39 me42 fr43 n41) t40 ak45)∧BIf (Zcb (Qz30 ly39 q46 cs37) fun (blk47:Blk)=>lows 4 blk47.1) (K .normal (Zad::Zad::Zab (i64 me42)::Zad::Zab (i64 fr43)::Zak 0 0::Zak 1 0::bds 3 (Zak 2 0::Zag (Qz2 s38)::bds 72 (Zab (Zaf 31 (rowsN (Zas s38)))::Zab (i64 ((Zaa (Zas s38):Nat):Int))::Zab (i64 (Zae .i64 (i44+1)))::bds 49 []))) (Qz30 ly39 q46 cs37) b) False)) False) (BIf (Zcb (Qz30 ly t cs) fun (blk48:Blk)=>lows 4 blk48.1) (K (Zbv 2) (Zad::Zad::Zab (i64 me)::Zad::Zab (i64 fr)::Zak 0 0::Zak 1 0::bds 3 (Zak 2 0::Zag (Qz2 s)::bds 72 (Zab (Zaf 31 (rowsN (Zas s)))::Zab (i64 ((Zaa (Zas s):Nat):Int))::Zab (i64 i)::bds 49 []))) (Qz30 ly t cs) b) False)):=by kernel_rfl
end Go.Proofs.YthcbbmnjikhihaaGreat.Am
